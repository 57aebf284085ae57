/- Layer 19's functions, and those of the document, by what they answer. No conditions but that slices read as lists. -/
import Derived.Test.YtelmlkcoeihhjaaFl4
import Derived.Test.YtelmlkcoeihhjaaLq
import Derived.Test.YtelmlkcoeihhjaaLp
namespace Go.Proofs.Ytelmlkcoeihhjaa.Lr
open Go.RowKit Go.Proofs.Ytelmlkcoeihhjaa.Fl Go.Proofs.Ytelmlkcoeihhjaa.My Go.Proofs.Ytelmlkcoeihhjaa.Lo Go.Proofs.Ytelmlkcoeihhjaa.Lp Go.Proofs.Ytelmlkcoeihhjaa.Lq Go.Proofs.YtelmlkcoeihhjaaW.PrintWords Go.Proofs.YtelmlkcoeihhjaaW.PrintLast Go.Proofs.YtelmlkcoeihhjaaW.PrintMore
set_option linter.unusedVariables false
set_option linter.unusedSimpArgs false

theorem speaks_any (w : World) : Calls Try.prog 13 #[] w fun e w' => e = .returned (.bool true) ∧ Below w.heap.size w w' :=
  marlinelaw19_speaks.calls 60 true w (by decide +kernel)

/-- A list of numbers, read at any length's name. -/
theorem put_any (p c i : Int) (A3 : Option Addr) (n3 c3 : Nat) (s m : Int) (A6 : Option Addr) (n6 c6 : Nat) (A7 : Option Addr) (n7 c7 : Nat) (A8 : Option Addr) (n8 c8 : Nat) (A9 : Option Addr) (n9 c9 : Nat)
    (os : List S80) (one two data xs : List Int) (w : World)
    (h3 : k80.C w A3 n3 os) (k3 : n3 ≤ c3) (h6 : (Kd.int .u8).C w A6 n6 one) (k6 : n6 ≤ c6) (h7 : (Kd.int .u8).C w A7 n7 two) (k7 : n7 ≤ c7) (h8 : (Kd.int .u8).C w A8 n8 data) (k8 : n8 ≤ c8) (h9 : (Kd.int .u32).C w A9 n9 xs) (k9 : n9 ≤ c9)
    (hc : 0 ≤ c ∧ c ≤ 255) (hi : 0 ≤ i ∧ i ≤ 255) (b3 : n3 ≤ 140737488355328) (b6 : n6 ≤ 140737488355328) (b7 : n7 ≤ 140737488355328) (b8 : n8 ≤ 140737488355328) (hx : ∀ x ∈ xs, 0 ≤ x ∧ x < 4294967296) :
    Calls Try.prog 17 #[pkt p c i A3 n3 c3 s m A6 n6 c6 A7 n7 c7 A8 n8 c8 A9 n9 c9] w fun e w' => ∃ A' c', e = .returned (.tuple #[.slice A' (putSpec p c i n3 s m n6 n7 n8 xs).1.length c', .int .i64 (putSpec p c i n3 s m n6 n7 n8 xs).2]) ∧
      (putSpec p c i n3 s m n6 n7 n8 xs).1.length ≤ c' ∧ (Kd.int .u8).C w' A' (putSpec p c i n3 s m n6 n7 n8 xs).1.length (putSpec p c i n3 s m n6 n7 n8 xs).1 ∧ Below w.heap.size w w' := by
  obtain rfl : os.length = n3 := h3.1
  obtain rfl : one.length = n6 := h6.1
  obtain rfl : two.length = n7 := h7.1
  obtain rfl : data.length = n8 := h8.1
  obtain rfl : xs.length = n9 := h9.1
  refine (lqr_Put.calls 40 p c i A3 c3 os s m A6 c6 one A7 c7 two A8 c8 data A9 c9 xs _ _ w h3 k3 h6 k6 h7 k7 h8 k8 h9 k9 (put_prog p c i os s m one two data xs hc hi b3 b6 b7 b8 hx)).mono ?_
  rintro e w' ⟨v, rfl, hR, hb⟩
  obtain ⟨A', c', rfl, hc', hC⟩ := Kd.R_reads hR
  exact ⟨A', c', rfl, hc', hC, hb⟩

theorem get_any (A : Option Addr) (n c : Nat) (l : List Int) (w : World) (h : (Kd.int .u8).C w A n l) (k : n ≤ c) (hb : ∀ x ∈ l, 0 ≤ x ∧ x ≤ 255) :
    Calls Try.prog 19 #[.slice A n c] w fun e w' => ∃ A3 c3 A6 c6 A7 c7 A8 c8 A9 c9, e = .returned (.tuple #[pkt (getSpec l).1 0 0 A3 0 c3 0 0 A6 0 c6 A7 0 c7 A8 0 c8 A9 (getSpec l).2.1.length c9, .int .i64 (getSpec l).2.2]) ∧
      (k80.C w' A3 0 [] ∧ (Kd.int .u8).C w' A6 0 [] ∧ (Kd.int .u8).C w' A7 0 [] ∧ (Kd.int .u8).C w' A8 0 []) ∧ (getSpec l).2.1.length ≤ c9 ∧ (Kd.int .u32).C w' A9 (getSpec l).2.1.length (getSpec l).2.1 ∧ (Kd.int .u32).R 29 w' w.heap.size (fun _ => True) (.slice A9 (getSpec l).2.1.length c9) (getSpec l).2.1 ∧ Below w.heap.size w w' := by
  obtain rfl : l.length = n := h.1
  refine (lqr_Get.calls 40 A c l _ _ _ _ _ _ _ _ _ _ _ w h k (get_prog l hb)).mono ?_
  rintro e w' ⟨v3, v6, v7, v8, v9, rfl, h3, h6, h7, h8, h9, hb⟩
  obtain ⟨A3, c3, rfl, _, g3⟩ := Kd.S_reads h3
  obtain ⟨A6, c6, rfl, _, g6⟩ := Kd.R_reads h6
  obtain ⟨A7, c7, rfl, _, g7⟩ := Kd.R_reads h7
  obtain ⟨A8, c8, rfl, _, g8⟩ := Kd.R_reads h8
  obtain ⟨A9, c9, rfl, k9, g9⟩ := Kd.R_reads h9
  exact ⟨A3, c3, A6, c6, A7, c7, A8, c8, A9, c9, rfl, ⟨g3, g6, g7, g8⟩, k9, g9, h9, hb⟩

theorem equal_loop (xs ys : List Int) (hl : xs.length = ys.length) (hm : xs.length ≤ 4294967296) (d : Nat) : ∀ (k i : Nat), i + d = xs.length → d < k →
    marlineref01_Equal.l0 k xs ys (i : Int) = some (decide (xs.drop i = ys.drop i)) := by
  induction d with
  | zero =>
    intro k i hi hk
    obtain ⟨k, rfl⟩ : ∃ m, k = m + 1 := ⟨k - 1, by omega⟩
    simp only [marlineref01_Equal.l0]
    rw [if_neg (by omega), List.drop_of_length_le (by omega), List.drop_of_length_le (by omega)]
    simp
  | succ d ih =>
    intro k i hi hk
    obtain ⟨k, rfl⟩ : ∃ m, k = m + 1 := ⟨k - 1, by omega⟩
    simp only [marlineref01_Equal.l0]
    have hx : i < xs.length := by omega
    have hy : i < ys.length := by omega
    rw [if_pos (by omega), if_pos (by omega), if_pos (by omega)]
    have ex : rd xs (i : Int) = xs[i] := by simp [rd, hx]
    have ey : rd ys (i : Int) = ys[i] := by simp [rd, hy]
    have dx : xs.drop i = xs[i] :: xs.drop (i + 1) := List.drop_eq_getElem_cons hx
    have dy : ys.drop i = ys[i] :: ys.drop (i + 1) := List.drop_eq_getElem_cons hy
    rw [ex, ey, dx, dy]
    by_cases he : xs[i] = ys[i]
    · rw [if_pos he, show wrap64 ((i : Int) + 1) = ((i + 1 : Nat) : Int) from by unfold wrap64; omega, ih k (i + 1) (by omega) (by omega)]
      congr 1
      rw [decide_eq_decide, List.cons.injEq]
      exact ⟨fun h => ⟨he, h⟩, fun h => h.2⟩
    · rw [if_neg he, eq_comm, Option.some.injEq, decide_eq_false_iff_not, List.cons.injEq]
      exact fun h => he h.1

theorem equal_prog (xs ys : List Int) (hm : xs.length ≤ 4294967296) (k : Nat) (hk : xs.length < k) : marlineref01_Equal.f k xs ys = some (decide (xs = ys)) := by
  unfold marlineref01_Equal.f
  by_cases hl : xs.length = ys.length
  · rw [if_pos (by omega)]
    have := equal_loop xs ys hl hm xs.length k 0 (by omega) (by omega)
    simpa using this
  · rw [if_neg (by omega)]
    have : xs ≠ ys := fun h => hl (by rw [h])
    simp [this]
theorem equal_any (A0 : Option Addr) (n0 c0 : Nat) (xs : List Int) (A1 : Option Addr) (n1 c1 : Nat) (ys : List Int) (w : World) (b : Bool) (h0 : Kd.C (Kd.int .u8) w A0 n0 xs) (k0 : n0 ≤ c0) (h1 : Kd.C (Kd.int .u8) w A1 n1 ys) (k1 : n1 ≤ c1) (hm : n0 ≤ 4294967296) (hb : decide (xs = ys) = b) :
    Calls Try.prog 16 #[.slice A0 n0 c0, .slice A1 n1 c1] w fun e w' => e = .returned (.bool b) ∧ Drawn0 w w' := by
  obtain rfl : xs.length = n0 := h0.1
  obtain rfl : ys.length = n1 := h1.1
  exact hb ▸ marlineref01_Equal.calls (xs.length + 1) A0 c0 xs A1 c1 ys _ w h0 k0 h1 k1 (equal_prog xs ys hm _ (by omega))

theorem same_loop (p c i s m : Int) (xs : List Int) (hm : xs.length ≤ 4294967296) (d : Nat) : ∀ (k j : Nat), j + d = xs.length → d + 3 < k →
    marlineref15_Same.l0 k (j : Int) p c i [] s m [] [] [] xs p c i [] s m [] [] [] xs = some true := by
  induction d with
  | zero =>
    intro k j hj hk
    obtain ⟨k, rfl⟩ : ∃ m, k = m + 3 := ⟨k - 3, by omega⟩
    simp only [marlineref15_Same.l0]
    rw [if_neg (by omega)]
    have e1 : marlineref12_Same.f (k + 2) [] [] = some true := by
      unfold marlineref12_Same.f
      rw [if_pos rfl]
      simp only [marlineref12_Same.l0]
      rw [if_neg (by decide)]
    have e2 : marlineref01_Equal.f (k + 2) [] [] = some true := by
      rw [equal_prog [] [] (by decide) (k + 2) (by simp)]
      rfl
    rw [e1, Option.bind_some, if_pos rfl, e2, Option.bind_some, if_pos rfl, Option.bind_some, if_pos rfl, Option.bind_some]
  | succ d ih =>
    intro k j hj hk
    obtain ⟨k, rfl⟩ : ∃ m, k = m + 1 := ⟨k - 1, by omega⟩
    simp only [marlineref15_Same.l0]
    rw [if_pos (by omega), if_pos (by omega), if_pos (by omega), if_pos trivial, show wrap64 ((j : Int) + 1) = ((j + 1 : Nat) : Int) from by unfold wrap64; omega]
    exact ih k (j + 1) (by omega) (by omega)

theorem same_prog (p c i s m : Int) (xs : List Int) (hm : xs.length ≤ 4294967296) (k : Nat) (hk : xs.length + 4 < k) : marlineref15_Same.f k p c i [] s m [] [] [] xs p c i [] s m [] [] [] xs = some true := by
  unfold marlineref15_Same.f
  rw [if_pos rfl, if_pos rfl, if_pos rfl, if_pos rfl, if_pos rfl, bne_self_eq_false]
  obtain ⟨k, rfl⟩ : ∃ m, k = m + 1 := ⟨k - 1, by omega⟩
  simp only [marlineref15_Same.j0]
  rw [if_neg (by decide)]
  exact same_loop p c i s m xs hm xs.length k 0 (by omega) (by omega)

/-- A packet without lists but numbers is the same as one that reads so, too. -/
theorem same_any (p c i s m : Int) (A3 A6 A7 A8 A9 B3 B6 B7 B8 B9 : Option Addr) (c3 c6 c7 c8 c9 d3 d6 d7 d8 d9 n9 : Nat) (xs : List Int) (w : World)
    (h3 : k79.C w A3 0 []) (h6 : (Kd.int .u8).C w A6 0 []) (h7 : (Kd.int .u8).C w A7 0 []) (h8 : (Kd.int .u8).C w A8 0 []) (h9 : (Kd.int .u32).C w A9 n9 xs) (k9 : n9 ≤ c9)
    (g3 : k79.C w B3 0 []) (g6 : (Kd.int .u8).C w B6 0 []) (g7 : (Kd.int .u8).C w B7 0 []) (g8 : (Kd.int .u8).C w B8 0 []) (g9 : (Kd.int .u32).C w B9 n9 xs) (l9 : n9 ≤ d9) (hm : n9 ≤ 4294967296) :
    Calls Try.prog 20 #[pkt p c i A3 0 c3 s m A6 0 c6 A7 0 c7 A8 0 c8 A9 n9 c9, pkt p c i B3 0 d3 s m B6 0 d6 B7 0 d7 B8 0 d8 B9 n9 d9] w fun e w' => e = .returned (.bool true) ∧ Below w.heap.size w w' := by
  obtain rfl : xs.length = n9 := h9.1
  exact marlineref15_Same.calls (xs.length + 5) p c i A3 c3 [] s m A6 c6 [] A7 c7 [] A8 c8 [] A9 c9 xs p c i B3 d3 [] s m B6 d6 [] B7 d7 [] B8 d8 [] B9 d9 xs true w h3 (Nat.zero_le _) h6 (Nat.zero_le _) h7 (Nat.zero_le _) h8 (Nat.zero_le _) h9 k9 g3 (Nat.zero_le _) g6 (Nat.zero_le _) g7 (Nat.zero_le _) g8 (Nat.zero_le _) g9 l9 (same_prog p c i s m xs hm _ (by omega))

end Go.Proofs.Ytelmlkcoeihhjaa.Lr
