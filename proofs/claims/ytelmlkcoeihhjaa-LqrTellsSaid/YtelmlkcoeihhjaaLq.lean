/- What layer 19's functions come to, in plain numbers and lists. No conditions but that numbers are of their kind. -/
import Derived.Test.YtelmlkcoeihhjaaFl3
import Derived.OpenShut
namespace Go.Proofs.Ytelmlkcoeihhjaa.Lq
open Go.RowKit Go.Proofs.Ytelmlkcoeihhjaa.Fl Go.Proofs.YtelmlkcoeihhjaaW.PrintWords Go.Proofs.YtelmlkcoeihhjaaW.PrintLast
set_option linter.unusedVariables false
set_option linter.unusedSimpArgs false

/-- A number of 32 bits as four octets. -/
def b4 (n : Int) : List Int := [n / 16777216 % 256, n / 65536 % 256, n / 256 % 256, n % 256]

theorem b4_length (n : Int) : (b4 n).length = 4 := rfl
theorem flat_length (xs : List Int) : (xs.flatMap b4).length = 4 * xs.length := by
  induction xs with
  | nil => rfl
  | cons x xs ih => rw [List.flatMap_cons, List.length_append, ih, b4_length, List.length_cons]; omega

theorem shr_of (x : Int) (y : Int) (h0 : 0 ≤ y) (h : y ≤ 64) : shr .u64 x y = x / 2 ^ y.toNat := by
  unfold shr
  rw [Nat.min_eq_left (show y.toNat ≤ IntKind.u64.bits from by simp [IntKind.bits]; omega)]

theorem put4 (l : List Int) (n : Int) (hl : l.length < 4294967296) (k : Nat) (hk : 5 ≤ k) : wire_Put.f k l n 4 = some (l ++ b4 n) := by
  obtain ⟨k, rfl⟩ : ∃ m, k = m + 5 := ⟨k - 5, by omega⟩
  unfold wire_Put.f
  rw [show wrap64 (4 - 1) = 3 from by kernel_rfl]
  simp only [wire_Put.l0]
  rw [if_pos (by decide), show wrap64 (8 * 3) = 24 from by kernel_rfl, if_pos (by decide), if_pos (by omega), show wrap64 (3 - 1) = 2 from by kernel_rfl]
  rw [if_pos (by decide), show wrap64 (8 * 2) = 16 from by kernel_rfl, if_pos (by decide), if_pos (by simp only [List.length_append, List.length_cons, List.length_nil]; omega), show wrap64 (2 - 1) = 1 from by kernel_rfl]
  rw [if_pos (by decide), show wrap64 (8 * 1) = 8 from by kernel_rfl, if_pos (by decide), if_pos (by simp only [List.length_append, List.length_cons, List.length_nil]; omega), show wrap64 (1 - 1) = 0 from by kernel_rfl]
  rw [if_pos (by decide), show wrap64 (8 * 0) = 0 from by kernel_rfl, if_pos (by decide), if_pos (by simp only [List.length_append, List.length_cons, List.length_nil]; omega), show wrap64 (0 - 1) = -1 from by kernel_rfl]
  rw [if_neg (by decide), shr_of _ 24 (by decide) (by decide), shr_of _ 16 (by decide) (by decide), shr_of _ 8 (by decide) (by decide), shr_of _ 0 (by decide) (by decide)]
  simp [b4]

theorem u64_w {a : Int} (h0 : 0 ≤ a) (h1 : a ≤ 1099511627776) : IntKind.u64.wrap a = a := by
  simp [IntKind.wrap, IntKind.bits, IntKind.signed]; omega

theorem rd_at (xs : List Int) (i : Nat) (h : i < xs.length) : rd xs (i : Int) = xs[i] := by simp [rd, h]

theorem put_loop (xs : List Int) (hx : ∀ x ∈ xs, 0 ≤ x ∧ x < 4294967296) (hn : xs.length ≤ 1000) (d : Nat) : ∀ (k i : Nat) (acc : List Int), i + d = xs.length → acc.length ≤ 4 * i → d + 5 < k →
    lqr_Put.l0 k acc xs (xs.length : Int) (i : Int) = some (acc ++ (xs.drop i).flatMap b4, 0) := by
  induction d with
  | zero =>
    intro k i acc hi ha hk
    obtain ⟨k, rfl⟩ : ∃ m, k = m + 1 := ⟨k - 1, by omega⟩
    simp only [lqr_Put.l0]
    rw [if_neg (by omega), List.drop_of_length_le (by omega)]
    simp
  | succ d ih =>
    intro k i acc hi ha hk
    obtain ⟨k, rfl⟩ : ∃ m, k = m + 1 := ⟨k - 1, by omega⟩
    have hlt : i < xs.length := by omega
    have hb := hx xs[i] (List.getElem_mem hlt)
    simp only [lqr_Put.l0]
    rw [if_pos (by omega), if_pos (by omega), if_pos (by omega), rd_at xs i hlt, u64_w hb.1 (by omega), put4 _ _ (by omega) k (by omega), Option.bind_some,
      show wrap64 ((i : Int) + 1) = ((i + 1 : Nat) : Int) from by unfold wrap64; omega,
      ih k (i + 1) _ (by omega) (by rw [List.length_append, b4_length]; omega) (by omega), List.drop_eq_getElem_cons hlt, List.flatMap_cons, List.append_assoc]

/-- What a packet is written as, and the error's number. -/
def putSpec (p c i : Int) (n3 : Nat) (s m : Int) (n6 n7 n8 : Nat) (xs : List Int) : List Int × Int :=
  if p ≠ 49189 then ([], 8) else if ¬ (c = 0 ∧ i = 0 ∧ s = 0 ∧ m = 0 ∧ n3 = 0 ∧ n6 = 0 ∧ n7 = 0 ∧ n8 = 0) then ([], 9) else if xs.length ≠ 12 then ([], 5) else (xs.flatMap b4, 0)

theorem or_zero (c i : Int) (hc : 0 ≤ c ∧ c ≤ 255) (hi : 0 ≤ i ∧ i ≤ 255) : Go.bits .or .u8 c i = 0 ↔ c = 0 ∧ i = 0 := by
  obtain ⟨a, rfl⟩ := Int.eq_ofNat_of_zero_le hc.1
  obtain ⟨b, rfl⟩ := Int.eq_ofNat_of_zero_le hi.1
  have h := (Go.bits_nat .u8 8 (by decide) wraps_u8 a b (by omega) (by omega)).2
  have h' : Go.bits .or .u8 (a : Int) (b : Int) = ((a ||| b : Nat) : Int) := h
  rw [h']
  constructor
  · intro e
    have e' : a ||| b = 0 := by omega
    have := Nat.or_eq_zero_iff.1 e'
    omega
  · rintro ⟨h1, h2⟩
    have ha : a = 0 := by omega
    have hb : b = 0 := by omega
    subst ha hb
    rfl

theorem w64 {a : Int} (h0 : 0 ≤ a) (h1 : a ≤ 4611686018427387904) : wrap64 a = a := by unfold wrap64; omega

theorem sum4 {a b c d : Nat} (ha : a ≤ 140737488355328) (hb : b ≤ 140737488355328) (hc : c ≤ 140737488355328) (hd : d ≤ 140737488355328) :
    wrap64 (wrap64 (wrap64 ((a : Int) + b) + c) + d) = (a : Int) + b + c + d := by
  have ha' : (a : Int) ≤ 140737488355328 := by omega
  have hb' : (b : Int) ≤ 140737488355328 := by omega
  have hc' : (c : Int) ≤ 140737488355328 := by omega
  have hd' : (d : Int) ≤ 140737488355328 := by omega
  clear ha hb hc hd
  have a0 := Int.natCast_nonneg a
  have b0 := Int.natCast_nonneg b
  have c0 := Int.natCast_nonneg c
  have d0 := Int.natCast_nonneg d
  generalize (a : Int) = x at *
  generalize (b : Int) = y at *
  generalize (c : Int) = z at *
  generalize (d : Int) = u at *
  rw [w64 (a := x + y) (by omega) (by omega), w64 (a := x + y + z) (by omega) (by omega), w64 (a := x + y + z + u) (by omega) (by omega)]

theorem j0_true (k : Nat) (p c i : Int) (os : List S80) (s m : Int) (one two data xs : List Int) : lqr_Put.j0 (k + 1) true p c i os s m one two data xs = some ([], 9) := by
  simp only [lqr_Put.j0]
  rw [if_pos trivial]
theorem j0_false (k : Nat) (p c i : Int) (os : List S80) (s m : Int) (one two data xs : List Int) : lqr_Put.j0 (k + 1) false p c i os s m one two data xs = if (xs.length : Int) = 12 then lqr_Put.l0 k [] xs (xs.length : Int) 0 else some ([], 5) := by
  simp only [lqr_Put.j0]
  rw [if_neg (by decide)]

theorem put_prog (p c i : Int) (os : List S80) (s m : Int) (one two data : List Int) (xs : List Int) (hc : 0 ≤ c ∧ c ≤ 255) (hi : 0 ≤ i ∧ i ≤ 255)
    (h3 : os.length ≤ 140737488355328) (h6 : one.length ≤ 140737488355328) (h7 : two.length ≤ 140737488355328) (h8 : data.length ≤ 140737488355328)
    (hx : ∀ x ∈ xs, 0 ≤ x ∧ x < 4294967296) : lqr_Put.f 40 p c i os s m one two data xs = some (putSpec p c i os.length s m one.length two.length data.length xs) := by
  unfold lqr_Put.f putSpec
  by_cases hp : p = 49189
  · rw [if_pos hp, if_neg (show ¬ p ≠ 49189 from fun h => h hp)]
    have j9 : lqr_Put.j0 40 true p c i os s m one two data xs = some ([], 9) := j0_true 39 p c i os s m one two data xs
    by_cases hci : c = 0 ∧ i = 0
    · rw [if_pos ((or_zero c i hc hi).2 hci)]
      by_cases hs : s = 0
      · rw [if_pos hs]
        by_cases hm : m = 0
        · rw [if_pos hm]
          rw [sum4 h3 h6 h7 h8]
          by_cases hz : os.length = 0 ∧ one.length = 0 ∧ two.length = 0 ∧ data.length = 0
          · rw [decide_eq_false (show ¬ ((os.length : Int) + (one.length : Int) + (two.length : Int) + (data.length : Int) > 0) by omega), if_neg (show ¬ ¬ (c = 0 ∧ i = 0 ∧ s = 0 ∧ m = 0 ∧ os.length = 0 ∧ one.length = 0 ∧ two.length = 0 ∧ data.length = 0) from fun h => h ⟨hci.1, hci.2, hs, hm, hz⟩), show lqr_Put.j0 40 false p c i os s m one two data xs = _ from j0_false 39 p c i os s m one two data xs]
            by_cases hl : xs.length = 12
            · rw [if_pos (by omega), if_neg (show ¬ xs.length ≠ 12 from fun h => h hl)]
              have := put_loop xs hx (by omega) 12 39 0 [] (by omega) (by simp) (by omega)
              simpa using this
            · rw [if_neg (by omega), if_pos hl]
          · rw [decide_eq_true (show (os.length : Int) + (one.length : Int) + (two.length : Int) + (data.length : Int) > 0 by omega), j9, if_pos (fun h => hz h.2.2.2.2)]
        · rw [if_neg hm, j9, if_pos (fun h => hm h.2.2.2.1)]
      · rw [if_neg hs, j9, if_pos (fun h => hs h.2.2.1)]
    · rw [if_neg (fun h => hci ((or_zero c i hc hi).1 h)), j9, if_pos (fun h => hci ⟨h.1, h.2.1⟩)]
  · rw [if_neg hp, if_pos hp]

/-- Four octets as a number. -/
def rd4 (l : List Int) : Int := 16777216 * rd l 0 + 65536 * rd l 1 + 256 * rd l 2 + rd l 3
/-- So many numbers that octets begin with. -/
def getN : Nat → List Int → List Int
  | 0, _ => []
  | n + 1, l => rd4 l :: getN n (l.drop 4)
theorem getN_length (n : Nat) : ∀ l, (getN n l).length = n := by
  induction n with
  | zero => intro l; rfl
  | succ n ih => intro l; simp [getN, ih]

theorem or_u64 (x y : Int) (hx : 0 ≤ x) (hm : x % 256 = 0) (hx1 : x < 4294967296) (hy : 0 ≤ y) (hy1 : y < 256) : Go.bits .or .u64 x y = x + y :=
  Go.bits_join .u64 64 (by decide) (fun n h0 h1 => by simp [IntKind.wrap, IntKind.bits, IntKind.signed]; omega) 8 x y hx (by simpa using hm) (by omega) hy (by omega) (by omega)

theorem get4 (l : List Int) (hb : ∀ x ∈ l, 0 ≤ x ∧ x ≤ 255) (hl : 4 ≤ l.length) (k : Nat) (hk : 5 ≤ k) : wire_Get.f k l 4 = some (rd4 l) := by
  obtain ⟨k, rfl⟩ : ∃ m, k = m + 5 := ⟨k - 5, by omega⟩
  match l, hl with
  | b0 :: b1 :: b2 :: b3 :: r, hl =>
    have h0 := hb b0 (by simp)
    have h1 := hb b1 (by simp)
    have h2 := hb b2 (by simp)
    have h3 := hb b3 (by simp)
    unfold wire_Get.f
    rw [if_pos (by omega), if_pos (by omega)]
    have e : List.take (4 : Int).toNat (b0 :: b1 :: b2 :: b3 :: r) = [b0, b1, b2, b3] := rfl
    rw [e]
    have er : rd4 (b0 :: b1 :: b2 :: b3 :: r) = 16777216 * b0 + 65536 * b1 + 256 * b2 + b3 := by simp [rd4, rd]
    rw [er]
    simp only [wire_Get.l0, List.length_cons, List.length_nil]
    rw [if_pos (by decide), if_pos (by decide), if_pos (by decide), show wrap64 (0 + 1) = 1 from by kernel_rfl, if_pos (by decide), if_pos (by decide), if_pos (by decide), show wrap64 (1 + 1) = 2 from by kernel_rfl,
      if_pos (by decide), if_pos (by decide), if_pos (by decide), show wrap64 (2 + 1) = 3 from by kernel_rfl, if_pos (by decide), if_pos (by decide), if_pos (by decide), show wrap64 (3 + 1) = 4 from by kernel_rfl, if_neg (by decide)]
    rw [show rd [b0, b1, b2, b3] 0 = b0 from rfl, show rd [b0, b1, b2, b3] 1 = b1 from rfl, show rd [b0, b1, b2, b3] 2 = b2 from rfl, show rd [b0, b1, b2, b3] 3 = b3 from rfl]
    rw [show IntKind.u64.wrap (0 * 256) = 0 from by decide, u64_w (a := b0) h0.1 (by omega), or_u64 0 b0 (by omega) (by omega) (by omega) h0.1 (by omega), u64_w (a := (0 + b0) * 256) (by omega) (by omega), u64_w (a := b1) h1.1 (by omega), or_u64 ((0 + b0) * 256) b1 (by omega) (by omega) (by omega) h1.1 (by omega),
      u64_w (a := ((0 + b0) * 256 + b1) * 256) (by omega) (by omega), u64_w (a := b2) h2.1 (by omega), or_u64 (((0 + b0) * 256 + b1) * 256) b2 (by omega) (by omega) (by omega) h2.1 (by omega),
      u64_w (a := (((0 + b0) * 256 + b1) * 256 + b2) * 256) (by omega) (by omega), u64_w (a := b3) h3.1 (by omega), or_u64 ((((0 + b0) * 256 + b1) * 256 + b2) * 256) b3 (by omega) (by omega) (by omega) h3.1 (by omega)]
    congr 1
    omega

theorem rd4_bounds (l : List Int) (hb : ∀ x ∈ l, 0 ≤ x ∧ x ≤ 255) : 0 ≤ rd4 l ∧ rd4 l < 4294967296 := by
  have h : ∀ i : Int, 0 ≤ rd l i ∧ rd l i ≤ 255 := by
    intro i
    unfold rd
    rw [List.getD_eq_getElem?_getD]
    cases hh : l[i.toNat]? with
    | none => simp
    | some x => simpa using hb x (List.mem_of_getElem? hh)
  have := h 0
  have := h 1
  have := h 2
  have := h 3
  unfold rd4
  omega

theorem get_loop (l : List Int) (hb : ∀ x ∈ l, 0 ≤ x ∧ x ≤ 255) (hl : 48 ≤ l.length) (d : Nat) : ∀ (k i : Nat) (acc : List Int), i + d = 12 → acc.length ≤ i → d + 6 < k →
    lqr_Get.l0 k l (i : Int) 49189 0 0 0 0 acc = some (49189, 0, 0, [], 0, 0, [], [], [], acc ++ getN d (l.drop (4 * i)), 0) := by
  induction d with
  | zero =>
    intro k i acc hi ha hk
    obtain ⟨k, rfl⟩ : ∃ m, k = m + 1 := ⟨k - 1, by omega⟩
    simp only [lqr_Get.l0]
    rw [if_neg (by omega)]
    simp [getN]
  | succ d ih =>
    intro k i acc hi ha hk
    obtain ⟨k, rfl⟩ : ∃ m, k = m + 1 := ⟨k - 1, by omega⟩
    simp only [lqr_Get.l0]
    have e4 : wrap64 ((i : Int) * 4) = ((4 * i : Nat) : Int) := by unfold wrap64; omega
    have hdb : ∀ x ∈ l.drop (4 * i), 0 ≤ x ∧ x ≤ 255 := fun x hx => hb x (List.mem_of_mem_drop hx)
    have hr := rd4_bounds _ hdb
    rw [if_pos (by omega), e4, if_pos (by omega), if_pos (by omega), Int.toNat_natCast, get4 _ hdb (by rw [List.length_drop]; omega) k (by omega), Option.bind_some, if_pos (by omega),
      show wrap64 ((i : Int) + 1) = ((i + 1 : Nat) : Int) from by unfold wrap64; omega, ih k (i + 1) _ (by omega) (by rw [List.length_append, List.length_singleton]; omega) (by omega)]
    rw [Int.emod_eq_of_lt hr.1 hr.2, List.append_assoc, List.singleton_append]
    simp only [getN, List.drop_drop]
    rw [show 4 * i + 4 = 4 * (i + 1) from by omega]

/-- The numbers that octets begin with, and the error's number. -/
def getSpec (l : List Int) : Int × List Int × Int := if l.length < 48 then (0, [], 2) else (49189, getN 12 l, 0)

theorem get_prog (l : List Int) (hb : ∀ x ∈ l, 0 ≤ x ∧ x ≤ 255) : lqr_Get.f 40 l = some ((getSpec l).1, 0, 0, [], 0, 0, [], [], [], (getSpec l).2.1, (getSpec l).2.2) := by
  unfold lqr_Get.f getSpec
  by_cases h : l.length < 48
  · rw [if_pos (by omega), if_pos h]
  · rw [if_neg (by omega), if_neg h]
    have := get_loop l hb (by omega) 12 40 0 [] (by omega) (by simp) (by omega)
    simpa using this

theorem getN_put (xs : List Int) (hx : ∀ x ∈ xs, 0 ≤ x ∧ x < 4294967296) (r : List Int) : getN xs.length (xs.flatMap b4 ++ r) = xs := by
  induction xs with
  | nil => rfl
  | cons x xs ih =>
    have hb := hx x (by simp)
    rw [List.length_cons, List.flatMap_cons, List.append_assoc]
    show rd4 (b4 x ++ _) :: getN xs.length ((b4 x ++ _).drop 4) = _
    rw [show ((b4 x ++ (xs.flatMap b4 ++ r)).drop 4) = xs.flatMap b4 ++ r from rfl, ih (fun y hy => hx y (by simp [hy]))]
    congr 1
    simp [rd4, rd, b4]
    omega

theorem put_getN (n : Nat) : ∀ l : List Int, (∀ x ∈ l, 0 ≤ x ∧ x ≤ 255) → 4 * n ≤ l.length → (getN n l).flatMap b4 = l.take (4 * n) := by
  induction n with
  | zero => intro l _ _; rfl
  | succ n ih =>
    intro l hb hl
    match l, hl with
    | b0 :: b1 :: b2 :: b3 :: r, hl =>
      have h0 := hb b0 (by simp)
      have h1 := hb b1 (by simp)
      have h2 := hb b2 (by simp)
      have h3 := hb b3 (by simp)
      show b4 (rd4 (b0 :: b1 :: b2 :: b3 :: r)) ++ (getN n r).flatMap b4 = _
      rw [ih r (fun x hx => hb x (by simp [hx])) (by simp only [List.length_cons] at hl; omega)]
      have er : rd4 (b0 :: b1 :: b2 :: b3 :: r) = 16777216 * b0 + 65536 * b1 + 256 * b2 + b3 := by simp [rd4, rd]
      rw [er, show 4 * (n + 1) = 4 * n + 4 from by omega]
      simp only [List.take_succ_cons, b4, List.cons_append, List.nil_append, List.cons.injEq]
      refine ⟨?_, ?_, ?_, ?_, trivial⟩ <;> omega

theorem getN_bounds (n : Nat) : ∀ l : List Int, (∀ x ∈ l, 0 ≤ x ∧ x ≤ 255) → ∀ x ∈ getN n l, 0 ≤ x ∧ x < 4294967296 := by
  induction n with
  | zero => intro l _ x hx; simp [getN] at hx
  | succ n ih =>
    intro l hb x hx
    simp only [getN, List.mem_cons] at hx
    rcases hx with rfl | hx
    · exact rd4_bounds l hb
    · exact ih _ (fun y hy => hb y (List.mem_of_mem_drop hy)) x hx
theorem flat_bytes (xs : List Int) : ∀ x ∈ xs.flatMap b4, 0 ≤ x ∧ x ≤ 255 := by
  intro x hx
  obtain ⟨y, _, hy⟩ := List.mem_flatMap.1 hx
  simp [b4] at hy
  omega

end Go.Proofs.Ytelmlkcoeihhjaa.Lq
