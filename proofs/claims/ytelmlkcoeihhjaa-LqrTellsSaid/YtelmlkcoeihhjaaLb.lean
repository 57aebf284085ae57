/- A report is read as it was written, whatever stands behind it; 48 octets are written as they are: the walk of the law marlinelaw19.LqrBack. No conditions but that the octets read as a list. -/
import Derived.Test.YtelmlkcoeihhjaaLr
namespace Go.Proofs.Ytelmlkcoeihhjaa.Lb
open Go.RowKit Go.Proofs.Ytelmlkcoeihhjaa.Fl Go.Proofs.Ytelmlkcoeihhjaa.My Go.Proofs.Ytelmlkcoeihhjaa.Lo Go.Proofs.Ytelmlkcoeihhjaa.Lp Go.Proofs.Ytelmlkcoeihhjaa.Lq Go.Proofs.Ytelmlkcoeihhjaa.Lr Go.Proofs.YtelmlkcoeihhjaaW.PrintWords Go.Proofs.YtelmlkcoeihhjaaW.PrintLast Go.Proofs.YtelmlkcoeihhjaaW.PrintMore
set_option linter.unusedVariables false
set_option linter.unusedSimpArgs false

abbrev arr (a0 a1 a2 a3 a4 a5 a6 a7 a8 a9 a10 a11 : Int) : Value := .agg #[.int .u32 a0, .int .u32 a1, .int .u32 a2, .int .u32 a3, .int .u32 a4, .int .u32 a5, .int .u32 a6, .int .u32 a7, .int .u32 a8, .int .u32 a9, .int .u32 a10, .int .u32 a11]

theorem C_of_block {W : World} {B t : Nat} {xs : List Int} (h : W.heap[B]? = some (.cells (xs.map (Value.int .u32)).toArray t (0, 0))) (hl : xs.length ≤ 4294967296) :
    Kd.C (Kd.int .u32) W (some ⟨B, 0, none⟩) xs.length xs := by
  refine Kd.C_of_reads (d := (0 : Int)) (h1 := fun _ => rfl) ⟨rfl, by omega, fun _ => ⟨_, rfl, fun j hj => ?_⟩⟩
  rw [add_plain]
  simp [World.cell?, h, hj]
theorem blk_keep {W W' : World} {g : Nat} {o : Obj} (h : W.heap[g]? = some o) (hb : Below W.heap.size W W') : W'.heap[g]? = some o := (hb.block g (Array.getElem?_eq_some_iff.1 h).1).trans h
theorem C_zero {α : Type} (d : Kd α) (W : World) (A : Option Addr) : d.C W A 0 [] := ⟨rfl, by decide, fun h => absurd h (Nat.lt_irrefl 0)⟩
theorem new1 (w : World) (o : Obj) : (w.alloc o).heap[w.heap.size]? = some o := by
  show (w.heap.push o)[w.heap.size]? = some o
  rw [Array.getElem?_push, if_pos rfl]

set_option maxHeartbeats 1000000 in
set_option maxRecDepth 100000 in
theorem long_walk (a0 a1 a2 a3 a4 a5 a6 a7 a8 a9 a10 a11 : Int) (A : Option Addr) (n cap : Nat) (w : World) (h : 600 < n) (hm : n ≤ maxLen) :
    Calls Try.prog 6 #[arr a0 a1 a2 a3 a4 a5 a6 a7 a8 a9 a10 a11, .slice A n cap] w fun e w' => e = .returned (.bool true) ∧ Below w.heap.size w w' := by
  have g1 : decide ((600 : Int) < (n : Int)) = true := decide_eq_true (by omega)
  clear h hm
  go_enter Try.func6, Try.ntmps6
  go_wp2_with (fail)
  refine (speaks_any _).mono ?_
  rintro e w1 ⟨rfl, hb1⟩
  have HB1 := Aside0.mk (below_step (below_alloc (Below.refl _ _) _) hb1)
  clear hb1
  go_wp2_with (fail)
  refine (speaks_any _).mono ?_
  rintro e w2 ⟨rfl, hb2⟩
  have HB2 := Aside0.mk (below_step HB1.out hb2)
  clear hb2
  go_wp2
  go_ret
  exact ⟨rfl, HB2.out⟩

set_option maxHeartbeats 2000000 in
set_option maxRecDepth 100000 in
theorem law_walk (a0 a1 a2 a3 a4 a5 a6 a7 a8 a9 a10 a11 : Int) (A : Option Addr) (n cap : Nat) (l : List Int) (w : World) (hn : n ≤ 600) (hx : ∀ x ∈ [a0, a1, a2, a3, a4, a5, a6, a7, a8, a9, a10, a11], 0 ≤ x ∧ x < 4294967296)
    (hl : Kd.C (Kd.int .u8) w A n l) (hc : n ≤ cap) (hb : ∀ x ∈ l, 0 ≤ x ∧ x ≤ 255) :
    Calls Try.prog 6 #[arr a0 a1 a2 a3 a4 a5 a6 a7 a8 a9 a10 a11, .slice A n cap] w fun e w' => e = .returned (.bool true) ∧ Below w.heap.size w w' := by
  have g1 : decide ((600 : Int) < (n : Int)) = false := decide_eq_false (by omega)
  have HL := Aside0.mk hl
  have HC := Aside0.mk hc
  have HX := Aside0.mk hx
  have HY := Aside0.mk hb
  have HN := Aside0.mk hn
  clear hl hc hx hb hn
  go_enter Try.func6, Try.ntmps6
  go_wp2_with (fail)
  refine (speaks_any _).mono ?_
  rintro e w1 ⟨rfl, hb1⟩
  have HA := Aside0.mk (show Kd.C (Kd.int .u32) w1 (some ⟨w.heap.size, 0, none⟩) 12 [a0, a1, a2, a3, a4, a5, a6, a7, a8, a9, a10, a11] from C_of_block (xs := [a0, a1, a2, a3, a4, a5, a6, a7, a8, a9, a10, a11]) ((hb1.block _ (Array.getElem?_eq_some_iff.1 (new1 w _)).1).trans (new1 w _)) (by simp))
  have HB1 := Aside0.mk (below_step (below_alloc (Below.refl _ _) _) hb1)
  clear hb1
  generalize [a0, a1, a2, a3, a4, a5, a6, a7, a8, a9, a10, a11] = xs at HA HX
  have HXL := Aside0.mk HA.out.1
  go_wp2_with (fail)
  -- Of
  refine (law15_Of_any _ _ _ _ _ _ _ _ _ _ _ _ _ _ _ _ _ _ _ _ [] _ ?_ (by decide)).mono ?_
  · exact Kd.C_nil _ _
  rintro e w2 ⟨A3, c3, rfl, k3, hC3, hb2⟩
  have hp0 := (hb2.block _ (Array.getElem?_eq_some_iff.1 (new1 w1 _)).1).trans (new1 w1 _)
  have HP := Aside0.mk hp0
  have HB2 := Aside0.mk (below_step (below_alloc HB1.out _) hb2)
  have HA2 := Aside0.mk (Kd.C_below (Kd.C_alloc HA.out _) hb2)
  have HC3 := Aside0.mk hC3
  have K3 := Aside0.mk k3
  clear hb2 hp0 hC3 k3 HB1 HA
  go_wp2_with (fail)
  -- Put
  refine (put_any _ _ _ _ _ _ _ _ _ _ _ _ _ _ _ _ _ _ _ _ [] [] [] [] xs _ ?_ ?_ ?_ ?_ ?_ ?_ ?_ ?_ ?_ ?_ ?_ ?_ ?_ ?_ ?_ ?_ HX.out).mono ?_
  · exact HC3.out
  · exact K3.out
  · exact Kd.C_nil _ _
  · exact Nat.le_refl _
  · exact Kd.C_nil _ _
  · exact Nat.le_refl _
  · exact Kd.C_nil _ _
  · exact Nat.le_refl _
  · exact HA2.out
  · exact Nat.le_refl _
  · exact ⟨by decide, by decide⟩
  · exact ⟨by decide, by decide⟩
  · exact Nat.zero_le _
  · exact Nat.zero_le _
  · exact Nat.zero_le _
  · exact Nat.zero_le _
  rintro e w3 ⟨Ax, cx, rfl, kx, hCx, hb3⟩
  have hput : putSpec 49189 0 0 0 0 0 0 0 0 xs = (xs.flatMap b4, 0) := by
    unfold putSpec
    rw [if_neg (by decide), if_neg (by decide), if_neg (by rw [HXL.out]; decide)]
  rw [hput] at kx hCx ⊢
  dsimp only at kx hCx ⊢
  have hfl : (xs.flatMap b4).length = 48 := by rw [flat_length, HXL.out]
  rw [hfl] at kx hCx ⊢
  have HB3 := Aside0.mk (below_step HB2.out hb3)
  have HA3 := Aside0.mk (Kd.C_below HA2.out hb3)
  have HP3 := Aside0.mk ((hb3.block _ (Array.getElem?_eq_some_iff.1 HP.out).1).trans HP.out)
  have HCx := Aside0.mk hCx
  have KX := Aside0.mk kx
  have HFL := Aside0.mk hfl
  clear hb3 hput hfl kx hCx HB2 HA2 HP HC3 K3
  go_wp2_with (first
    | ((with_reducible refine gate_dst (N := 34) rfl ?_); refine Kd.R_lit (Kd.int .u8) (w0 := w3) w3.heap.size 5 ?hg (N := 34) ?hd (xs := ([] : List Int)) (inner := []) (ok := fun _ => True) (okp := fun _ => True) ?hr ?hp (fun _ hk => hk) trivial (Below.refl _ _) (Nat.le_refl _) (by simp) ?_; (case hd => rfl); (case hg => rfl); (case hr => first | (go_simp; done) | (go_simp; rfl)); (case hp => exact (Reps.none _ _)); intro v4 w4 ho4 hb4 hg4 hnew4; have HO4 := Aside0.mk ho4; have HB4 := Aside0.mk hb4; clear ho4 hb4 hg4 hnew4)
    | ((with_reducible refine gate_builtin (b := .append) (xs := #[.tmp 34, .tmp 35]) rfl ?_); at_builtin; refine Kd.R_append_rows (Kd.int .u8) (w0 := w3) w3.heap.size rfl (.tmp 34) (.tmp 35) 24 5 (.int .u8 0) 1 rfl Try.underlying24 info5 rfl (by decide) (by omega) v4 [] (xs.flatMap b4) _ _ _ (fun _ => True) (fun _ => False) rfl rfl ?aO ?aR (fun _ _ h => h) (fun _ h => h.elim) ?aF ?aB ?aS ?aL ?_; (case aR => exact Kd.C_below HCx.out HB4.out); (case aB => exact HB4.out); (case aF => exact fun _ _ => trivial); (case aO => exact HO4.out); (case aS => exact HB4.out.size); (case aL => simp only [List.length_nil]; decide); intro v5 w5 ho5 hb5 hg5 hat5; have HO5 := Aside0.mk ho5; have HB5 := Aside0.mk hb5; clear ho5 hb5 hg5 hat5)
    | ((with_reducible refine gate_builtin (b := .append) (xs := #[.tmp 36, .tmp 37]) rfl ?_); at_builtin; refine Kd.R_append_rows (Kd.int .u8) (w0 := w3) w3.heap.size rfl (.tmp 36) (.tmp 37) 24 5 (.int .u8 0) 1 rfl Try.underlying24 info5 rfl (by decide) (by omega) v5 ([] ++ xs.flatMap b4) l _ _ _ (fun _ => True) (fun _ => False) rfl rfl ?aO ?aR (fun _ _ h => h) (fun _ h => h.elim) ?aF ?aB ?aS ?aL ?_; (case aR => exact Kd.C_below (Kd.C_below HL.out HB3.out) HB5.out); (case aB => exact HB5.out); (case aF => exact fun _ _ => trivial); (case aO => exact HO5.out); (case aS => exact HB5.out.size); (case aL => rw [List.nil_append, HFL.out]; have := HN.out; omega); intro v6 w6 ho6 hb6 hg6 hat6; have HO6 := Aside0.mk ho6; have HB6 := Aside0.mk hb6; clear ho6 hb6 hg6 hat6))
  obtain ⟨Ay, cy, rfl, ky, hCy⟩ := Kd.R_reads HO6.out
  have hspec : getSpec ([] ++ xs.flatMap b4 ++ l) = (49189, xs, 0) := by
    have h1 := HFL.out
    have h2 := getN_put xs HX.out l
    rw [HXL.out] at h2
    unfold getSpec
    rw [if_neg (by rw [List.nil_append, List.length_append]; omega), List.nil_append, h2]
  refine (get_any Ay _ cy _ w6 hCy ky ?_).mono ?_
  · intro x hx
    rw [List.nil_append] at hx
    rcases List.mem_append.1 hx with h | h
    · exact flat_bytes xs x h
    · exact HY.out x h
  rintro e w7 ⟨B3, d3, B6, d6, B7, d7, B8, d8, B9, d9, rfl, hnil, kd9, hC9, _, hb7⟩
  rw [hspec] at kd9 hC9 ⊢
  dsimp only at kd9 hC9 ⊢
  rw [HXL.out] at kd9 hC9 ⊢
  have X7 := Aside0.mk (below_step HB6.out hb7)
  have HN7 := Aside0.mk hnil
  have KD9 := Aside0.mk kd9
  have HC9 := Aside0.mk hC9
  clear hb7 hspec hnil kd9 hC9 HB4 HO4 HB5 HO5 HO6 hCy ky HB6
  go_wp2_with (fail)
  have hq8 := new1 w7 (.cells #[.int .u16 49189, .int .u8 0, .int .u8 0, .slice B3 0 d3, .int .u16 0, .int .u32 0, .slice B6 0 d6, .slice B7 0 d7, .slice B8 0 d8, .slice B9 12 d9] 34)
  have hp8 := blk_keep (blk_keep HP3.out X7.out) (below_alloc (Below.refl _ w7) (.cells #[.int .u16 49189, .int .u8 0, .int .u8 0, .slice B3 0 d3, .int .u16 0, .int .u32 0, .slice B6 0 d6, .slice B7 0 d7, .slice B8 0 d8, .slice B9 12 d9] 34))
  have X8 := Aside0.mk (below_alloc X7.out (.cells #[.int .u16 49189, .int .u8 0, .int .u8 0, .slice B3 0 d3, .int .u16 0, .int .u32 0, .slice B6 0 d6, .slice B7 0 d7, .slice B8 0 d8, .slice B9 12 d9] 34))
  have HN8 := Aside0.mk (below_alloc (Below.refl _ w7) (.cells #[.int .u16 49189, .int .u8 0, .int .u8 0, .slice B3 0 d3, .int .u16 0, .int .u32 0, .slice B6 0 d6, .slice B7 0 d7, .slice B8 0 d8, .slice B9 12 d9] 34))
  generalize w7.alloc (.cells #[.int .u16 49189, .int .u8 0, .int .u8 0, .slice B3 0 d3, .int .u16 0, .int .u32 0, .slice B6 0 d6, .slice B7 0 d7, .slice B8 0 d8, .slice B9 12 d9] 34) = W8 at hq8 hp8 X8 HN8 ⊢
  obtain ⟨gp, hgp⟩ : ∃ gp, w1.heap.size = gp := ⟨_, rfl⟩
  rw [hgp] at hp8 ⊢
  obtain ⟨g7, hg7⟩ : ∃ g7, w7.heap.size = g7 := ⟨_, rfl⟩
  rw [hg7] at hq8 ⊢
  have HG7 := Aside0.mk hg7
  clear hg7 hgp HP3
  have HQ := Aside0.mk hq8
  have HP := Aside0.mk hp8
  obtain ⟨q0, q1, q2, q3, q4, q5, q6, q7, q8, q9⟩ := cells10 hq8
  obtain ⟨p0, p1, p2, p3, p4, p5, p6, p7, p8, p9⟩ := cells10 hp8
  clear hq8 hp8
  go_region_held3 (fun w' => w'.cell? ⟨g7, 0, none⟩ = some (.int .u16 49189) ∧ w'.cell? ⟨g7, 1, none⟩ = some (.int .u8 0) ∧ w'.cell? ⟨g7, 2, none⟩ = some (.int .u8 0) ∧ w'.cell? ⟨g7, 3, none⟩ = some (.slice B3 0 d3) ∧ w'.cell? ⟨g7, 4, none⟩ = some (.int .u16 0) ∧ w'.cell? ⟨g7, 5, none⟩ = some (.int .u32 0) ∧ w'.cell? ⟨g7, 6, none⟩ = some (.slice B6 0 d6) ∧ w'.cell? ⟨g7, 7, none⟩ = some (.slice B7 0 d7) ∧ w'.cell? ⟨g7, 8, none⟩ = some (.slice B8 0 d8) ∧ w'.cell? ⟨g7, 9, none⟩ = some (.slice B9 12 d9) ∧ w'.cell? ⟨gp, 0, none⟩ = some (.int .u16 49189) ∧ w'.cell? ⟨gp, 1, none⟩ = some (.int .u8 0) ∧ w'.cell? ⟨gp, 2, none⟩ = some (.int .u8 0) ∧ w'.cell? ⟨gp, 3, none⟩ = some (.slice none 0 0) ∧ w'.cell? ⟨gp, 4, none⟩ = some (.int .u16 0) ∧ w'.cell? ⟨gp, 5, none⟩ = some (.int .u32 0) ∧ w'.cell? ⟨gp, 6, none⟩ = some (.slice none 0 0) ∧ w'.cell? ⟨gp, 7, none⟩ = some (.slice none 0 0) ∧ w'.cell? ⟨gp, 8, none⟩ = some (.slice none 0 0) ∧ w'.cell? ⟨gp, 9, none⟩ = some (.slice (some ⟨w.heap.size, 0, none⟩) 12 12))
    (first | go_keep)
    (first
      | (go_at_call 21; refine (law15_To_any _ _ _ _ _ _ _ _ _ _ _ _ _ _ _ _ _ _ _ _ [] _ ?_ (by decide)).mono ?_; (exact Kd.C_drew (Kd.C_below HN7.out.1 HN8.out)); rintro e w9 ⟨A9, c9, rfl, k9, hC9, hb9⟩; have hq := blk_keep (W := W8.drew) HQ.out hb9; have hp := blk_keep (W := W8.drew) HP.out hb9; obtain ⟨r0, r1, r2, r3, r4, r5, r6, r7, r8, r9⟩ := cells10 hq; obtain ⟨t0, t1, t2, t3, t4, t5, t6, t7, t8, t9⟩ := cells10 hp; have HQ9 := Aside0.mk hq; have HP9 := Aside0.mk hp; have HO9 := Aside0.mk hC9; have X9 := Aside0.mk (below_step (below_drew1 (Below.refl _ W8)) hb9); clear hq hp hC9 hb9)
      | (go_at_call 20; refine (same_any _ _ _ _ _ _ _ _ _ _ _ _ _ _ _ _ _ _ _ _ _ _ _ _ _ _ xs _ ?s1 ?s2 ?s3 ?s4 ?s5 ?s6 ?s7 ?s8 ?s9 ?s10 ?s11 ?s12 ?s13).mono ?_; (case s1 => exact HO9.out); (case s2 => exact Kd.C_below (Kd.C_below HN7.out.2.1 HN8.out) X9.out); (case s3 => exact Kd.C_below (Kd.C_below HN7.out.2.2.1 HN8.out) X9.out); (case s4 => exact Kd.C_below (Kd.C_below HN7.out.2.2.2 HN8.out) X9.out); (case s5 => exact Kd.C_below (Kd.C_below HC9.out HN8.out) X9.out); (case s6 => exact KD9.out); (case s7 => exact Kd.C_nil _ _); (case s8 => exact Kd.C_nil _ _); (case s9 => exact Kd.C_nil _ _); (case s10 => exact Kd.C_nil _ _); (case s11 => exact Kd.C_below (Kd.C_below HA3.out X8.out) X9.out); (case s12 => exact Nat.le_refl _); (case s13 => decide); rintro e w10 ⟨rfl, hb10⟩; have hq := blk_keep HQ9.out hb10; have hp := blk_keep HP9.out hb10; obtain ⟨r0, r1, r2, r3, r4, r5, r6, r7, r8, r9⟩ := cells10 hq; obtain ⟨t0, t1, t2, t3, t4, t5, t6, t7, t8, t9⟩ := cells10 hp; have HQ10 := Aside0.mk hq; have X10 := Aside0.mk (below_step X9.out hb10); clear hq hp hb10))
  clear r0 r1 r2 r3 r4 r5 r6 r7 r8 r9 t0 t1 t2 t3 t4 t5 t6 t7 t8 t9 q0 q1 q2 q3 q4 q5 q6 q7 q8 q9 p0 p1 p2 p3 p4 p5 p6 p7 p8 p9
  have XW := Aside0.mk (below_step (below_step HB3.out X8.out) X10.out)
  have HL10 := Aside0.mk (Kd.C_below HL.out XW.out)
  have GE := Aside0.mk (show w.heap.size ≤ g7 from by have h1 := HB3.out.size; have h2 := X7.out.size; have := HG7.out; omega)
  clear HB3 HA3 HCx KX X7 HN7 KD9 HC9 X8 HN8 HP X9 HP9 HO9 X10 HQ9 HQ HG7
  go_wp2_with (fail)
  refine (get_any A n cap l w10 HL10.out HC.out HY.out).mono ?_
  rintro e w11 ⟨E3, f3, E6, f6, E7, f7, E8, f8, E9, f9, rfl, hnil, kf9, _, hE9, hb11⟩
  have XW2 := Aside0.mk (below_step XW.out hb11)
  have hq := blk_keep HQ10.out hb11
  have HQ11 := Aside0.mk hq
  have fz := free10 hq
  obtain ⟨q0, q1, q2, q3, q4, q5, q6, q7, q8, q9⟩ := cells10 hq
  have HL11 := Aside0.mk (Kd.C_below HL10.out hb11)
  have HNIL := Aside0.mk hnil
  have KF9 := Aside0.mk kf9
  have HE9 := Aside0.mk hE9
  clear hnil kf9 hE9 hb11 hq HL10
  have hl := HL.out.1
  by_cases h48 : n < 48
  · have hspec : getSpec l = (0, [], 2) := by unfold getSpec; rw [if_pos (by omega)]
    have g2 : decide ((n : Int) < 48) = true := decide_eq_true (by omega)
    rw [hspec]
    dsimp only
    clear hspec h48 hl
    go_wp2_with (fail)
    go_ret
    exact ⟨rfl, by repeat (first | (with_reducible exact XW2.out) | (with_reducible refine Below.setCell ?_ GE.out _))⟩
  · have hspec : getSpec l = (49189, getN 12 l, 0) := by unfold getSpec; rw [if_neg (by omega)]
    have g2 : decide ((n : Int) < 48) = false := decide_eq_false (by omega)
    rw [hspec] at HE9 KF9 ⊢
    dsimp only at HE9 KF9 ⊢
    have hgl := getN_length 12 l
    rw [hgl] at HE9 KF9 ⊢
    have hput : putSpec 49189 0 0 0 0 0 0 0 0 (getN 12 l) = (l.take 48, 0) := by
      unfold putSpec
      rw [if_neg (by decide), if_neg (by decide), if_neg (by rw [hgl]; decide), put_getN 12 l HY.out (by omega)]
    have HPUT := Aside0.mk hput
    have HGB := Aside0.mk (getN_bounds 12 l HY.out)
    have hR := R_puts (g := g7) (o := 0) (vs := [.int .u16 49189, .int .u8 0, .int .u8 0, .slice E3 0 f3, .int .u16 0, .int .u32 0, .slice E6 0 f6, .slice E7 0 f7, .slice E8 0 f8, .slice E9 12 f9]) HE9.out (Array.getElem?_eq_some_iff.1 HQ10.out).1
    have HR := Aside0.mk hR
    have hbel := below_puts (o := 0) (vs := [.int .u16 49189, .int .u8 0, .int .u8 0, .slice E3 0 f3, .int .u16 0, .int .u32 0, .slice E6 0 f6, .slice E7 0 f7, .slice E8 0 f8, .slice E9 12 f9]) XW2.out GE.out
    have HBE := Aside0.mk hbel
    have H48 := Aside0.mk h48
    obtain ⟨i05, hi05, _, _, _⟩ := info_parts info5
    have hcut := cut_to (P := Try.prog) 24 5 .i64 Try.underlying24 hi05 A n cap 48 (by omega) (by omega) HC.out
    rw [show ((48 : Int)).toNat = 48 from rfl] at hcut
    have HT := Aside0.mk (show Kd.C (Kd.int .u8) w A 48 (l.take 48) from by
      have h1 := HL.out
      rw [← hl] at h1
      have h2 := Kd.C_take (m := 48) h1 (by omega)
      rwa [show (l.take 48).length = 48 from by rw [List.length_take]; omega] at h2)
    clear hspec h48 hl hgl hput hR hbel hi05
    go_wp2_with (fail)
    change Calls Try.prog 17 _ (w11.setCells g7 0 [.int .u16 49189, .int .u8 0, .int .u8 0, .slice E3 0 f3, .int .u16 0, .int .u32 0, .slice E6 0 f6, .slice E7 0 f7, .slice E8 0 f8, .slice E9 12 f9]) _
    generalize w11.setCells g7 0 [.int .u16 49189, .int .u8 0, .int .u8 0, .slice E3 0 f3, .int .u16 0, .int .u32 0, .slice E6 0 f6, .slice E7 0 f7, .slice E8 0 f8, .slice E9 12 f9] = W12 at HR HBE ⊢
    refine (put_any _ _ _ _ _ _ _ _ _ _ _ _ _ _ _ _ _ _ _ _ [] [] [] [] (getN 12 l) _ ?_ ?_ ?_ ?_ ?_ ?_ ?_ ?_ ?_ ?_ ?_ ?_ ?_ ?_ ?_ ?_ HGB.out).mono ?_
    · exact C_zero _ _ _
    · exact Nat.zero_le _
    · exact C_zero _ _ _
    · exact Nat.zero_le _
    · exact C_zero _ _ _
    · exact Nat.zero_le _
    · exact C_zero _ _ _
    · exact Nat.zero_le _
    · have := (Kd.R_reads' HR.out).2.2
      rwa [getN_length] at this
    · exact KF9.out
    · exact ⟨by decide, by decide⟩
    · exact ⟨by decide, by decide⟩
    · exact Nat.zero_le _
    · exact Nat.zero_le _
    · exact Nat.zero_le _
    · exact Nat.zero_le _
    rintro e w13 ⟨Az, cz, rfl, kz, hCz, hb13⟩
    rw [HPUT.out] at kz hCz ⊢
    dsimp only at kz hCz ⊢
    have h48 : (l.take 48).length = 48 := by have := HL.out.1; have := H48.out; rw [List.length_take]; omega
    rw [h48] at kz hCz ⊢
    have XF := Aside0.mk (below_step HBE.out hb13)
    have KZ := Aside0.mk kz
    have HCz := Aside0.mk hCz
    have HT2 := Aside0.mk (Kd.C_below HT.out XF.out)
    have HC48 := Aside0.mk (show 48 ≤ cap from by have := HC.out; have := H48.out; omega)
    clear hb13 kz hCz h48 q0 q1 q2 q3 q4 q5 q6 q7 q8 q9 fz
    go_wp2_with (fail)
    refine (equal_any _ _ _ _ _ _ _ _ _ true HCz.out KZ.out HT2.out HC48.out (by decide) (by simp)).mono ?_
    rintro e w14 ⟨rfl, ⟨nd, rfl⟩⟩
    go_wp2
    go_ret
    exact ⟨rfl, pw_below_drewN XF.out _⟩

end Go.Proofs.Ytelmlkcoeihhjaa.Lb
