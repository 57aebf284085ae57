/- Of three reports what was lost adds up; of one and itself nothing was: the walk of the law marlinelaw19.LqrLost. No conditions. -/
import Derived.Test.YtelmlkcoeihhjaaLl1
import Derived.Deep.RegionHeld3
import Derived.BigRegion
import Derived.RegionTactic
namespace Go.Proofs.Ytelmlkcoeihhjaa.Ll
open Go.RowKit Go.Proofs.Ytelmlkcoeihhjaa.PLqrLost Go.Proofs.YtelmlkcoeihhjaaW.PrintWords Go.Proofs.YtelmlkcoeihhjaaW.PrintLast Go.Proofs.YtelmlkcoeihhjaaW.PrintMore
set_option linter.unusedVariables false
set_option linter.unusedSimpArgs false

theorem speaks_any (w : World) : Calls Try.prog 13 #[] w fun e w' => e = .returned (.bool true) ∧ Below w.heap.size w w' :=
  marlinelaw19_speaks.calls 60 true w (by decide +kernel)

abbrev arr (a0 a1 a2 a3 a4 a5 a6 a7 a8 a9 a10 a11 : Int) : Value := .agg #[.int .u32 a0, .int .u32 a1, .int .u32 a2, .int .u32 a3, .int .u32 a4, .int .u32 a5, .int .u32 a6, .int .u32 a7, .int .u32 a8, .int .u32 a9, .int .u32 a10, .int .u32 a11]

theorem new3_0 (w : World) (o o1 o2 : Obj) : (((w.alloc o).alloc o1).alloc o2).heap[w.heap.size]? = some o := by
  show (((w.heap.push o).push o1).push o2)[w.heap.size]? = some o
  rw [Array.getElem?_push, if_neg (by simp; omega), Array.getElem?_push, if_neg (by simp), Array.getElem?_push, if_pos rfl]
theorem new3_1 (w : World) (o o1 o2 : Obj) : (((w.alloc o).alloc o1).alloc o2).heap[w.heap.size + 1]? = some o1 := by
  show (((w.heap.push o).push o1).push o2)[w.heap.size + 1]? = some o1
  rw [Array.getElem?_push, if_neg (by simp), Array.getElem?_push, if_pos (by simp)]
theorem new3_2 (w : World) (o o1 o2 : Obj) : (((w.alloc o).alloc o1).alloc o2).heap[w.heap.size + 1 + 1]? = some o2 := by
  show (((w.heap.push o).push o1).push o2)[w.heap.size + 1 + 1]? = some o2
  rw [Array.getElem?_push, if_pos (by simp)]
theorem C_of_block {W : World} {B t : Nat} {xs : List Int} (h : W.heap[B]? = some (.cells (xs.map (Value.int .u32)).toArray t (0, 0))) (hl : xs.length ≤ 4294967296) :
    Kd.C (Kd.int .u32) W (some ⟨B, 0, none⟩) xs.length xs := by
  refine Kd.C_of_reads (d := (0 : Int)) (h1 := fun _ => rfl) ⟨rfl, by omega, fun _ => ⟨_, rfl, fun j hj => ?_⟩⟩
  rw [add_plain]
  simp [World.cell?, h, hj]

theorem arr_holds {w1 wc os : World} {B : Nat} (a0 a1 a2 a3 a4 a5 a6 a7 a8 a9 a10 a11 : Int)
    (h : os.heap[B]? = some (.cells #[.int .u32 a0, .int .u32 a1, .int .u32 a2, .int .u32 a3, .int .u32 a4, .int .u32 a5, .int .u32 a6, .int .u32 a7, .int .u32 a8, .int .u32 a9, .int .u32 a10, .int .u32 a11] 30 (0, 0)))
    (hb : Below os.heap.size os w1) (hb2 : Below w1.heap.size w1 wc) :
    Kd.C (Kd.int .u32) wc (some ⟨B, 0, none⟩) 12 [a0, a1, a2, a3, a4, a5, a6, a7, a8, a9, a10, a11] := by
  have h1 := hb.block _ (Array.getElem?_eq_some_iff.1 h).1
  have h2 := hb2.block _ (Array.getElem?_eq_some_iff.1 (h1.trans h)).1
  exact C_of_block (xs := [a0, a1, a2, a3, a4, a5, a6, a7, a8, a9, a10, a11]) ((h2.trans h1).trans h) (by simp)

/-- A packet of a report lies at block p, its numbers in block A. -/
def HoldsPk (W : World) (p A : Nat) : Prop :=
  W.heap[p]? = some (.cells #[.int .u16 49189, .int .u8 0, .int .u8 0, .slice none 0 0, .int .u16 0, .int .u32 0, .slice none 0 0, .slice none 0 0, .slice none 0 0, .slice (some ⟨A, 0, none⟩) 12 12] 34 (0, 0))
def CellsPk (W : World) (p A : Nat) : Prop :=
  W.cell? ⟨p, 0, none⟩ = some (.int .u16 49189) ∧ W.cell? ⟨p, 1, none⟩ = some (.int .u8 0) ∧ W.cell? ⟨p, 2, none⟩ = some (.int .u8 0) ∧ W.cell? ⟨p, 3, none⟩ = some (.slice none 0 0) ∧ W.cell? ⟨p, 4, none⟩ = some (.int .u16 0) ∧ W.cell? ⟨p, 5, none⟩ = some (.int .u32 0) ∧ W.cell? ⟨p, 6, none⟩ = some (.slice none 0 0) ∧ W.cell? ⟨p, 7, none⟩ = some (.slice none 0 0) ∧ W.cell? ⟨p, 8, none⟩ = some (.slice none 0 0) ∧ W.cell? ⟨p, 9, none⟩ = some (.slice (some ⟨A, 0, none⟩) 12 12)
theorem cells_of {W : World} {p A : Nat} (h : HoldsPk W p A) : CellsPk W p A := by
  unfold HoldsPk at h
  refine ⟨?_, ?_, ?_, ?_, ?_, ?_, ?_, ?_, ?_, ?_⟩ <;> simp [World.cell?, h]
theorem HoldsPk.below {W w' : World} {p A : Nat} (h : HoldsPk W p A) (hb : Below W.heap.size W w') : HoldsPk w' p A :=
  (hb.block _ (Array.getElem?_eq_some_iff.1 h).1).trans h
def Three (B : World) (n : Nat) (v7 v8 v9 : Value) (wc : World) : Prop :=
  ∃ p q r : Nat, v7 = .pointer (some ⟨p, 0, none⟩) ∧ v8 = .pointer (some ⟨q, 0, none⟩) ∧ v9 = .pointer (some ⟨r, 0, none⟩) ∧ HoldsPk wc p n ∧ HoldsPk wc q (n + 1) ∧ HoldsPk wc r (n + 1 + 1) ∧ Below B.heap.size B wc

theorem lost_adds (xs ys zs : List Int) : ((lost xs ys + lost ys zs) % 4294967296 == lost xs zs) = true := by
  rw [beq_iff_eq]
  simp only [lost, IntKind.wrap_u32]
  omega
theorem lost_self (xs : List Int) : (lost xs xs == 0) = true := by
  rw [beq_iff_eq]
  simp only [lost, IntKind.wrap_u32]
  omega

set_option maxHeartbeats 1000000 in
set_option maxRecDepth 100000 in
theorem law_walk (a0 a1 a2 a3 a4 a5 a6 a7 a8 a9 a10 a11 b0 b1 b2 b3 b4 b5 b6 b7 b8 b9 b10 b11 c0 c1 c2 c3 c4 c5 c6 c7 c8 c9 c10 c11 : Int) (w : World) :
    Calls Try.prog 4 #[arr a0 a1 a2 a3 a4 a5 a6 a7 a8 a9 a10 a11, arr b0 b1 b2 b3 b4 b5 b6 b7 b8 b9 b10 b11, arr c0 c1 c2 c3 c4 c5 c6 c7 c8 c9 c10 c11] w
      fun e w' => e = .returned (.bool true) ∧ Below w.heap.size w w' := by
  go_enter Try.func4, Try.ntmps4
  go_wp2_with (fail)
  refine (speaks_any _).mono ?_
  rintro e w1 ⟨rfl, hb⟩
  have HB1 := Aside0.mk hb
  go_wp2
  go_upto_region 3 with (fail)
  go_cut [7, 8, 9] (fun v7 v8 v9 wc => Three w1 w.heap.size v7 v8 v9 wc)
  case first =>
    go_region
    all_goals go_wp2
    all_goals go_meet
    all_goals exact ⟨_, _, _, rfl, rfl, rfl, by first | exact new3_0 _ _ _ _ | exact new3_1 _ _ _ _ | exact new3_2 _ _ _ _, by first | exact new3_0 _ _ _ _ | exact new3_1 _ _ _ _ | exact new3_2 _ _ _ _, by first | exact new3_0 _ _ _ _ | exact new3_1 _ _ _ _ | exact new3_2 _ _ _ _, by repeat (first | exact Below.refl _ _ | apply below_alloc | apply pw_below_drewN | apply below_drew1)⟩
  case rest =>
    obtain ⟨p, q, r, rfl, rfl, rfl, hp, hq, hr, hb2⟩ := hcut
    have HA := Aside0.mk (arr_holds a0 a1 a2 a3 a4 a5 a6 a7 a8 a9 a10 a11 (new3_0 _ _ _ _) hb hb2)
    have HB := Aside0.mk (arr_holds b0 b1 b2 b3 b4 b5 b6 b7 b8 b9 b10 b11 (new3_1 _ _ _ _) hb hb2)
    have HC := Aside0.mk (arr_holds c0 c1 c2 c3 c4 c5 c6 c7 c8 c9 c10 c11 (new3_2 _ _ _ _) hb hb2)
    have HP := Aside0.mk hp
    have HQ := Aside0.mk hq
    have HR := Aside0.mk hr
    have HB2 := Aside0.mk hb2
    clear hb hp hq hr hb2
    obtain ⟨p0, p1, p2, p3, p4, p5, p6, p7, p8, p9⟩ := cells_of HP.out
    obtain ⟨q0, q1, q2, q3, q4, q5, q6, q7, q8, q9⟩ := cells_of HQ.out
    go_wp2_with (fail)
    refine (lost_yes _ _ _ _ _ _ _ _ _ _ _ _ _ _ _ _ _ _ _ _ _ _ _ _ _ _ _ _ _ _ _ _ _ _ _ _ _ _ _ _ _ HA.out HB.out).mono ?_
    rintro e wd ⟨rfl, hb⟩
    clear p0 p1 p2 p3 p4 p5 p6 p7 p8 p9 q0 q1 q2 q3 q4 q5 q6 q7 q8 q9
    replace HP := Aside0.mk (HP.out.below hb)
    replace HQ := Aside0.mk (HQ.out.below hb)
    replace HR := Aside0.mk (HR.out.below hb)
    replace HA := Aside0.mk (Kd.C_below HA.out hb)
    replace HB := Aside0.mk (Kd.C_below HB.out hb)
    replace HC := Aside0.mk (Kd.C_below HC.out hb)
    replace HB2 := Aside0.mk (below_step HB2.out hb)
    clear hb
    obtain ⟨p0, p1, p2, p3, p4, p5, p6, p7, p8, p9⟩ := cells_of HQ.out
    obtain ⟨q0, q1, q2, q3, q4, q5, q6, q7, q8, q9⟩ := cells_of HR.out
    go_wp2_with (fail)
    refine (lost_yes _ _ _ _ _ _ _ _ _ _ _ _ _ _ _ _ _ _ _ _ _ _ _ _ _ _ _ _ _ _ _ _ _ _ _ _ _ _ _ _ _ HB.out HC.out).mono ?_
    rintro e wd ⟨rfl, hb⟩
    clear p0 p1 p2 p3 p4 p5 p6 p7 p8 p9 q0 q1 q2 q3 q4 q5 q6 q7 q8 q9
    replace HP := Aside0.mk (HP.out.below hb)
    replace HQ := Aside0.mk (HQ.out.below hb)
    replace HR := Aside0.mk (HR.out.below hb)
    replace HA := Aside0.mk (Kd.C_below HA.out hb)
    replace HB := Aside0.mk (Kd.C_below HB.out hb)
    replace HC := Aside0.mk (Kd.C_below HC.out hb)
    replace HB2 := Aside0.mk (below_step HB2.out hb)
    clear hb
    obtain ⟨p0, p1, p2, p3, p4, p5, p6, p7, p8, p9⟩ := cells_of HP.out
    obtain ⟨q0, q1, q2, q3, q4, q5, q6, q7, q8, q9⟩ := cells_of HR.out
    go_wp2_with (fail)
    refine (lost_yes _ _ _ _ _ _ _ _ _ _ _ _ _ _ _ _ _ _ _ _ _ _ _ _ _ _ _ _ _ _ _ _ _ _ _ _ _ _ _ _ _ HA.out HC.out).mono ?_
    rintro e wd ⟨rfl, hb⟩
    clear p0 p1 p2 p3 p4 p5 p6 p7 p8 p9 q0 q1 q2 q3 q4 q5 q6 q7 q8 q9
    replace HP := Aside0.mk (HP.out.below hb)
    replace HA := Aside0.mk (Kd.C_below HA.out hb)
    replace HB2 := Aside0.mk (below_step HB2.out hb)
    clear hb
    obtain ⟨p0, p1, p2, p3, p4, p5, p6, p7, p8, p9⟩ := cells_of HP.out
    go_wp2_with (fail)
    refine (lost_yes _ _ _ _ _ _ _ _ _ _ _ _ _ _ _ _ _ _ _ _ _ _ _ _ _ _ _ _ _ _ _ _ _ _ _ _ _ _ _ _ _ HA.out HA.out).mono ?_
    rintro e wd ⟨rfl, hb⟩
    clear p0 p1 p2 p3 p4 p5 p6 p7 p8 p9
    replace HP := Aside0.mk (HP.out.below hb)
    replace HB2 := Aside0.mk (below_step HB2.out hb)
    clear hb HA HB HC
    obtain ⟨p0, p1, p2, p3, p4, p5, p6, p7, p8, p9⟩ := cells_of HP.out
    go_wp2_with (fail)
    go_region_with (go_at_call 14; refine (lost_no _ _ _ _ _ _ _ _ _ _ _ _ _ _ _ _ _ _ _ _ _ _ _ _ _ _ _ _ _ _ _ _ _ _ _ _ _ _ _ _ _ (Or.inr (by decide)) (by unfold maxLen; omega) (by unfold maxLen; omega)).mono ?_; rintro e wd ⟨rfl, hb⟩)
    have HB3 := Aside0.mk (below_step (below_drew1 HB2.out) hb)
    clear hb p0 p1 p2 p3 p4 p5 p6 p7 p8 p9 HP
    have g1 := lost_adds [a0, a1, a2, a3, a4, a5, a6, a7, a8, a9, a10, a11] [b0, b1, b2, b3, b4, b5, b6, b7, b8, b9, b10, b11] [c0, c1, c2, c3, c4, c5, c6, c7, c8, c9, c10, c11]
    have g2 := lost_self [a0, a1, a2, a3, a4, a5, a6, a7, a8, a9, a10, a11]
    generalize lost [a0, a1, a2, a3, a4, a5, a6, a7, a8, a9, a10, a11] [b0, b1, b2, b3, b4, b5, b6, b7, b8, b9, b10, b11] = l at *
    generalize lost [b0, b1, b2, b3, b4, b5, b6, b7, b8, b9, b10, b11] [c0, c1, c2, c3, c4, c5, c6, c7, c8, c9, c10, c11] = m at *
    generalize lost [a0, a1, a2, a3, a4, a5, a6, a7, a8, a9, a10, a11] [c0, c1, c2, c3, c4, c5, c6, c7, c8, c9, c10, c11] = n at *
    generalize lost [a0, a1, a2, a3, a4, a5, a6, a7, a8, a9, a10, a11] [a0, a1, a2, a3, a4, a5, a6, a7, a8, a9, a10, a11] = o at *
    go_wp2
    go_ret
    exact ⟨rfl, below_step (below_step (by repeat (first | exact Below.refl _ _ | apply below_alloc)) HB1.out) HB3.out⟩

end Go.Proofs.Ytelmlkcoeihhjaa.Ll
