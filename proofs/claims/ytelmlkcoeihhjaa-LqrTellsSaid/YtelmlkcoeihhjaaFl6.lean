import Derived.Test.YtelmlkcoeihhjaaFl0
import Derived.Test.YtelmlkcoeihhjaaFl5
namespace Go.Proofs.Ytelmlkcoeihhjaa.Fl
open Go.RowKit Go.Proofs.YtelmlkcoeihhjaaW.PrintWords Go.Proofs.YtelmlkcoeihhjaaW.PrintLast Go.Proofs.YtelmlkcoeihhjaaW.PrintMore
attribute [local go_sem] max2_int min2_int max_two min_two max_three min_three max_four min_four   -- for this text's walks alone
set_option linter.unusedVariables false
set_option linter.unusedSimpArgs false

/-! ### marlineref19_Put: function 27 -/
mutual
def marlineref19_Put.j0 : Nat → Bool → Int → Int → Int → List (S79) → Int → Int → List Int → List Int → List Int → List Int → Option (List Int × Int)
  | 0, _, _, _, _, _, _, _, _, _, _, _ => none
  | k + 1, x50, x180000, x180001, x180002, x180003, x180004, x180005, x180006, x180007, x180008, x180009 => if x50 = true then (some (([] : List Int), 9)) else (if (x180009.length : Int) = 12 then (marlineref19_Put.l0 k (([] : List Int)) 0 x180000 x180001 x180002 x180003 x180004 x180005 x180006 x180007 x180008 x180009) else (some (([] : List Int), 5)))
def marlineref19_Put.l0 : Nat → List Int → Int → Int → Int → Int → List (S79) → Int → Int → List Int → List Int → List Int → List Int → Option (List Int × Int)
  | 0, _, _, _, _, _, _, _, _, _, _, _, _ => none
  | k + 1, x4, x5, x180000, x180001, x180002, x180003, x180004, x180005, x180006, x180007, x180008, x180009 => if x5 < 12 then (if 0 ≤ x5 then (if x5 < (x180009.length : Int) then ((marlineref15_Number.f k (wrap64 (rd x180009 x5)) 4).bind fun t184 => (if x4.length + t184.length < 140737488355328 then (marlineref19_Put.l0 k (x4 ++ t184) (wrap64 (x5 + 1)) x180000 x180001 x180002 x180003 x180004 x180005 x180006 x180007 x180008 x180009) else (none))) else (none)) else (none)) else (some (x4, 0))
end
def marlineref19_Put.f (k : Nat) (a0_0 : Int) (a0_1 : Int) (a0_2 : Int) (l0_3 : List (S79)) (a0_4 : Int) (a0_5 : Int) (l0_6 : List Int) (l0_7 : List Int) (l0_8 : List Int) (l0_9 : List Int) : Option (List Int × Int) := if a0_0 = 49189 then (if a0_1 = 0 then (if a0_2 = 0 then (if (l0_3.length : Int) > 0 then (marlineref19_Put.j0 k true a0_0 a0_1 a0_2 l0_3 a0_4 a0_5 l0_6 l0_7 l0_8 l0_9) else (if a0_4 = 0 then (if a0_5 = 0 then (if (l0_6.length : Int) > 0 then (marlineref19_Put.j0 k true a0_0 a0_1 a0_2 l0_3 a0_4 a0_5 l0_6 l0_7 l0_8 l0_9) else (if (l0_7.length : Int) > 0 then (marlineref19_Put.j0 k true a0_0 a0_1 a0_2 l0_3 a0_4 a0_5 l0_6 l0_7 l0_8 l0_9) else (marlineref19_Put.j0 k (decide ((l0_8.length : Int) > 0)) a0_0 a0_1 a0_2 l0_3 a0_4 a0_5 l0_6 l0_7 l0_8 l0_9))) else (marlineref19_Put.j0 k true a0_0 a0_1 a0_2 l0_3 a0_4 a0_5 l0_6 l0_7 l0_8 l0_9)) else (marlineref19_Put.j0 k true a0_0 a0_1 a0_2 l0_3 a0_4 a0_5 l0_6 l0_7 l0_8 l0_9))) else (marlineref19_Put.j0 k true a0_0 a0_1 a0_2 l0_3 a0_4 a0_5 l0_6 l0_7 l0_8 l0_9)) else (marlineref19_Put.j0 k true a0_0 a0_1 a0_2 l0_3 a0_4 a0_5 l0_6 l0_7 l0_8 l0_9)) else (some (([] : List Int), 8))
theorem marlineref19_Put.mono_l : ∀ k, (∀ y0 y1 y2 y3 y4 y5 y6 y7 y8 y9 y10, LeO (marlineref19_Put.j0 k y0 y1 y2 y3 y4 y5 y6 y7 y8 y9 y10) (marlineref19_Put.j0 (k + 1) y0 y1 y2 y3 y4 y5 y6 y7 y8 y9 y10)) ∧ (∀ y0 y1 y2 y3 y4 y5 y6 y7 y8 y9 y10 y11, LeO (marlineref19_Put.l0 k y0 y1 y2 y3 y4 y5 y6 y7 y8 y9 y10 y11) (marlineref19_Put.l0 (k + 1) y0 y1 y2 y3 y4 y5 y6 y7 y8 y9 y10 y11))
  | 0 => ⟨fun _ _ _ _ _ _ _ _ _ _ _ r h => by simp [marlineref19_Put.j0] at h, fun _ _ _ _ _ _ _ _ _ _ _ _ r h => by simp [marlineref19_Put.l0] at h⟩
  | k + 1 => by
    obtain ⟨ih0, ih1⟩ := marlineref19_Put.mono_l k
    refine ⟨?_, ?_⟩
    · intro y0 y1 y2 y3 y4 y5 y6 y7 y8 y9 y10
      unfold marlineref19_Put.j0
      repeat' first
      | (with_reducible exact ih0 _ _ _ _ _ _ _ _ _ _ _)
      | (with_reducible exact ih1 _ _ _ _ _ _ _ _ _ _ _ _)
      | (with_reducible exact marlineref15_Number.mono _ _ _)
      | (with_reducible exact LeO.refl _)
      | (with_reducible exact LeO.none _)
      | (with_reducible refine LeO.ite ?_ ?_)
      | (with_reducible refine LeO.bind ?_ (fun _ => ?_))
      | exact ih0 _ _ _ _ _ _ _ _ _ _ _
      | exact ih1 _ _ _ _ _ _ _ _ _ _ _ _
      | exact marlineref15_Number.mono _ _ _
      | exact LeO.none _
      | refine LeO.ite ?_ ?_
      | refine LeO.bind ?_ (fun _ => ?_)
    · intro y0 y1 y2 y3 y4 y5 y6 y7 y8 y9 y10 y11
      unfold marlineref19_Put.l0
      repeat' first
      | (with_reducible exact ih0 _ _ _ _ _ _ _ _ _ _ _)
      | (with_reducible exact ih1 _ _ _ _ _ _ _ _ _ _ _ _)
      | (with_reducible exact marlineref15_Number.mono _ _ _)
      | (with_reducible exact LeO.refl _)
      | (with_reducible exact LeO.none _)
      | (with_reducible refine LeO.ite ?_ ?_)
      | (with_reducible refine LeO.bind ?_ (fun _ => ?_))
      | exact ih0 _ _ _ _ _ _ _ _ _ _ _
      | exact ih1 _ _ _ _ _ _ _ _ _ _ _ _
      | exact marlineref15_Number.mono _ _ _
      | exact LeO.none _
      | refine LeO.ite ?_ ?_
      | refine LeO.bind ?_ (fun _ => ?_)
theorem marlineref19_Put.mono : ∀ a0 a1 a2 a3 a4 a5 a6 a7 a8 a9 k, LeO (marlineref19_Put.f k a0 a1 a2 a3 a4 a5 a6 a7 a8 a9) (marlineref19_Put.f (k + 1) a0 a1 a2 a3 a4 a5 a6 a7 a8 a9) := by
  intro a0 a1 a2 a3 a4 a5 a6 a7 a8 a9 k
  obtain ⟨ih0, ih1⟩ := marlineref19_Put.mono_l k
  unfold marlineref19_Put.f
  repeat' first
      | (with_reducible exact ih0 _ _ _ _ _ _ _ _ _ _ _)
      | (with_reducible exact ih1 _ _ _ _ _ _ _ _ _ _ _ _)
      | (with_reducible exact marlineref15_Number.mono _ _ _)
      | (with_reducible exact LeO.refl _)
      | (with_reducible exact LeO.none _)
      | (with_reducible refine LeO.ite ?_ ?_)
      | (with_reducible refine LeO.bind ?_ (fun _ => ?_))
      | exact ih0 _ _ _ _ _ _ _ _ _ _ _
      | exact ih1 _ _ _ _ _ _ _ _ _ _ _ _
      | exact marlineref15_Number.mono _ _ _
      | exact LeO.none _
      | refine LeO.ite ?_ ?_
      | refine LeO.bind ?_ (fun _ => ?_)
set_option maxHeartbeats 8000000 in
set_option maxRecDepth 100000 in
theorem marlineref19_Put.calls (k : Nat) (a0_0 : Int) (a0_1 : Int) (a0_2 : Int) (A0_3 : Option Addr) (c0_3 : Nat) (l0_3 : List (S79)) (a0_4 : Int) (a0_5 : Int) (A0_6 : Option Addr) (c0_6 : Nat) (l0_6 : List Int) (A0_7 : Option Addr) (c0_7 : Nat) (l0_7 : List Int) (A0_8 : Option Addr) (c0_8 : Nat) (l0_8 : List Int) (A0_9 : Option Addr) (c0_9 : Nat) (l0_9 : List Int) (r1 : List Int) (r2 : Int) (w : World) (hr0_3 : Kd.C k79 w A0_3 l0_3.length l0_3) (hc0_3 : l0_3.length ≤ c0_3) (hr0_6 : Kd.C (Kd.int .u8) w A0_6 l0_6.length l0_6) (hc0_6 : l0_6.length ≤ c0_6) (hr0_7 : Kd.C (Kd.int .u8) w A0_7 l0_7.length l0_7) (hc0_7 : l0_7.length ≤ c0_7) (hr0_8 : Kd.C (Kd.int .u8) w A0_8 l0_8.length l0_8) (hc0_8 : l0_8.length ≤ c0_8) (hr0_9 : Kd.C (Kd.int .u32) w A0_9 l0_9.length l0_9) (hc0_9 : l0_9.length ≤ c0_9) (h : marlineref19_Put.f k a0_0 a0_1 a0_2 l0_3 a0_4 a0_5 l0_6 l0_7 l0_8 l0_9 = some (r1, r2)) :
    Calls Try.prog 27 #[.agg #[.int .u16 a0_0, .int .u8 a0_1, .int .u8 a0_2, .slice A0_3 l0_3.length c0_3, .int .u16 a0_4, .int .u32 a0_5, .slice A0_6 l0_6.length c0_6, .slice A0_7 l0_7.length c0_7, .slice A0_8 l0_8.length c0_8, .slice A0_9 l0_9.length c0_9]] w fun e w' => ∃ v0_ : Value, e = .returned (.tuple #[v0_, .int .i64 r2]) ∧ Kd.R (Kd.int .u8) 5 w' w.heap.size (fun _ => True) v0_ r1 ∧ Below w.heap.size w w' := by
  have hu45 := Try.underlying45
  have HR0_3 := Aside0.mk hr0_3
  have HC0_3 := Aside0.mk hc0_3
  clear hr0_3 hc0_3
  have HR0_6 := Aside0.mk hr0_6
  have HC0_6 := Aside0.mk hc0_6
  clear hr0_6 hc0_6
  have HR0_7 := Aside0.mk hr0_7
  have HC0_7 := Aside0.mk hc0_7
  clear hr0_7 hc0_7
  have HR0_8 := Aside0.mk hr0_8
  have HC0_8 := Aside0.mk hc0_8
  clear hr0_8 hc0_8
  have HR0_9 := Aside0.mk hr0_9
  have HC0_9 := Aside0.mk hc0_9
  clear hr0_9 hc0_9
  have HB := Aside0.mk (Below.refl w.heap.size w)
  have H : (if a0_0 = 49189 then (if a0_1 = 0 then (if a0_2 = 0 then (if (l0_3.length : Int) > 0 then (marlineref19_Put.j0 k true a0_0 a0_1 a0_2 l0_3 a0_4 a0_5 l0_6 l0_7 l0_8 l0_9) else (if a0_4 = 0 then (if a0_5 = 0 then (if (l0_6.length : Int) > 0 then (marlineref19_Put.j0 k true a0_0 a0_1 a0_2 l0_3 a0_4 a0_5 l0_6 l0_7 l0_8 l0_9) else (if (l0_7.length : Int) > 0 then (marlineref19_Put.j0 k true a0_0 a0_1 a0_2 l0_3 a0_4 a0_5 l0_6 l0_7 l0_8 l0_9) else (marlineref19_Put.j0 k (decide ((l0_8.length : Int) > 0)) a0_0 a0_1 a0_2 l0_3 a0_4 a0_5 l0_6 l0_7 l0_8 l0_9))) else (marlineref19_Put.j0 k true a0_0 a0_1 a0_2 l0_3 a0_4 a0_5 l0_6 l0_7 l0_8 l0_9)) else (marlineref19_Put.j0 k true a0_0 a0_1 a0_2 l0_3 a0_4 a0_5 l0_6 l0_7 l0_8 l0_9))) else (marlineref19_Put.j0 k true a0_0 a0_1 a0_2 l0_3 a0_4 a0_5 l0_6 l0_7 l0_8 l0_9)) else (marlineref19_Put.j0 k true a0_0 a0_1 a0_2 l0_3 a0_4 a0_5 l0_6 l0_7 l0_8 l0_9)) else (some (([] : List Int), 8))) = some (r1, r2) := h
  clear h
  by_cases c2 : a0_0 = 49189
  · rw [if_pos c2] at H
    have c2b0 : (a0_0 == 49189) = true := beq_iff_eq.mpr c2
    have c2b1 : (a0_0 != 49189) = false := bne_eq_false_iff_eq.mpr c2
    clear c2
    have HC3 := Aside0.mk H
    clear H
    go_enter Try.func27, Try.ntmps27
    go_upto_region 3 with (first | ((with_reducible refine gate_dst (N := 1) rfl ?_); (try (refine gate_guard (by rfl) ?_; dsimp only)); refine box_event ?hg (N := 1) ?hd (cs := #[.int .u16 a0_0, .int .u8 a0_1, .int .u8 a0_2, .slice A0_3 l0_3.length c0_3, .int .u16 a0_4, .int .u32 a0_5, .slice A0_6 l0_6.length c0_6, .slice A0_7 l0_7.length c0_7, .slice A0_8 l0_8.length c0_8, .slice A0_9 l0_9.length c0_9]) (t := 45) ?hr ?_; (case hd => rfl); (case hg => rfl); (case hr => first | (go_simp; done) | (go_simp; rfl)); intro gb179 hg w4 hbox hb; have n0_ := Aside0.mk (below_step (by repeat (first | (with_reducible first | exact HB.out | apply below_alloc | apply pw_below_drewN | apply below_drew1) | exact HB.out)) hb); have n1_ := Aside0.mk (hbox); have n2_ := Aside0.mk ((by rw [hg]; exact (below_size (by repeat (first | (with_reducible first | exact HB.out | apply below_alloc | apply pw_below_drewN | apply below_drew1) | exact HB.out))) : w.heap.size ≤ gb179)); have n3_ := Aside0.mk ((by rw [hg]; exact (below_size (by repeat (first | (with_reducible first | exact HB.out | apply below_alloc | apply pw_below_drewN | apply below_drew1) | exact HB.out))) : w.heap.size ≤ gb179)); clear HB; have HB := n0_; have BK179 := n1_; have GW179 := n2_; have GE179 := n3_; clear n0_ n1_ n2_ n3_; clear hb hbox hg; have hcz5_0 : w4.cell? ⟨gb179, 0, none⟩ = some (.int .u16 a0_0) := (blk_cell BK179.out 0).trans rfl; have hcz5_1 : w4.cell? ⟨gb179, 1, none⟩ = some (.int .u8 a0_1) := (blk_cell BK179.out 1).trans rfl; have hcz5_2 : w4.cell? ⟨gb179, 2, none⟩ = some (.int .u8 a0_2) := (blk_cell BK179.out 2).trans rfl; have hcz5_3 : w4.cell? ⟨gb179, 3, none⟩ = some (.slice A0_3 l0_3.length c0_3) := (blk_cell BK179.out 3).trans rfl; have hcz5_4 : w4.cell? ⟨gb179, 4, none⟩ = some (.int .u16 a0_4) := (blk_cell BK179.out 4).trans rfl; have hcz5_5 : w4.cell? ⟨gb179, 5, none⟩ = some (.int .u32 a0_5) := (blk_cell BK179.out 5).trans rfl; have hcz5_6 : w4.cell? ⟨gb179, 6, none⟩ = some (.slice A0_6 l0_6.length c0_6) := (blk_cell BK179.out 6).trans rfl; have hcz5_7 : w4.cell? ⟨gb179, 7, none⟩ = some (.slice A0_7 l0_7.length c0_7) := (blk_cell BK179.out 7).trans rfl; have hcz5_8 : w4.cell? ⟨gb179, 8, none⟩ = some (.slice A0_8 l0_8.length c0_8) := (blk_cell BK179.out 8).trans rfl; have hcz5_9 : w4.cell? ⟨gb179, 9, none⟩ = some (.slice A0_9 l0_9.length c0_9) := (blk_cell BK179.out 9).trans rfl; have hfz5_0 := blk_frozen BK179.out 0; have hfz5_1 := blk_frozen BK179.out 1; have hfz5_2 := blk_frozen BK179.out 2; have hfz5_3 := blk_frozen BK179.out 3; have hfz5_4 := blk_frozen BK179.out 4; have hfz5_5 := blk_frozen BK179.out 5; have hfz5_6 := blk_frozen BK179.out 6; have hfz5_7 := blk_frozen BK179.out 7; have hfz5_8 := blk_frozen BK179.out 8; have hfz5_9 := blk_frozen BK179.out 9))
    (try simp only [Act.put, List.setIfInBounds_toArray, List.set_cons_zero, List.set_cons_succ])
    go_cut [50] (fun v50 wc => ∃ (kq : Nat) (x50_2 : Bool), v50 = .bool x50_2 ∧ Aside0 (marlineref19_Put.j0 kq x50_2 a0_0 a0_1 a0_2 l0_3 a0_4 a0_5 l0_6 l0_7 l0_8 l0_9 = some (r1, r2)) ∧ Aside0 (kq ≤ k) ∧ Aside0 (wc.heap[gb179]? = some (.cells #[.int .u16 a0_0, .int .u8 a0_1, .int .u8 a0_2, (.slice A0_3 l0_3.length c0_3), .int .u16 a0_4, .int .u32 a0_5, (.slice A0_6 l0_6.length c0_6), (.slice A0_7 l0_7.length c0_7), (.slice A0_8 l0_8.length c0_8), (.slice A0_9 l0_9.length c0_9)] 45 (0, 0))) ∧ Aside0 (Below w.heap.size w wc))
    case first =>
      have H := HC3.out
      clear HC3
      by_cases c6 : a0_1 = 0
      · rw [if_pos c6] at H
        have c6b0 : (a0_1 == 0) = true := beq_iff_eq.mpr c6
        have c6b1 : (a0_1 != 0) = false := bne_eq_false_iff_eq.mpr c6
        clear c6
        (first | rw [c6b0] | (simp only [i64_w, i32_w]; rw [c6b0]) | skip)
        by_cases c7 : a0_2 = 0
        · rw [if_pos c7] at H
          have c7b0 : (a0_2 == 0) = true := beq_iff_eq.mpr c7
          have c7b1 : (a0_2 != 0) = false := bne_eq_false_iff_eq.mpr c7
          clear c7
          by_cases c8 : (l0_3.length : Int) > 0
          · rw [if_pos c8] at H
            have c8b0 : decide (0 < (l0_3.length : Int)) = true := decide_eq_true c8
            have c8b1 : decide (0 < l0_3.length) = true := decide_eq_true (by omega)
            clear c8
            have H' := Aside0.mk H
            clear H
            have hcz9_0 : w4.cell? ⟨gb179, 0, none⟩ = some (.int .u16 a0_0) := (blk_cell BK179.out 0).trans rfl
            have hcz9_1 : w4.cell? ⟨gb179, 1, none⟩ = some (.int .u8 a0_1) := (blk_cell BK179.out 1).trans rfl
            have hcz9_2 : w4.cell? ⟨gb179, 2, none⟩ = some (.int .u8 a0_2) := (blk_cell BK179.out 2).trans rfl
            have hcz9_3 : w4.cell? ⟨gb179, 3, none⟩ = some (.slice A0_3 l0_3.length c0_3) := (blk_cell BK179.out 3).trans rfl
            have hcz9_4 : w4.cell? ⟨gb179, 4, none⟩ = some (.int .u16 a0_4) := (blk_cell BK179.out 4).trans rfl
            have hcz9_5 : w4.cell? ⟨gb179, 5, none⟩ = some (.int .u32 a0_5) := (blk_cell BK179.out 5).trans rfl
            have hcz9_6 : w4.cell? ⟨gb179, 6, none⟩ = some (.slice A0_6 l0_6.length c0_6) := (blk_cell BK179.out 6).trans rfl
            have hcz9_7 : w4.cell? ⟨gb179, 7, none⟩ = some (.slice A0_7 l0_7.length c0_7) := (blk_cell BK179.out 7).trans rfl
            have hcz9_8 : w4.cell? ⟨gb179, 8, none⟩ = some (.slice A0_8 l0_8.length c0_8) := (blk_cell BK179.out 8).trans rfl
            have hcz9_9 : w4.cell? ⟨gb179, 9, none⟩ = some (.slice A0_9 l0_9.length c0_9) := (blk_cell BK179.out 9).trans rfl
            have hfz9_0 := blk_frozen BK179.out 0
            have hfz9_1 := blk_frozen BK179.out 1
            have hfz9_2 := blk_frozen BK179.out 2
            have hfz9_3 := blk_frozen BK179.out 3
            have hfz9_4 := blk_frozen BK179.out 4
            have hfz9_5 := blk_frozen BK179.out 5
            have hfz9_6 := blk_frozen BK179.out 6
            have hfz9_7 := blk_frozen BK179.out 7
            have hfz9_8 := blk_frozen BK179.out 8
            have hfz9_9 := blk_frozen BK179.out 9
            go_wp2
            go_meet
            case rel => exact ⟨_, (true), (by first | rfl | (simp; done) | (simp [*]; done)), H', ⟨by first | omega | exact Nat.le_refl _⟩, ⟨by (with_reducible repeat (first | refine blk_drewN ?_ _ | refine blk_drew ?_ | refine blk_alloc ?_ _)); exact BK179.out⟩, ⟨by repeat (first | (with_reducible first | exact HB.out | apply below_alloc | apply pw_below_drewN | apply below_drew1 | refine below_set ?_ GE179.out) | exact HB.out)⟩⟩
          · rw [if_neg c8] at H
            have c8b0 : decide (0 < (l0_3.length : Int)) = false := decide_eq_false c8
            have c8b1 : decide (0 < l0_3.length) = false := decide_eq_false (by omega)
            clear c8
            by_cases c10 : a0_4 = 0
            · rw [if_pos c10] at H
              have c10b0 : (a0_4 == 0) = true := beq_iff_eq.mpr c10
              have c10b1 : (a0_4 != 0) = false := bne_eq_false_iff_eq.mpr c10
              clear c10
              by_cases c11 : a0_5 = 0
              · rw [if_pos c11] at H
                have c11b0 : (a0_5 == 0) = true := beq_iff_eq.mpr c11
                have c11b1 : (a0_5 != 0) = false := bne_eq_false_iff_eq.mpr c11
                clear c11
                by_cases c12 : (l0_6.length : Int) > 0
                · rw [if_pos c12] at H
                  have c12b0 : decide (0 < (l0_6.length : Int)) = true := decide_eq_true c12
                  have c12b1 : decide (0 < l0_6.length) = true := decide_eq_true (by omega)
                  clear c12
                  have H' := Aside0.mk H
                  clear H
                  have hcz13_0 : w4.cell? ⟨gb179, 0, none⟩ = some (.int .u16 a0_0) := (blk_cell BK179.out 0).trans rfl
                  have hcz13_1 : w4.cell? ⟨gb179, 1, none⟩ = some (.int .u8 a0_1) := (blk_cell BK179.out 1).trans rfl
                  have hcz13_2 : w4.cell? ⟨gb179, 2, none⟩ = some (.int .u8 a0_2) := (blk_cell BK179.out 2).trans rfl
                  have hcz13_3 : w4.cell? ⟨gb179, 3, none⟩ = some (.slice A0_3 l0_3.length c0_3) := (blk_cell BK179.out 3).trans rfl
                  have hcz13_4 : w4.cell? ⟨gb179, 4, none⟩ = some (.int .u16 a0_4) := (blk_cell BK179.out 4).trans rfl
                  have hcz13_5 : w4.cell? ⟨gb179, 5, none⟩ = some (.int .u32 a0_5) := (blk_cell BK179.out 5).trans rfl
                  have hcz13_6 : w4.cell? ⟨gb179, 6, none⟩ = some (.slice A0_6 l0_6.length c0_6) := (blk_cell BK179.out 6).trans rfl
                  have hcz13_7 : w4.cell? ⟨gb179, 7, none⟩ = some (.slice A0_7 l0_7.length c0_7) := (blk_cell BK179.out 7).trans rfl
                  have hcz13_8 : w4.cell? ⟨gb179, 8, none⟩ = some (.slice A0_8 l0_8.length c0_8) := (blk_cell BK179.out 8).trans rfl
                  have hcz13_9 : w4.cell? ⟨gb179, 9, none⟩ = some (.slice A0_9 l0_9.length c0_9) := (blk_cell BK179.out 9).trans rfl
                  have hfz13_0 := blk_frozen BK179.out 0
                  have hfz13_1 := blk_frozen BK179.out 1
                  have hfz13_2 := blk_frozen BK179.out 2
                  have hfz13_3 := blk_frozen BK179.out 3
                  have hfz13_4 := blk_frozen BK179.out 4
                  have hfz13_5 := blk_frozen BK179.out 5
                  have hfz13_6 := blk_frozen BK179.out 6
                  have hfz13_7 := blk_frozen BK179.out 7
                  have hfz13_8 := blk_frozen BK179.out 8
                  have hfz13_9 := blk_frozen BK179.out 9
                  go_wp2
                  go_meet
                  case rel => exact ⟨_, (true), (by first | rfl | (simp; done) | (simp [*]; done)), H', ⟨by first | omega | exact Nat.le_refl _⟩, ⟨by (with_reducible repeat (first | refine blk_drewN ?_ _ | refine blk_drew ?_ | refine blk_alloc ?_ _)); exact BK179.out⟩, ⟨by repeat (first | (with_reducible first | exact HB.out | apply below_alloc | apply pw_below_drewN | apply below_drew1 | refine below_set ?_ GE179.out) | exact HB.out)⟩⟩
                · rw [if_neg c12] at H
                  have c12b0 : decide (0 < (l0_6.length : Int)) = false := decide_eq_false c12
                  have c12b1 : decide (0 < l0_6.length) = false := decide_eq_false (by omega)
                  clear c12
                  by_cases c14 : (l0_7.length : Int) > 0
                  · rw [if_pos c14] at H
                    have c14b0 : decide (0 < (l0_7.length : Int)) = true := decide_eq_true c14
                    have c14b1 : decide (0 < l0_7.length) = true := decide_eq_true (by omega)
                    clear c14
                    have H' := Aside0.mk H
                    clear H
                    have hcz15_0 : w4.cell? ⟨gb179, 0, none⟩ = some (.int .u16 a0_0) := (blk_cell BK179.out 0).trans rfl
                    have hcz15_1 : w4.cell? ⟨gb179, 1, none⟩ = some (.int .u8 a0_1) := (blk_cell BK179.out 1).trans rfl
                    have hcz15_2 : w4.cell? ⟨gb179, 2, none⟩ = some (.int .u8 a0_2) := (blk_cell BK179.out 2).trans rfl
                    have hcz15_3 : w4.cell? ⟨gb179, 3, none⟩ = some (.slice A0_3 l0_3.length c0_3) := (blk_cell BK179.out 3).trans rfl
                    have hcz15_4 : w4.cell? ⟨gb179, 4, none⟩ = some (.int .u16 a0_4) := (blk_cell BK179.out 4).trans rfl
                    have hcz15_5 : w4.cell? ⟨gb179, 5, none⟩ = some (.int .u32 a0_5) := (blk_cell BK179.out 5).trans rfl
                    have hcz15_6 : w4.cell? ⟨gb179, 6, none⟩ = some (.slice A0_6 l0_6.length c0_6) := (blk_cell BK179.out 6).trans rfl
                    have hcz15_7 : w4.cell? ⟨gb179, 7, none⟩ = some (.slice A0_7 l0_7.length c0_7) := (blk_cell BK179.out 7).trans rfl
                    have hcz15_8 : w4.cell? ⟨gb179, 8, none⟩ = some (.slice A0_8 l0_8.length c0_8) := (blk_cell BK179.out 8).trans rfl
                    have hcz15_9 : w4.cell? ⟨gb179, 9, none⟩ = some (.slice A0_9 l0_9.length c0_9) := (blk_cell BK179.out 9).trans rfl
                    have hfz15_0 := blk_frozen BK179.out 0
                    have hfz15_1 := blk_frozen BK179.out 1
                    have hfz15_2 := blk_frozen BK179.out 2
                    have hfz15_3 := blk_frozen BK179.out 3
                    have hfz15_4 := blk_frozen BK179.out 4
                    have hfz15_5 := blk_frozen BK179.out 5
                    have hfz15_6 := blk_frozen BK179.out 6
                    have hfz15_7 := blk_frozen BK179.out 7
                    have hfz15_8 := blk_frozen BK179.out 8
                    have hfz15_9 := blk_frozen BK179.out 9
                    go_wp2
                    go_meet
                    case rel => exact ⟨_, (true), (by first | rfl | (simp; done) | (simp [*]; done)), H', ⟨by first | omega | exact Nat.le_refl _⟩, ⟨by (with_reducible repeat (first | refine blk_drewN ?_ _ | refine blk_drew ?_ | refine blk_alloc ?_ _)); exact BK179.out⟩, ⟨by repeat (first | (with_reducible first | exact HB.out | apply below_alloc | apply pw_below_drewN | apply below_drew1 | refine below_set ?_ GE179.out) | exact HB.out)⟩⟩
                  · rw [if_neg c14] at H
                    have c14b0 : decide (0 < (l0_7.length : Int)) = false := decide_eq_false c14
                    have c14b1 : decide (0 < l0_7.length) = false := decide_eq_false (by omega)
                    clear c14
                    have H' := Aside0.mk H
                    clear H
                    have hcz16_0 : w4.cell? ⟨gb179, 0, none⟩ = some (.int .u16 a0_0) := (blk_cell BK179.out 0).trans rfl
                    have hcz16_1 : w4.cell? ⟨gb179, 1, none⟩ = some (.int .u8 a0_1) := (blk_cell BK179.out 1).trans rfl
                    have hcz16_2 : w4.cell? ⟨gb179, 2, none⟩ = some (.int .u8 a0_2) := (blk_cell BK179.out 2).trans rfl
                    have hcz16_3 : w4.cell? ⟨gb179, 3, none⟩ = some (.slice A0_3 l0_3.length c0_3) := (blk_cell BK179.out 3).trans rfl
                    have hcz16_4 : w4.cell? ⟨gb179, 4, none⟩ = some (.int .u16 a0_4) := (blk_cell BK179.out 4).trans rfl
                    have hcz16_5 : w4.cell? ⟨gb179, 5, none⟩ = some (.int .u32 a0_5) := (blk_cell BK179.out 5).trans rfl
                    have hcz16_6 : w4.cell? ⟨gb179, 6, none⟩ = some (.slice A0_6 l0_6.length c0_6) := (blk_cell BK179.out 6).trans rfl
                    have hcz16_7 : w4.cell? ⟨gb179, 7, none⟩ = some (.slice A0_7 l0_7.length c0_7) := (blk_cell BK179.out 7).trans rfl
                    have hcz16_8 : w4.cell? ⟨gb179, 8, none⟩ = some (.slice A0_8 l0_8.length c0_8) := (blk_cell BK179.out 8).trans rfl
                    have hcz16_9 : w4.cell? ⟨gb179, 9, none⟩ = some (.slice A0_9 l0_9.length c0_9) := (blk_cell BK179.out 9).trans rfl
                    have hfz16_0 := blk_frozen BK179.out 0
                    have hfz16_1 := blk_frozen BK179.out 1
                    have hfz16_2 := blk_frozen BK179.out 2
                    have hfz16_3 := blk_frozen BK179.out 3
                    have hfz16_4 := blk_frozen BK179.out 4
                    have hfz16_5 := blk_frozen BK179.out 5
                    have hfz16_6 := blk_frozen BK179.out 6
                    have hfz16_7 := blk_frozen BK179.out 7
                    have hfz16_8 := blk_frozen BK179.out 8
                    have hfz16_9 := blk_frozen BK179.out 9
                    go_wp2
                    go_meet
                    case rel => exact ⟨_, (decide ((l0_8.length : Int) > 0)), (by first | rfl | (simp; done) | (simp [*]; done)), H', ⟨by first | omega | exact Nat.le_refl _⟩, ⟨by (with_reducible repeat (first | refine blk_drewN ?_ _ | refine blk_drew ?_ | refine blk_alloc ?_ _)); exact BK179.out⟩, ⟨by repeat (first | (with_reducible first | exact HB.out | apply below_alloc | apply pw_below_drewN | apply below_drew1 | refine below_set ?_ GE179.out) | exact HB.out)⟩⟩
              · rw [if_neg c11] at H
                have c11b0 : (a0_5 == 0) = false := beq_eq_false_iff_ne.mpr c11
                have c11b1 : (a0_5 != 0) = true := bne_iff_ne.mpr c11
                have H' := Aside0.mk H
                clear H
                have hcz17_0 : w4.cell? ⟨gb179, 0, none⟩ = some (.int .u16 a0_0) := (blk_cell BK179.out 0).trans rfl
                have hcz17_1 : w4.cell? ⟨gb179, 1, none⟩ = some (.int .u8 a0_1) := (blk_cell BK179.out 1).trans rfl
                have hcz17_2 : w4.cell? ⟨gb179, 2, none⟩ = some (.int .u8 a0_2) := (blk_cell BK179.out 2).trans rfl
                have hcz17_3 : w4.cell? ⟨gb179, 3, none⟩ = some (.slice A0_3 l0_3.length c0_3) := (blk_cell BK179.out 3).trans rfl
                have hcz17_4 : w4.cell? ⟨gb179, 4, none⟩ = some (.int .u16 a0_4) := (blk_cell BK179.out 4).trans rfl
                have hcz17_5 : w4.cell? ⟨gb179, 5, none⟩ = some (.int .u32 a0_5) := (blk_cell BK179.out 5).trans rfl
                have hcz17_6 : w4.cell? ⟨gb179, 6, none⟩ = some (.slice A0_6 l0_6.length c0_6) := (blk_cell BK179.out 6).trans rfl
                have hcz17_7 : w4.cell? ⟨gb179, 7, none⟩ = some (.slice A0_7 l0_7.length c0_7) := (blk_cell BK179.out 7).trans rfl
                have hcz17_8 : w4.cell? ⟨gb179, 8, none⟩ = some (.slice A0_8 l0_8.length c0_8) := (blk_cell BK179.out 8).trans rfl
                have hcz17_9 : w4.cell? ⟨gb179, 9, none⟩ = some (.slice A0_9 l0_9.length c0_9) := (blk_cell BK179.out 9).trans rfl
                have hfz17_0 := blk_frozen BK179.out 0
                have hfz17_1 := blk_frozen BK179.out 1
                have hfz17_2 := blk_frozen BK179.out 2
                have hfz17_3 := blk_frozen BK179.out 3
                have hfz17_4 := blk_frozen BK179.out 4
                have hfz17_5 := blk_frozen BK179.out 5
                have hfz17_6 := blk_frozen BK179.out 6
                have hfz17_7 := blk_frozen BK179.out 7
                have hfz17_8 := blk_frozen BK179.out 8
                have hfz17_9 := blk_frozen BK179.out 9
                go_wp2
                go_meet
                case rel => exact ⟨_, (true), (by first | rfl | (simp; done) | (simp [*]; done)), H', ⟨by first | omega | exact Nat.le_refl _⟩, ⟨by (with_reducible repeat (first | refine blk_drewN ?_ _ | refine blk_drew ?_ | refine blk_alloc ?_ _)); exact BK179.out⟩, ⟨by repeat (first | (with_reducible first | exact HB.out | apply below_alloc | apply pw_below_drewN | apply below_drew1 | refine below_set ?_ GE179.out) | exact HB.out)⟩⟩
            · rw [if_neg c10] at H
              have c10b0 : (a0_4 == 0) = false := beq_eq_false_iff_ne.mpr c10
              have c10b1 : (a0_4 != 0) = true := bne_iff_ne.mpr c10
              have H' := Aside0.mk H
              clear H
              have hcz18_0 : w4.cell? ⟨gb179, 0, none⟩ = some (.int .u16 a0_0) := (blk_cell BK179.out 0).trans rfl
              have hcz18_1 : w4.cell? ⟨gb179, 1, none⟩ = some (.int .u8 a0_1) := (blk_cell BK179.out 1).trans rfl
              have hcz18_2 : w4.cell? ⟨gb179, 2, none⟩ = some (.int .u8 a0_2) := (blk_cell BK179.out 2).trans rfl
              have hcz18_3 : w4.cell? ⟨gb179, 3, none⟩ = some (.slice A0_3 l0_3.length c0_3) := (blk_cell BK179.out 3).trans rfl
              have hcz18_4 : w4.cell? ⟨gb179, 4, none⟩ = some (.int .u16 a0_4) := (blk_cell BK179.out 4).trans rfl
              have hcz18_5 : w4.cell? ⟨gb179, 5, none⟩ = some (.int .u32 a0_5) := (blk_cell BK179.out 5).trans rfl
              have hcz18_6 : w4.cell? ⟨gb179, 6, none⟩ = some (.slice A0_6 l0_6.length c0_6) := (blk_cell BK179.out 6).trans rfl
              have hcz18_7 : w4.cell? ⟨gb179, 7, none⟩ = some (.slice A0_7 l0_7.length c0_7) := (blk_cell BK179.out 7).trans rfl
              have hcz18_8 : w4.cell? ⟨gb179, 8, none⟩ = some (.slice A0_8 l0_8.length c0_8) := (blk_cell BK179.out 8).trans rfl
              have hcz18_9 : w4.cell? ⟨gb179, 9, none⟩ = some (.slice A0_9 l0_9.length c0_9) := (blk_cell BK179.out 9).trans rfl
              have hfz18_0 := blk_frozen BK179.out 0
              have hfz18_1 := blk_frozen BK179.out 1
              have hfz18_2 := blk_frozen BK179.out 2
              have hfz18_3 := blk_frozen BK179.out 3
              have hfz18_4 := blk_frozen BK179.out 4
              have hfz18_5 := blk_frozen BK179.out 5
              have hfz18_6 := blk_frozen BK179.out 6
              have hfz18_7 := blk_frozen BK179.out 7
              have hfz18_8 := blk_frozen BK179.out 8
              have hfz18_9 := blk_frozen BK179.out 9
              go_wp2
              go_meet
              case rel => exact ⟨_, (true), (by first | rfl | (simp; done) | (simp [*]; done)), H', ⟨by first | omega | exact Nat.le_refl _⟩, ⟨by (with_reducible repeat (first | refine blk_drewN ?_ _ | refine blk_drew ?_ | refine blk_alloc ?_ _)); exact BK179.out⟩, ⟨by repeat (first | (with_reducible first | exact HB.out | apply below_alloc | apply pw_below_drewN | apply below_drew1 | refine below_set ?_ GE179.out) | exact HB.out)⟩⟩
        · rw [if_neg c7] at H
          have c7b0 : (a0_2 == 0) = false := beq_eq_false_iff_ne.mpr c7
          have c7b1 : (a0_2 != 0) = true := bne_iff_ne.mpr c7
          have H' := Aside0.mk H
          clear H
          have hcz19_0 : w4.cell? ⟨gb179, 0, none⟩ = some (.int .u16 a0_0) := (blk_cell BK179.out 0).trans rfl
          have hcz19_1 : w4.cell? ⟨gb179, 1, none⟩ = some (.int .u8 a0_1) := (blk_cell BK179.out 1).trans rfl
          have hcz19_2 : w4.cell? ⟨gb179, 2, none⟩ = some (.int .u8 a0_2) := (blk_cell BK179.out 2).trans rfl
          have hcz19_3 : w4.cell? ⟨gb179, 3, none⟩ = some (.slice A0_3 l0_3.length c0_3) := (blk_cell BK179.out 3).trans rfl
          have hcz19_4 : w4.cell? ⟨gb179, 4, none⟩ = some (.int .u16 a0_4) := (blk_cell BK179.out 4).trans rfl
          have hcz19_5 : w4.cell? ⟨gb179, 5, none⟩ = some (.int .u32 a0_5) := (blk_cell BK179.out 5).trans rfl
          have hcz19_6 : w4.cell? ⟨gb179, 6, none⟩ = some (.slice A0_6 l0_6.length c0_6) := (blk_cell BK179.out 6).trans rfl
          have hcz19_7 : w4.cell? ⟨gb179, 7, none⟩ = some (.slice A0_7 l0_7.length c0_7) := (blk_cell BK179.out 7).trans rfl
          have hcz19_8 : w4.cell? ⟨gb179, 8, none⟩ = some (.slice A0_8 l0_8.length c0_8) := (blk_cell BK179.out 8).trans rfl
          have hcz19_9 : w4.cell? ⟨gb179, 9, none⟩ = some (.slice A0_9 l0_9.length c0_9) := (blk_cell BK179.out 9).trans rfl
          have hfz19_0 := blk_frozen BK179.out 0
          have hfz19_1 := blk_frozen BK179.out 1
          have hfz19_2 := blk_frozen BK179.out 2
          have hfz19_3 := blk_frozen BK179.out 3
          have hfz19_4 := blk_frozen BK179.out 4
          have hfz19_5 := blk_frozen BK179.out 5
          have hfz19_6 := blk_frozen BK179.out 6
          have hfz19_7 := blk_frozen BK179.out 7
          have hfz19_8 := blk_frozen BK179.out 8
          have hfz19_9 := blk_frozen BK179.out 9
          go_wp2
          go_meet
          case rel => exact ⟨_, (true), (by first | rfl | (simp; done) | (simp [*]; done)), H', ⟨by first | omega | exact Nat.le_refl _⟩, ⟨by (with_reducible repeat (first | refine blk_drewN ?_ _ | refine blk_drew ?_ | refine blk_alloc ?_ _)); exact BK179.out⟩, ⟨by repeat (first | (with_reducible first | exact HB.out | apply below_alloc | apply pw_below_drewN | apply below_drew1 | refine below_set ?_ GE179.out) | exact HB.out)⟩⟩
      · rw [if_neg c6] at H
        have c6b0 : (a0_1 == 0) = false := beq_eq_false_iff_ne.mpr c6
        have c6b1 : (a0_1 != 0) = true := bne_iff_ne.mpr c6
        (first | rw [c6b0] | (simp only [i64_w, i32_w]; rw [c6b0]) | skip)
        have H' := Aside0.mk H
        clear H
        have hcz20_0 : w4.cell? ⟨gb179, 0, none⟩ = some (.int .u16 a0_0) := (blk_cell BK179.out 0).trans rfl
        have hcz20_1 : w4.cell? ⟨gb179, 1, none⟩ = some (.int .u8 a0_1) := (blk_cell BK179.out 1).trans rfl
        have hcz20_2 : w4.cell? ⟨gb179, 2, none⟩ = some (.int .u8 a0_2) := (blk_cell BK179.out 2).trans rfl
        have hcz20_3 : w4.cell? ⟨gb179, 3, none⟩ = some (.slice A0_3 l0_3.length c0_3) := (blk_cell BK179.out 3).trans rfl
        have hcz20_4 : w4.cell? ⟨gb179, 4, none⟩ = some (.int .u16 a0_4) := (blk_cell BK179.out 4).trans rfl
        have hcz20_5 : w4.cell? ⟨gb179, 5, none⟩ = some (.int .u32 a0_5) := (blk_cell BK179.out 5).trans rfl
        have hcz20_6 : w4.cell? ⟨gb179, 6, none⟩ = some (.slice A0_6 l0_6.length c0_6) := (blk_cell BK179.out 6).trans rfl
        have hcz20_7 : w4.cell? ⟨gb179, 7, none⟩ = some (.slice A0_7 l0_7.length c0_7) := (blk_cell BK179.out 7).trans rfl
        have hcz20_8 : w4.cell? ⟨gb179, 8, none⟩ = some (.slice A0_8 l0_8.length c0_8) := (blk_cell BK179.out 8).trans rfl
        have hcz20_9 : w4.cell? ⟨gb179, 9, none⟩ = some (.slice A0_9 l0_9.length c0_9) := (blk_cell BK179.out 9).trans rfl
        have hfz20_0 := blk_frozen BK179.out 0
        have hfz20_1 := blk_frozen BK179.out 1
        have hfz20_2 := blk_frozen BK179.out 2
        have hfz20_3 := blk_frozen BK179.out 3
        have hfz20_4 := blk_frozen BK179.out 4
        have hfz20_5 := blk_frozen BK179.out 5
        have hfz20_6 := blk_frozen BK179.out 6
        have hfz20_7 := blk_frozen BK179.out 7
        have hfz20_8 := blk_frozen BK179.out 8
        have hfz20_9 := blk_frozen BK179.out 9
        go_wp2
        go_meet
        case rel => exact ⟨_, (true), (by first | rfl | (simp; done) | (simp [*]; done)), H', ⟨by first | omega | exact Nat.le_refl _⟩, ⟨by (with_reducible repeat (first | refine blk_drewN ?_ _ | refine blk_drew ?_ | refine blk_alloc ?_ _)); exact BK179.out⟩, ⟨by repeat (first | (with_reducible first | exact HB.out | apply below_alloc | apply pw_below_drewN | apply below_drew1 | refine below_set ?_ GE179.out) | exact HB.out)⟩⟩
    case rest =>
      clear HC3
      try clear c1
      try clear c2
      try clear c2b0
      try clear c2b1
      try clear p2
      try clear c6
      try clear c6b0
      try clear c6b1
      try clear c7
      try clear c7b0
      try clear c7b1
      try clear c8
      try clear c8b0
      try clear c8b1
      try clear c10
      try clear c10b0
      try clear c10b1
      try clear c11
      try clear c11b0
      try clear c11b1
      try clear c12
      try clear c12b0
      try clear c12b1
      try clear c14
      try clear c14b0
      try clear c14b1
      try clear hcz13_0
      try clear hcz13_1
      try clear hcz13_2
      try clear hcz13_3
      try clear hcz13_4
      try clear hcz13_5
      try clear hcz13_6
      try clear hcz13_7
      try clear hcz13_8
      try clear hcz13_9
      try clear hcz15_0
      try clear hcz15_1
      try clear hcz15_2
      try clear hcz15_3
      try clear hcz15_4
      try clear hcz15_5
      try clear hcz15_6
      try clear hcz15_7
      try clear hcz15_8
      try clear hcz15_9
      try clear hcz16_0
      try clear hcz16_1
      try clear hcz16_2
      try clear hcz16_3
      try clear hcz16_4
      try clear hcz16_5
      try clear hcz16_6
      try clear hcz16_7
      try clear hcz16_8
      try clear hcz16_9
      try clear hcz17_0
      try clear hcz17_1
      try clear hcz17_2
      try clear hcz17_3
      try clear hcz17_4
      try clear hcz17_5
      try clear hcz17_6
      try clear hcz17_7
      try clear hcz17_8
      try clear hcz17_9
      try clear hcz18_0
      try clear hcz18_1
      try clear hcz18_2
      try clear hcz18_3
      try clear hcz18_4
      try clear hcz18_5
      try clear hcz18_6
      try clear hcz18_7
      try clear hcz18_8
      try clear hcz18_9
      try clear hcz19_0
      try clear hcz19_1
      try clear hcz19_2
      try clear hcz19_3
      try clear hcz19_4
      try clear hcz19_5
      try clear hcz19_6
      try clear hcz19_7
      try clear hcz19_8
      try clear hcz19_9
      try clear hcz20_0
      try clear hcz20_1
      try clear hcz20_2
      try clear hcz20_3
      try clear hcz20_4
      try clear hcz20_5
      try clear hcz20_6
      try clear hcz20_7
      try clear hcz20_8
      try clear hcz20_9
      try clear hcz5_0
      try clear hcz5_1
      try clear hcz5_2
      try clear hcz5_3
      try clear hcz5_4
      try clear hcz5_5
      try clear hcz5_6
      try clear hcz5_7
      try clear hcz5_8
      try clear hcz5_9
      try clear hcz9_0
      try clear hcz9_1
      try clear hcz9_2
      try clear hcz9_3
      try clear hcz9_4
      try clear hcz9_5
      try clear hcz9_6
      try clear hcz9_7
      try clear hcz9_8
      try clear hcz9_9
      try clear hfz13_0
      try clear hfz13_1
      try clear hfz13_2
      try clear hfz13_3
      try clear hfz13_4
      try clear hfz13_5
      try clear hfz13_6
      try clear hfz13_7
      try clear hfz13_8
      try clear hfz13_9
      try clear hfz15_0
      try clear hfz15_1
      try clear hfz15_2
      try clear hfz15_3
      try clear hfz15_4
      try clear hfz15_5
      try clear hfz15_6
      try clear hfz15_7
      try clear hfz15_8
      try clear hfz15_9
      try clear hfz16_0
      try clear hfz16_1
      try clear hfz16_2
      try clear hfz16_3
      try clear hfz16_4
      try clear hfz16_5
      try clear hfz16_6
      try clear hfz16_7
      try clear hfz16_8
      try clear hfz16_9
      try clear hfz17_0
      try clear hfz17_1
      try clear hfz17_2
      try clear hfz17_3
      try clear hfz17_4
      try clear hfz17_5
      try clear hfz17_6
      try clear hfz17_7
      try clear hfz17_8
      try clear hfz17_9
      try clear hfz18_0
      try clear hfz18_1
      try clear hfz18_2
      try clear hfz18_3
      try clear hfz18_4
      try clear hfz18_5
      try clear hfz18_6
      try clear hfz18_7
      try clear hfz18_8
      try clear hfz18_9
      try clear hfz19_0
      try clear hfz19_1
      try clear hfz19_2
      try clear hfz19_3
      try clear hfz19_4
      try clear hfz19_5
      try clear hfz19_6
      try clear hfz19_7
      try clear hfz19_8
      try clear hfz19_9
      try clear hfz20_0
      try clear hfz20_1
      try clear hfz20_2
      try clear hfz20_3
      try clear hfz20_4
      try clear hfz20_5
      try clear hfz20_6
      try clear hfz20_7
      try clear hfz20_8
      try clear hfz20_9
      try clear hfz5_0
      try clear hfz5_1
      try clear hfz5_2
      try clear hfz5_3
      try clear hfz5_4
      try clear hfz5_5
      try clear hfz5_6
      try clear hfz5_7
      try clear hfz5_8
      try clear hfz5_9
      try clear hfz9_0
      try clear hfz9_1
      try clear hfz9_2
      try clear hfz9_3
      try clear hfz9_4
      try clear hfz9_5
      try clear hfz9_6
      try clear hfz9_7
      try clear hfz9_8
      try clear hfz9_9
      obtain ⟨kq, x50_2, rfl, HA, HJ2, BK179, HB⟩ := hcut
      cases kq with
      | zero => exact absurd HA.out (by simp [marlineref19_Put.j0])
      | succ kj2 =>
        have H := HA.out
        clear HA
        simp only [marlineref19_Put.j0] at H
        by_cases c21 : x50_2 = true
        · subst c21
          have H1 : (some (([] : List Int), 9)) = some (r1, r2) := by rw [if_pos rfl] at H; exact H
          clear H
          have H := H1
          clear H1
          simp only [Option.some.injEq, Prod.mk.injEq] at H
          obtain ⟨rfl, rfl⟩ := H
          go_wp2
          go_ret2
          exact ⟨_, by first | rfl | (simp [errW_none, errW_some] <;> rfl) | (simp [*, errW_none, errW_some] <;> rfl), by first | exact Kd.R_nil _ _ _ _ _ | exact Kd.N_nil _ _ _ _ _ | exact Kd.V_nil _ _ _ _ _ | exact Kd.Q_nil _ _ _ _ _ | exact Kd.S_nil _ _ _ _ _, by repeat (first | (with_reducible first | exact HB.out | apply below_alloc | apply pw_below_drewN | apply below_drew1 | refine below_set ?_ GE179.out) | exact HB.out)⟩
        · replace c21 := Bool.eq_false_iff.mpr c21
          subst c21
          have H1 : (if (l0_9.length : Int) = 12 then (marlineref19_Put.l0 kj2 (([] : List Int)) 0 a0_0 a0_1 a0_2 l0_3 a0_4 a0_5 l0_6 l0_7 l0_8 l0_9) else (some (([] : List Int), 5))) = some (r1, r2) := by rw [if_neg (show ¬ (false = true) by decide)] at H; exact H
          clear H
          have H := H1
          clear H1
          by_cases c22 : (l0_9.length : Int) = 12
          · rw [if_pos c22] at H
            have c22b0 : ((l0_9.length : Int) == 12) = true := beq_iff_eq.mpr c22
            have c22b1 : ((l0_9.length : Int) != 12) = false := bne_eq_false_iff_eq.mpr c22
            clear c22
            obtain ⟨y180, hy180⟩ : ∃ y_ : List Int, y_ = (([] : List Int)) := ⟨_, rfl⟩
            replace H : (marlineref19_Put.l0 kj2 y180 0 a0_0 a0_1 a0_2 l0_3 a0_4 a0_5 l0_6 l0_7 l0_8 l0_9) = some (r1, r2) := by first | (rw [hy180]; with_reducible exact H) | (have H2_ := (Option.bind_some _ _).symm.trans H; rw [hy180]; with_reducible exact H2_) | (have H2_ := (Option.bind_some _ _).symm.trans H; with_reducible exact H2_) | with_reducible exact H | (rw [hy180]; exact H) | exact H
            have Ny180 := Aside0.mk hy180
            clear hy180
            have H' := Aside0.mk H
            clear H
            have hcz23_0 : wc.cell? ⟨gb179, 0, none⟩ = some (.int .u16 a0_0) := (blk_cell BK179.out 0).trans rfl
            have hcz23_1 : wc.cell? ⟨gb179, 1, none⟩ = some (.int .u8 a0_1) := (blk_cell BK179.out 1).trans rfl
            have hcz23_2 : wc.cell? ⟨gb179, 2, none⟩ = some (.int .u8 a0_2) := (blk_cell BK179.out 2).trans rfl
            have hcz23_3 : wc.cell? ⟨gb179, 3, none⟩ = some (.slice A0_3 l0_3.length c0_3) := (blk_cell BK179.out 3).trans rfl
            have hcz23_4 : wc.cell? ⟨gb179, 4, none⟩ = some (.int .u16 a0_4) := (blk_cell BK179.out 4).trans rfl
            have hcz23_5 : wc.cell? ⟨gb179, 5, none⟩ = some (.int .u32 a0_5) := (blk_cell BK179.out 5).trans rfl
            have hcz23_6 : wc.cell? ⟨gb179, 6, none⟩ = some (.slice A0_6 l0_6.length c0_6) := (blk_cell BK179.out 6).trans rfl
            have hcz23_7 : wc.cell? ⟨gb179, 7, none⟩ = some (.slice A0_7 l0_7.length c0_7) := (blk_cell BK179.out 7).trans rfl
            have hcz23_8 : wc.cell? ⟨gb179, 8, none⟩ = some (.slice A0_8 l0_8.length c0_8) := (blk_cell BK179.out 8).trans rfl
            have hcz23_9 : wc.cell? ⟨gb179, 9, none⟩ = some (.slice A0_9 l0_9.length c0_9) := (blk_cell BK179.out 9).trans rfl
            have hfz23_0 := blk_frozen BK179.out 0
            have hfz23_1 := blk_frozen BK179.out 1
            have hfz23_2 := blk_frozen BK179.out 2
            have hfz23_3 := blk_frozen BK179.out 3
            have hfz23_4 := blk_frozen BK179.out 4
            have hfz23_5 := blk_frozen BK179.out 5
            have hfz23_6 := blk_frozen BK179.out 6
            have hfz23_7 := blk_frozen BK179.out 7
            have hfz23_8 := blk_frozen BK179.out 8
            have hfz23_9 := blk_frozen BK179.out 9
            go_wp2_with (first | ((with_reducible refine gate_dst (N := 55) rfl ?_); (try (refine gate_guard (by rfl) ?_; dsimp only)); refine Kd.R_lit (Kd.int .u8) _ 5 ?hg (N := 55) ?hd (xs := ([] : List Int)) (inner := []) (ok := fun _ => True) (okp := fun _ => True) ?hr ?hp (fun _ hk => hk) trivial (Below.refl _ _) (Nat.le_refl _) (by simp) ?_; (case hd => rfl); (case hg => rfl); (case hr => first | (go_simp; done) | (go_simp; rfl)); (case hp => exact (Reps.none _ _)); intro v181 w24 ho25 hb hg_ hnew_; clear hg_ hnew_; (first | rw [← Ny180.out] at ho25 | (simp only [Int.reduceToNat] at ho25; rw [← Ny180.out] at ho25)); have n0_ := Aside0.mk (Kd.R_lower ho25 (below_size (by repeat (first | (with_reducible first | exact HB.out | apply below_alloc | apply pw_below_drewN | apply below_drew1 | refine below_set ?_ GE179.out) | exact HB.out)))); have n1_ := Aside0.mk (blk_below (g := gb179) (o := .cells #[.int .u16 a0_0, .int .u8 a0_1, .int .u8 a0_2, .slice A0_3 l0_3.length c0_3, .int .u16 a0_4, .int .u32 a0_5, .slice A0_6 l0_6.length c0_6, .slice A0_7 l0_7.length c0_7, .slice A0_8 l0_8.length c0_8, .slice A0_9 l0_9.length c0_9] 45 (0, 0)) (by (with_reducible repeat (first | refine blk_drewN ?_ _ | refine blk_drew ?_ | refine blk_alloc ?_ _)); exact BK179.out) hb); have n2_ := Aside0.mk (below_step (by repeat (first | (with_reducible first | exact HB.out | apply below_alloc | apply pw_below_drewN | apply below_drew1 | refine below_set ?_ GE179.out) | exact HB.out)) hb); clear BK179; clear HB; have HO182 := n0_; have BK179 := n1_; have HB := n2_; clear n0_ n1_ n2_; clear hb ho25))
            go_loopg [4, 5] kj2 (fun kq v4 v5 w' => ∃ (x4_2 : List Int) (x5_2 : Int), v5 = .int .i64 x5_2 ∧ Aside0 (marlineref19_Put.l0 kq x4_2 x5_2 a0_0 a0_1 a0_2 l0_3 a0_4 a0_5 l0_6 l0_7 l0_8 l0_9 = some (r1, r2)) ∧ Aside0 (kq ≤ kj2) ∧ Aside0 (Kd.R (Kd.int .u8) 5 w' w.heap.size (fun _ => True) v4 x4_2) ∧ Aside0 (w'.heap[gb179]? = some (.cells #[.int .u16 a0_0, .int .u8 a0_1, .int .u8 a0_2, (.slice A0_3 l0_3.length c0_3), .int .u16 a0_4, .int .u32 a0_5, (.slice A0_6 l0_6.length c0_6), (.slice A0_7 l0_7.length c0_7), (.slice A0_8 l0_8.length c0_8), (.slice A0_9 l0_9.length c0_9)] 45 (0, 0))) ∧ Aside0 (Below w.heap.size w w'))
            case atStart => exact ⟨(y180), (0), (by first | rfl | (simp; done) | (simp [*]; done)), H', ⟨Nat.le_refl _⟩, ⟨by (with_reducible repeat (first | apply Kd.R_alloc | apply Kd.R_drewN | apply Kd.R_drew)); exact HO182.out⟩, ⟨by (with_reducible repeat (first | refine blk_drewN ?_ _ | refine blk_drew ?_ | refine blk_alloc ?_ _)); exact BK179.out⟩, ⟨by repeat (first | (with_reducible first | exact HB.out | apply below_alloc | apply pw_below_drewN | apply below_drew1 | refine below_set ?_ GE179.out) | exact HB.out)⟩⟩
            case round =>
              clear H'
              try clear c1
              try clear c2
              try clear c2b0
              try clear c2b1
              try clear p2
              try clear c6
              try clear c6b0
              try clear c6b1
              try clear c7
              try clear c7b0
              try clear c7b1
              try clear c8
              try clear c8b0
              try clear c8b1
              try clear c10
              try clear c10b0
              try clear c10b1
              try clear c11
              try clear c11b0
              try clear c11b1
              try clear c12
              try clear c12b0
              try clear c12b1
              try clear c14
              try clear c14b0
              try clear c14b1
              try clear c21
              try clear c22
              try clear c22b0
              try clear c22b1
              try clear hcz13_0
              try clear hcz13_1
              try clear hcz13_2
              try clear hcz13_3
              try clear hcz13_4
              try clear hcz13_5
              try clear hcz13_6
              try clear hcz13_7
              try clear hcz13_8
              try clear hcz13_9
              try clear hcz15_0
              try clear hcz15_1
              try clear hcz15_2
              try clear hcz15_3
              try clear hcz15_4
              try clear hcz15_5
              try clear hcz15_6
              try clear hcz15_7
              try clear hcz15_8
              try clear hcz15_9
              try clear hcz16_0
              try clear hcz16_1
              try clear hcz16_2
              try clear hcz16_3
              try clear hcz16_4
              try clear hcz16_5
              try clear hcz16_6
              try clear hcz16_7
              try clear hcz16_8
              try clear hcz16_9
              try clear hcz17_0
              try clear hcz17_1
              try clear hcz17_2
              try clear hcz17_3
              try clear hcz17_4
              try clear hcz17_5
              try clear hcz17_6
              try clear hcz17_7
              try clear hcz17_8
              try clear hcz17_9
              try clear hcz18_0
              try clear hcz18_1
              try clear hcz18_2
              try clear hcz18_3
              try clear hcz18_4
              try clear hcz18_5
              try clear hcz18_6
              try clear hcz18_7
              try clear hcz18_8
              try clear hcz18_9
              try clear hcz19_0
              try clear hcz19_1
              try clear hcz19_2
              try clear hcz19_3
              try clear hcz19_4
              try clear hcz19_5
              try clear hcz19_6
              try clear hcz19_7
              try clear hcz19_8
              try clear hcz19_9
              try clear hcz20_0
              try clear hcz20_1
              try clear hcz20_2
              try clear hcz20_3
              try clear hcz20_4
              try clear hcz20_5
              try clear hcz20_6
              try clear hcz20_7
              try clear hcz20_8
              try clear hcz20_9
              try clear hcz23_0
              try clear hcz23_1
              try clear hcz23_2
              try clear hcz23_3
              try clear hcz23_4
              try clear hcz23_5
              try clear hcz23_6
              try clear hcz23_7
              try clear hcz23_8
              try clear hcz23_9
              try clear hcz5_0
              try clear hcz5_1
              try clear hcz5_2
              try clear hcz5_3
              try clear hcz5_4
              try clear hcz5_5
              try clear hcz5_6
              try clear hcz5_7
              try clear hcz5_8
              try clear hcz5_9
              try clear hcz9_0
              try clear hcz9_1
              try clear hcz9_2
              try clear hcz9_3
              try clear hcz9_4
              try clear hcz9_5
              try clear hcz9_6
              try clear hcz9_7
              try clear hcz9_8
              try clear hcz9_9
              try clear hfz13_0
              try clear hfz13_1
              try clear hfz13_2
              try clear hfz13_3
              try clear hfz13_4
              try clear hfz13_5
              try clear hfz13_6
              try clear hfz13_7
              try clear hfz13_8
              try clear hfz13_9
              try clear hfz15_0
              try clear hfz15_1
              try clear hfz15_2
              try clear hfz15_3
              try clear hfz15_4
              try clear hfz15_5
              try clear hfz15_6
              try clear hfz15_7
              try clear hfz15_8
              try clear hfz15_9
              try clear hfz16_0
              try clear hfz16_1
              try clear hfz16_2
              try clear hfz16_3
              try clear hfz16_4
              try clear hfz16_5
              try clear hfz16_6
              try clear hfz16_7
              try clear hfz16_8
              try clear hfz16_9
              try clear hfz17_0
              try clear hfz17_1
              try clear hfz17_2
              try clear hfz17_3
              try clear hfz17_4
              try clear hfz17_5
              try clear hfz17_6
              try clear hfz17_7
              try clear hfz17_8
              try clear hfz17_9
              try clear hfz18_0
              try clear hfz18_1
              try clear hfz18_2
              try clear hfz18_3
              try clear hfz18_4
              try clear hfz18_5
              try clear hfz18_6
              try clear hfz18_7
              try clear hfz18_8
              try clear hfz18_9
              try clear hfz19_0
              try clear hfz19_1
              try clear hfz19_2
              try clear hfz19_3
              try clear hfz19_4
              try clear hfz19_5
              try clear hfz19_6
              try clear hfz19_7
              try clear hfz19_8
              try clear hfz19_9
              try clear hfz20_0
              try clear hfz20_1
              try clear hfz20_2
              try clear hfz20_3
              try clear hfz20_4
              try clear hfz20_5
              try clear hfz20_6
              try clear hfz20_7
              try clear hfz20_8
              try clear hfz20_9
              try clear hfz23_0
              try clear hfz23_1
              try clear hfz23_2
              try clear hfz23_3
              try clear hfz23_4
              try clear hfz23_5
              try clear hfz23_6
              try clear hfz23_7
              try clear hfz23_8
              try clear hfz23_9
              try clear hfz5_0
              try clear hfz5_1
              try clear hfz5_2
              try clear hfz5_3
              try clear hfz5_4
              try clear hfz5_5
              try clear hfz5_6
              try clear hfz5_7
              try clear hfz5_8
              try clear hfz5_9
              try clear hfz9_0
              try clear hfz9_1
              try clear hfz9_2
              try clear hfz9_3
              try clear hfz9_4
              try clear hfz9_5
              try clear hfz9_6
              try clear hfz9_7
              try clear hfz9_8
              try clear hfz9_9
              try clear p2
              obtain ⟨x4_2, x5_2, rfl, HA, HK2, HO_4, BK179, HB⟩ := hrel
              cases gk with
              | zero => exact absurd HA.out (by simp [marlineref19_Put.l0])
              | succ k2 =>
                have H := HA.out
                clear HA
                simp only [marlineref19_Put.l0] at H
                by_cases c26 : x5_2 < 12
                · rw [if_pos c26] at H
                  have c26b0 : decide (x5_2 < 12) = true := decide_eq_true c26
                  clear c26
                  by_cases c27 : 0 ≤ x5_2
                  · rw [if_pos c27] at H
                    have c27b0 : decide (0 ≤ x5_2) = true := decide_eq_true c27
                    clear c27
                    by_cases c28 : x5_2 < (l0_9.length : Int)
                    · rw [if_pos c28] at H
                      have c28b0 : decide (x5_2 < (l0_9.length : Int)) = true := decide_eq_true c28
                      clear c28
                      replace H := Option.bind_eq_some_iff.mp H
                      obtain ⟨t184, A290, H⟩ := H
                      replace H : (if x4_2.length + t184.length < 140737488355328 then (marlineref19_Put.l0 k2 (x4_2 ++ t184) (wrap64 (x5_2 + 1)) a0_0 a0_1 a0_2 l0_3 a0_4 a0_5 l0_6 l0_7 l0_8 l0_9) else (none)) = some (r1, r2) := H
                      have A29 := Aside0.mk A290
                      clear A290
                      by_cases c30 : x4_2.length + t184.length < 140737488355328
                      · rw [if_pos c30] at H
                        have LMc30 := Aside0.mk c30
                        clear c30
                        obtain ⟨y187, hy187⟩ : ∃ y_ : List Int, y_ = (x4_2 ++ t184) := ⟨_, rfl⟩
                        replace H : (marlineref19_Put.l0 k2 y187 (wrap64 (x5_2 + 1)) a0_0 a0_1 a0_2 l0_3 a0_4 a0_5 l0_6 l0_7 l0_8 l0_9) = some (r1, r2) := by first | (rw [hy187]; with_reducible exact H) | (have H2_ := (Option.bind_some _ _).symm.trans H; rw [hy187]; with_reducible exact H2_) | (have H2_ := (Option.bind_some _ _).symm.trans H; with_reducible exact H2_) | with_reducible exact H | (rw [hy187]; exact H) | exact H
                        have Ny187 := Aside0.mk hy187
                        clear hy187
                        have H' := Aside0.mk H
                        clear H
                        have hcz31_0 : wr.cell? ⟨gb179, 0, none⟩ = some (.int .u16 a0_0) := (blk_cell BK179.out 0).trans rfl
                        have hcz31_1 : wr.cell? ⟨gb179, 1, none⟩ = some (.int .u8 a0_1) := (blk_cell BK179.out 1).trans rfl
                        have hcz31_2 : wr.cell? ⟨gb179, 2, none⟩ = some (.int .u8 a0_2) := (blk_cell BK179.out 2).trans rfl
                        have hcz31_3 : wr.cell? ⟨gb179, 3, none⟩ = some (.slice A0_3 l0_3.length c0_3) := (blk_cell BK179.out 3).trans rfl
                        have hcz31_4 : wr.cell? ⟨gb179, 4, none⟩ = some (.int .u16 a0_4) := (blk_cell BK179.out 4).trans rfl
                        have hcz31_5 : wr.cell? ⟨gb179, 5, none⟩ = some (.int .u32 a0_5) := (blk_cell BK179.out 5).trans rfl
                        have hcz31_6 : wr.cell? ⟨gb179, 6, none⟩ = some (.slice A0_6 l0_6.length c0_6) := (blk_cell BK179.out 6).trans rfl
                        have hcz31_7 : wr.cell? ⟨gb179, 7, none⟩ = some (.slice A0_7 l0_7.length c0_7) := (blk_cell BK179.out 7).trans rfl
                        have hcz31_8 : wr.cell? ⟨gb179, 8, none⟩ = some (.slice A0_8 l0_8.length c0_8) := (blk_cell BK179.out 8).trans rfl
                        have hcz31_9 : wr.cell? ⟨gb179, 9, none⟩ = some (.slice A0_9 l0_9.length c0_9) := (blk_cell BK179.out 9).trans rfl
                        have hfz31_0 := blk_frozen BK179.out 0
                        have hfz31_1 := blk_frozen BK179.out 1
                        have hfz31_2 := blk_frozen BK179.out 2
                        have hfz31_3 := blk_frozen BK179.out 3
                        have hfz31_4 := blk_frozen BK179.out 4
                        have hfz31_5 := blk_frozen BK179.out 5
                        have hfz31_6 := blk_frozen BK179.out 6
                        have hfz31_7 := blk_frozen BK179.out 7
                        have hfz31_8 := blk_frozen BK179.out 8
                        have hfz31_9 := blk_frozen BK179.out 9
                        have p183 : 0 ≤ (x5_2 : Int) := of_decide_eq_true (by first | (with_reducible assumption) | assumption)
                        have q183 : x5_2 < (l0_9.length : Int) := of_decide_eq_true (by first | (with_reducible assumption) | assumption)
                        obtain ⟨ad183, e183, hx183_0⟩ := Kd.at_int HR0_9.out x5_2 p183 q183
                        cases e183
                        replace hx183_0 := (HB.out.cell (World.block_lt_of_cell? w _ hx183_0)).trans hx183_0
                        replace p183 := eq_true p183
                        replace q183 := eq_true q183
                        go_wp2_with (first | ((with_reducible refine gate_callee (f := 37) rfl ?_); refine goesL_ (some 67) rfl rfl Try.func37 (by kernel_rfl) rfl #[.int .i64 (wrap64 (rd l0_9 x5_2)), .int .i64 4] rfl (by (try simp only [List.map_toArray, List.map_cons, List.map_nil]); first | done | rfl | (simp only [List.length_drop, List.length_take]; rfl)) ?_; (with_reducible refine (marlineref15_Number.calls k2 (wrap64 (rd l0_9 x5_2)) 4 t184 _ A29.out).mono ?_); rintro e w32 ⟨v185, rfl, ho0, hb⟩; refine ⟨_, rfl, ?_⟩; have n0_ := Aside0.mk (Kd.R_elder' (by (with_reducible repeat (first | apply Kd.R_alloc | apply Kd.R_drewN | apply Kd.R_drew)); exact HO_4.out) (Kd.R_base ho0) hb); have n1_ := Aside0.mk (Kd.R_lower (Kd.R_new' ho0 (Kd.R_lt (by (with_reducible repeat (first | apply Kd.R_alloc | apply Kd.R_drewN | apply Kd.R_drew)); exact HO_4.out))) (below_size (by repeat (first | (with_reducible first | exact HB.out | apply below_alloc | apply pw_below_drewN | apply below_drew1 | refine below_set ?_ GE179.out) | exact HB.out)))); have n2_ := Aside0.mk (blk_below (g := gb179) (o := .cells #[.int .u16 a0_0, .int .u8 a0_1, .int .u8 a0_2, .slice A0_3 l0_3.length c0_3, .int .u16 a0_4, .int .u32 a0_5, .slice A0_6 l0_6.length c0_6, .slice A0_7 l0_7.length c0_7, .slice A0_8 l0_8.length c0_8, .slice (some ad183) l0_9.length c0_9] 45 (0, 0)) (by (with_reducible repeat (first | refine blk_drewN ?_ _ | refine blk_drew ?_ | refine blk_alloc ?_ _)); exact BK179.out) hb); have n3_ := Aside0.mk (below_step (by repeat (first | (with_reducible first | exact HB.out | apply below_alloc | apply pw_below_drewN | apply below_drew1 | refine below_set ?_ GE179.out) | exact HB.out)) hb); clear HO_4; clear BK179; clear HB; have HO_4 := n0_; have HO186 := n1_; have BK179 := n2_; have HB := n3_; clear n0_ n1_ n2_ n3_; (try clear hb); (try clear hb2); (try clear hk); (try clear hi); (try clear ho0); obtain ⟨Ao34, co34, eo34⟩ := Kd.R_slice HO186.out; subst eo34) | ((with_reducible refine gate_builtin (b := .append) (xs := #[.tmp 60, .tmp 67]) rfl ?_); (try (refine gate_guard (by rfl) ?_; dsimp only)); at_builtin; refine Kd.R_append_rows (Kd.int .u8) (w0 := w) w.heap.size rfl (.tmp 60) (.tmp 67) 24 5 (.int .u8 0) 1 rfl Try.underlying24 info5 rfl (by decide) (by omega) u4 x4_2 t184 _ _ _ (fun k_ => some k_ ≠ (.slice Ao34 t184.length co34 : Value).ownBlock) (fun _ => False) rfl rfl ?aO ?aR (fun _ _ h => h) (fun _ h => h.elim) ?aF ?aB ?aS ?aL ?_; (case aR => repeat (first | exact (Kd.R_reads' HO186.out).2.2 | (with_reducible refine Kd.C_alloc ?_ _) | (with_reducible refine Kd.C_drewN ?_ _) | (with_reducible refine Kd.C_drew ?_))); (case aB => exact (by repeat (first | (with_reducible first | exact HB.out | apply below_alloc | apply pw_below_drewN | apply below_drew1 | refine below_set ?_ GE179.out) | exact HB.out))); (case aF => exact (fun k_ hk => Kd.fresh' (Kd.R_lt (by (with_reducible repeat (first | apply Kd.R_alloc | apply Kd.R_drewN | apply Kd.R_drew)); exact HO186.out)) k_ hk)); (case aO => exact (by (with_reducible repeat (first | apply Kd.R_alloc | apply Kd.R_drewN | apply Kd.R_drew)); exact Kd.R_mono HO_4.out (fun _ hk => hk.2))); (case aS => exact (below_size (by repeat (first | (with_reducible first | exact HB.out | apply below_alloc | apply pw_below_drewN | apply below_drew1 | refine below_set ?_ GE179.out) | exact HB.out)))); (case aL => have := LMc30.out; omega); intro v188 w33 ho hb hg hat; rw [← Ny187.out] at ho; have n0_ := Aside0.mk (blk_grown (g := gb179) (o := .cells #[.int .u16 a0_0, .int .u8 a0_1, .int .u8 a0_2, .slice A0_3 l0_3.length c0_3, .int .u16 a0_4, .int .u32 a0_5, .slice A0_6 l0_6.length c0_6, .slice A0_7 l0_7.length c0_7, .slice A0_8 l0_8.length c0_8, .slice (some ad183) l0_9.length c0_9] 45 (0, 0)) (by (with_reducible repeat (first | refine blk_drewN ?_ _ | refine blk_drew ?_ | refine blk_alloc ?_ _)); exact BK179.out) hg (Kd.R_ne HO_4.out BK179.out (by decide))); have n1_ := Aside0.mk (Kd.R_after (ok := (fun _ => True)) (by (with_reducible repeat (first | apply Kd.R_alloc | apply Kd.R_drewN | apply Kd.R_drew)); exact HO186.out) hg hat); have n2_ := Aside0.mk (hb); have n3_ := Aside0.mk (ho); clear BK179; clear HO186; clear HB; clear HO_4; have BK179 := n0_; have HO186 := n1_; have HB := n2_; have HO189 := n3_; clear n0_ n1_ n2_ n3_; clear ho hb hg hat))
                        go_roundg k2
                        case measure => have := HJ2.out; have := HK2.out; omega
                        case rel => exact ⟨(y187), (wrap64 (x5_2 + 1)), (by first | rfl | (simp; done) | (simp [*]; done)), H', ⟨by have := HJ2.out; have := HK2.out; omega⟩, ⟨by (with_reducible repeat (first | apply Kd.R_alloc | apply Kd.R_drewN | apply Kd.R_drew)); exact Kd.R_mono HO189.out (fun _ hk => trivial)⟩, ⟨by (with_reducible repeat (first | refine blk_drewN ?_ _ | refine blk_drew ?_ | refine blk_alloc ?_ _)); exact BK179.out⟩, ⟨by repeat (first | (with_reducible first | exact HB.out | apply below_alloc | apply pw_below_drewN | apply below_drew1 | refine below_set ?_ GE179.out) | exact HB.out)⟩⟩
                      · rw [if_neg c30] at H
                        exact absurd H (by simp)
                    · rw [if_neg c28] at H
                      exact absurd H (by simp)
                  · rw [if_neg c27] at H
                    exact absurd H (by simp)
                · rw [if_neg c26] at H
                  have c26b0 : decide (x5_2 < 12) = false := decide_eq_false c26
                  clear c26
                  simp only [Option.some.injEq, Prod.mk.injEq] at H
                  obtain ⟨rfl, rfl⟩ := H
                  go_wp2
                  go_ret2
                  exact ⟨_, by first | rfl | (simp [errW_none, errW_some] <;> rfl) | (simp [*, errW_none, errW_some] <;> rfl), by (with_reducible repeat (first | apply Kd.R_alloc | apply Kd.R_drewN | apply Kd.R_drew)); exact HO_4.out, by repeat (first | (with_reducible first | exact HB.out | apply below_alloc | apply pw_below_drewN | apply below_drew1 | refine below_set ?_ GE179.out) | exact HB.out)⟩
          · rw [if_neg c22] at H
            have c22b0 : ((l0_9.length : Int) == 12) = false := beq_eq_false_iff_ne.mpr c22
            have c22b1 : ((l0_9.length : Int) != 12) = true := bne_iff_ne.mpr c22
            simp only [Option.some.injEq, Prod.mk.injEq] at H
            obtain ⟨rfl, rfl⟩ := H
            have hcz35_0 : wc.cell? ⟨gb179, 0, none⟩ = some (.int .u16 a0_0) := (blk_cell BK179.out 0).trans rfl
            have hcz35_1 : wc.cell? ⟨gb179, 1, none⟩ = some (.int .u8 a0_1) := (blk_cell BK179.out 1).trans rfl
            have hcz35_2 : wc.cell? ⟨gb179, 2, none⟩ = some (.int .u8 a0_2) := (blk_cell BK179.out 2).trans rfl
            have hcz35_3 : wc.cell? ⟨gb179, 3, none⟩ = some (.slice A0_3 l0_3.length c0_3) := (blk_cell BK179.out 3).trans rfl
            have hcz35_4 : wc.cell? ⟨gb179, 4, none⟩ = some (.int .u16 a0_4) := (blk_cell BK179.out 4).trans rfl
            have hcz35_5 : wc.cell? ⟨gb179, 5, none⟩ = some (.int .u32 a0_5) := (blk_cell BK179.out 5).trans rfl
            have hcz35_6 : wc.cell? ⟨gb179, 6, none⟩ = some (.slice A0_6 l0_6.length c0_6) := (blk_cell BK179.out 6).trans rfl
            have hcz35_7 : wc.cell? ⟨gb179, 7, none⟩ = some (.slice A0_7 l0_7.length c0_7) := (blk_cell BK179.out 7).trans rfl
            have hcz35_8 : wc.cell? ⟨gb179, 8, none⟩ = some (.slice A0_8 l0_8.length c0_8) := (blk_cell BK179.out 8).trans rfl
            have hcz35_9 : wc.cell? ⟨gb179, 9, none⟩ = some (.slice A0_9 l0_9.length c0_9) := (blk_cell BK179.out 9).trans rfl
            have hfz35_0 := blk_frozen BK179.out 0
            have hfz35_1 := blk_frozen BK179.out 1
            have hfz35_2 := blk_frozen BK179.out 2
            have hfz35_3 := blk_frozen BK179.out 3
            have hfz35_4 := blk_frozen BK179.out 4
            have hfz35_5 := blk_frozen BK179.out 5
            have hfz35_6 := blk_frozen BK179.out 6
            have hfz35_7 := blk_frozen BK179.out 7
            have hfz35_8 := blk_frozen BK179.out 8
            have hfz35_9 := blk_frozen BK179.out 9
            go_wp2
            go_ret2
            exact ⟨_, by first | rfl | (simp [errW_none, errW_some] <;> rfl) | (simp [*, errW_none, errW_some] <;> rfl), by first | exact Kd.R_nil _ _ _ _ _ | exact Kd.N_nil _ _ _ _ _ | exact Kd.V_nil _ _ _ _ _ | exact Kd.Q_nil _ _ _ _ _ | exact Kd.S_nil _ _ _ _ _, by repeat (first | (with_reducible first | exact HB.out | apply below_alloc | apply pw_below_drewN | apply below_drew1 | refine below_set ?_ GE179.out) | exact HB.out)⟩
  · rw [if_neg c2] at H
    have c2b0 : (a0_0 == 49189) = false := beq_eq_false_iff_ne.mpr c2
    have c2b1 : (a0_0 != 49189) = true := bne_iff_ne.mpr c2
    simp only [Option.some.injEq, Prod.mk.injEq] at H
    obtain ⟨rfl, rfl⟩ := H
    go_enter Try.func27, Try.ntmps27
    go_wp2_with (first | ((with_reducible refine gate_dst (N := 1) rfl ?_); (try (refine gate_guard (by rfl) ?_; dsimp only)); refine box_event ?hg (N := 1) ?hd (cs := #[.int .u16 a0_0, .int .u8 a0_1, .int .u8 a0_2, .slice A0_3 l0_3.length c0_3, .int .u16 a0_4, .int .u32 a0_5, .slice A0_6 l0_6.length c0_6, .slice A0_7 l0_7.length c0_7, .slice A0_8 l0_8.length c0_8, .slice A0_9 l0_9.length c0_9]) (t := 45) ?hr ?_; (case hd => rfl); (case hg => rfl); (case hr => first | (go_simp; done) | (go_simp; rfl)); intro gb179 hg w36 hbox hb; have n0_ := Aside0.mk (below_step (by repeat (first | (with_reducible first | exact HB.out | apply below_alloc | apply pw_below_drewN | apply below_drew1) | exact HB.out)) hb); have n1_ := Aside0.mk (hbox); have n2_ := Aside0.mk ((by rw [hg]; exact (below_size (by repeat (first | (with_reducible first | exact HB.out | apply below_alloc | apply pw_below_drewN | apply below_drew1) | exact HB.out))) : w.heap.size ≤ gb179)); have n3_ := Aside0.mk ((by rw [hg]; exact (below_size (by repeat (first | (with_reducible first | exact HB.out | apply below_alloc | apply pw_below_drewN | apply below_drew1) | exact HB.out))) : w.heap.size ≤ gb179)); clear HB; have HB := n0_; have BK179 := n1_; have GW179 := n2_; have GE179 := n3_; clear n0_ n1_ n2_ n3_; clear hb hbox hg; have hcz37_0 : w36.cell? ⟨gb179, 0, none⟩ = some (.int .u16 a0_0) := (blk_cell BK179.out 0).trans rfl; have hcz37_1 : w36.cell? ⟨gb179, 1, none⟩ = some (.int .u8 a0_1) := (blk_cell BK179.out 1).trans rfl; have hcz37_2 : w36.cell? ⟨gb179, 2, none⟩ = some (.int .u8 a0_2) := (blk_cell BK179.out 2).trans rfl; have hcz37_3 : w36.cell? ⟨gb179, 3, none⟩ = some (.slice A0_3 l0_3.length c0_3) := (blk_cell BK179.out 3).trans rfl; have hcz37_4 : w36.cell? ⟨gb179, 4, none⟩ = some (.int .u16 a0_4) := (blk_cell BK179.out 4).trans rfl; have hcz37_5 : w36.cell? ⟨gb179, 5, none⟩ = some (.int .u32 a0_5) := (blk_cell BK179.out 5).trans rfl; have hcz37_6 : w36.cell? ⟨gb179, 6, none⟩ = some (.slice A0_6 l0_6.length c0_6) := (blk_cell BK179.out 6).trans rfl; have hcz37_7 : w36.cell? ⟨gb179, 7, none⟩ = some (.slice A0_7 l0_7.length c0_7) := (blk_cell BK179.out 7).trans rfl; have hcz37_8 : w36.cell? ⟨gb179, 8, none⟩ = some (.slice A0_8 l0_8.length c0_8) := (blk_cell BK179.out 8).trans rfl; have hcz37_9 : w36.cell? ⟨gb179, 9, none⟩ = some (.slice A0_9 l0_9.length c0_9) := (blk_cell BK179.out 9).trans rfl; have hfz37_0 := blk_frozen BK179.out 0; have hfz37_1 := blk_frozen BK179.out 1; have hfz37_2 := blk_frozen BK179.out 2; have hfz37_3 := blk_frozen BK179.out 3; have hfz37_4 := blk_frozen BK179.out 4; have hfz37_5 := blk_frozen BK179.out 5; have hfz37_6 := blk_frozen BK179.out 6; have hfz37_7 := blk_frozen BK179.out 7; have hfz37_8 := blk_frozen BK179.out 8; have hfz37_9 := blk_frozen BK179.out 9))
    go_ret2
    exact ⟨_, by first | rfl | (simp [errW_none, errW_some] <;> rfl) | (simp [*, errW_none, errW_some] <;> rfl), by first | exact Kd.R_nil _ _ _ _ _ | exact Kd.N_nil _ _ _ _ _ | exact Kd.V_nil _ _ _ _ _ | exact Kd.Q_nil _ _ _ _ _ | exact Kd.S_nil _ _ _ _ _, by repeat (first | (with_reducible first | exact HB.out | apply below_alloc | apply pw_below_drewN | apply below_drew1 | refine below_set ?_ GE179.out) | exact HB.out)⟩

end Go.Proofs.Ytelmlkcoeihhjaa.Fl
