import Derived.Test.YtelmlkcoeihhjaaFl0
namespace Go.Proofs.Ytelmlkcoeihhjaa.Fl
open Go.RowKit Go.Proofs.YtelmlkcoeihhjaaW.PrintWords Go.Proofs.YtelmlkcoeihhjaaW.PrintLast Go.Proofs.YtelmlkcoeihhjaaW.PrintMore
attribute [local go_sem] max2_int min2_int max_two min_two max_three min_three max_four min_four   -- for this text's walks alone
set_option linter.unusedVariables false
set_option linter.unusedSimpArgs false

/-! ### marlineref19_Lost: function 29 -/
mutual
def marlineref19_Lost.j0 : Nat → Bool → Int → Int → Int → List (S79) → Int → Int → List Int → List Int → List Int → List Int → Int → Int → Int → List (S79) → Int → Int → List Int → List Int → List Int → List Int → Option (Int × Bool)
  | 0, _, _, _, _, _, _, _, _, _, _, _, _, _, _, _, _, _, _, _, _, _ => none
  | k + 1, x16, x199000, x199001, x199002, x199003, x199004, x199005, x199006, x199007, x199008, x199009, x200000, x200001, x200002, x200003, x200004, x200005, x200006, x200007, x200008, x200009 => if x16 = true then (some (0, false)) else (if 2 < (x200009.length : Int) then (if 2 < (x199009.length : Int) then (if 5 < (x200009.length : Int) then (if 5 < (x199009.length : Int) then (marlineref19_Lost.l0 k (wrap64 ((wrap64 ((wrap64 ((wrap64 (rd x200009 2)) - (wrap64 (rd x199009 2)))) - (wrap64 (rd x200009 5)))) + (wrap64 (rd x199009 5))))) else (none)) else (none)) else (none)) else (none))
def marlineref19_Lost.l0 : Nat → Int → Option (Int × Bool)
  | 0, _ => none
  | k + 1, x6 => if x6 < 0 then (marlineref19_Lost.l0 k (wrap64 (x6 + 4294967296))) else (some (Int.tmod x6 4294967296, true))
end
def marlineref19_Lost.f (k : Nat) (a0_0 : Int) (a0_1 : Int) (a0_2 : Int) (l0_3 : List (S79)) (a0_4 : Int) (a0_5 : Int) (l0_6 : List Int) (l0_7 : List Int) (l0_8 : List Int) (l0_9 : List Int) (a1_0 : Int) (a1_1 : Int) (a1_2 : Int) (l1_3 : List (S79)) (a1_4 : Int) (a1_5 : Int) (l1_6 : List Int) (l1_7 : List Int) (l1_8 : List Int) (l1_9 : List Int) : Option (Int × Bool) := if (l0_9.length : Int) = 12 then (marlineref19_Lost.j0 k ((l1_9.length : Int) != 12) a0_0 a0_1 a0_2 l0_3 a0_4 a0_5 l0_6 l0_7 l0_8 l0_9 a1_0 a1_1 a1_2 l1_3 a1_4 a1_5 l1_6 l1_7 l1_8 l1_9) else (marlineref19_Lost.j0 k true a0_0 a0_1 a0_2 l0_3 a0_4 a0_5 l0_6 l0_7 l0_8 l0_9 a1_0 a1_1 a1_2 l1_3 a1_4 a1_5 l1_6 l1_7 l1_8 l1_9)
theorem marlineref19_Lost.mono_l : ∀ k, (∀ y0 y1 y2 y3 y4 y5 y6 y7 y8 y9 y10 y11 y12 y13 y14 y15 y16 y17 y18 y19 y20, LeO (marlineref19_Lost.j0 k y0 y1 y2 y3 y4 y5 y6 y7 y8 y9 y10 y11 y12 y13 y14 y15 y16 y17 y18 y19 y20) (marlineref19_Lost.j0 (k + 1) y0 y1 y2 y3 y4 y5 y6 y7 y8 y9 y10 y11 y12 y13 y14 y15 y16 y17 y18 y19 y20)) ∧ (∀ y0, LeO (marlineref19_Lost.l0 k y0) (marlineref19_Lost.l0 (k + 1) y0))
  | 0 => ⟨fun _ _ _ _ _ _ _ _ _ _ _ _ _ _ _ _ _ _ _ _ _ r h => by simp [marlineref19_Lost.j0] at h, fun _ r h => by simp [marlineref19_Lost.l0] at h⟩
  | k + 1 => by
    obtain ⟨ih0, ih1⟩ := marlineref19_Lost.mono_l k
    refine ⟨?_, ?_⟩
    · intro y0 y1 y2 y3 y4 y5 y6 y7 y8 y9 y10 y11 y12 y13 y14 y15 y16 y17 y18 y19 y20
      unfold marlineref19_Lost.j0
      repeat' first
      | (with_reducible exact ih0 _ _ _ _ _ _ _ _ _ _ _ _ _ _ _ _ _ _ _ _ _)
      | (with_reducible exact ih1 _)
      | (with_reducible exact LeO.refl _)
      | (with_reducible exact LeO.none _)
      | (with_reducible refine LeO.ite ?_ ?_)
      | (with_reducible refine LeO.bind ?_ (fun _ => ?_))
      | exact ih0 _ _ _ _ _ _ _ _ _ _ _ _ _ _ _ _ _ _ _ _ _
      | exact ih1 _
      | exact LeO.none _
      | refine LeO.ite ?_ ?_
      | refine LeO.bind ?_ (fun _ => ?_)
    · intro y0
      unfold marlineref19_Lost.l0
      repeat' first
      | (with_reducible exact ih0 _ _ _ _ _ _ _ _ _ _ _ _ _ _ _ _ _ _ _ _ _)
      | (with_reducible exact ih1 _)
      | (with_reducible exact LeO.refl _)
      | (with_reducible exact LeO.none _)
      | (with_reducible refine LeO.ite ?_ ?_)
      | (with_reducible refine LeO.bind ?_ (fun _ => ?_))
      | exact ih0 _ _ _ _ _ _ _ _ _ _ _ _ _ _ _ _ _ _ _ _ _
      | exact ih1 _
      | exact LeO.none _
      | refine LeO.ite ?_ ?_
      | refine LeO.bind ?_ (fun _ => ?_)
theorem marlineref19_Lost.mono : ∀ a0 a1 a2 a3 a4 a5 a6 a7 a8 a9 a10 a11 a12 a13 a14 a15 a16 a17 a18 a19 k, LeO (marlineref19_Lost.f k a0 a1 a2 a3 a4 a5 a6 a7 a8 a9 a10 a11 a12 a13 a14 a15 a16 a17 a18 a19) (marlineref19_Lost.f (k + 1) a0 a1 a2 a3 a4 a5 a6 a7 a8 a9 a10 a11 a12 a13 a14 a15 a16 a17 a18 a19) := by
  intro a0 a1 a2 a3 a4 a5 a6 a7 a8 a9 a10 a11 a12 a13 a14 a15 a16 a17 a18 a19 k
  obtain ⟨ih0, ih1⟩ := marlineref19_Lost.mono_l k
  unfold marlineref19_Lost.f
  repeat' first
      | (with_reducible exact ih0 _ _ _ _ _ _ _ _ _ _ _ _ _ _ _ _ _ _ _ _ _)
      | (with_reducible exact ih1 _)
      | (with_reducible exact LeO.refl _)
      | (with_reducible exact LeO.none _)
      | (with_reducible refine LeO.ite ?_ ?_)
      | (with_reducible refine LeO.bind ?_ (fun _ => ?_))
      | exact ih0 _ _ _ _ _ _ _ _ _ _ _ _ _ _ _ _ _ _ _ _ _
      | exact ih1 _
      | exact LeO.none _
      | refine LeO.ite ?_ ?_
      | refine LeO.bind ?_ (fun _ => ?_)
set_option maxHeartbeats 8000000 in
set_option maxRecDepth 100000 in
theorem marlineref19_Lost.calls (k : Nat) (a0_0 : Int) (a0_1 : Int) (a0_2 : Int) (A0_3 : Option Addr) (c0_3 : Nat) (l0_3 : List (S79)) (a0_4 : Int) (a0_5 : Int) (A0_6 : Option Addr) (c0_6 : Nat) (l0_6 : List Int) (A0_7 : Option Addr) (c0_7 : Nat) (l0_7 : List Int) (A0_8 : Option Addr) (c0_8 : Nat) (l0_8 : List Int) (A0_9 : Option Addr) (c0_9 : Nat) (l0_9 : List Int) (a1_0 : Int) (a1_1 : Int) (a1_2 : Int) (A1_3 : Option Addr) (c1_3 : Nat) (l1_3 : List (S79)) (a1_4 : Int) (a1_5 : Int) (A1_6 : Option Addr) (c1_6 : Nat) (l1_6 : List Int) (A1_7 : Option Addr) (c1_7 : Nat) (l1_7 : List Int) (A1_8 : Option Addr) (c1_8 : Nat) (l1_8 : List Int) (A1_9 : Option Addr) (c1_9 : Nat) (l1_9 : List Int) (r1 : Int) (r2 : Bool) (w : World) (hr0_3 : Kd.C k79 w A0_3 l0_3.length l0_3) (hc0_3 : l0_3.length ≤ c0_3) (hr0_6 : Kd.C (Kd.int .u8) w A0_6 l0_6.length l0_6) (hc0_6 : l0_6.length ≤ c0_6) (hr0_7 : Kd.C (Kd.int .u8) w A0_7 l0_7.length l0_7) (hc0_7 : l0_7.length ≤ c0_7) (hr0_8 : Kd.C (Kd.int .u8) w A0_8 l0_8.length l0_8) (hc0_8 : l0_8.length ≤ c0_8) (hr0_9 : Kd.C (Kd.int .u32) w A0_9 l0_9.length l0_9) (hc0_9 : l0_9.length ≤ c0_9) (hr1_3 : Kd.C k79 w A1_3 l1_3.length l1_3) (hc1_3 : l1_3.length ≤ c1_3) (hr1_6 : Kd.C (Kd.int .u8) w A1_6 l1_6.length l1_6) (hc1_6 : l1_6.length ≤ c1_6) (hr1_7 : Kd.C (Kd.int .u8) w A1_7 l1_7.length l1_7) (hc1_7 : l1_7.length ≤ c1_7) (hr1_8 : Kd.C (Kd.int .u8) w A1_8 l1_8.length l1_8) (hc1_8 : l1_8.length ≤ c1_8) (hr1_9 : Kd.C (Kd.int .u32) w A1_9 l1_9.length l1_9) (hc1_9 : l1_9.length ≤ c1_9) (h : marlineref19_Lost.f k a0_0 a0_1 a0_2 l0_3 a0_4 a0_5 l0_6 l0_7 l0_8 l0_9 a1_0 a1_1 a1_2 l1_3 a1_4 a1_5 l1_6 l1_7 l1_8 l1_9 = some (r1, r2)) :
    Calls Try.prog 29 #[.agg #[.int .u16 a0_0, .int .u8 a0_1, .int .u8 a0_2, .slice A0_3 l0_3.length c0_3, .int .u16 a0_4, .int .u32 a0_5, .slice A0_6 l0_6.length c0_6, .slice A0_7 l0_7.length c0_7, .slice A0_8 l0_8.length c0_8, .slice A0_9 l0_9.length c0_9], .agg #[.int .u16 a1_0, .int .u8 a1_1, .int .u8 a1_2, .slice A1_3 l1_3.length c1_3, .int .u16 a1_4, .int .u32 a1_5, .slice A1_6 l1_6.length c1_6, .slice A1_7 l1_7.length c1_7, .slice A1_8 l1_8.length c1_8, .slice A1_9 l1_9.length c1_9]] w fun e w' => e = .returned (.tuple #[.int .i64 r1, .bool r2]) ∧ Below w.heap.size w w' := by
  have hu45 := Try.underlying45
  have HR0_3 := Aside0.mk hr0_3
  have HC0_3 := Aside0.mk hc0_3
  clear hr0_3 hc0_3
  have HR0_6 := Aside0.mk hr0_6
  have HC0_6 := Aside0.mk hc0_6
  clear hr0_6 hc0_6
  have HR0_7 := Aside0.mk hr0_7
  have HC0_7 := Aside0.mk hc0_7
  clear hr0_7 hc0_7
  have HR0_8 := Aside0.mk hr0_8
  have HC0_8 := Aside0.mk hc0_8
  clear hr0_8 hc0_8
  have HR0_9 := Aside0.mk hr0_9
  have HC0_9 := Aside0.mk hc0_9
  clear hr0_9 hc0_9
  have HR1_3 := Aside0.mk hr1_3
  have HC1_3 := Aside0.mk hc1_3
  clear hr1_3 hc1_3
  have HR1_6 := Aside0.mk hr1_6
  have HC1_6 := Aside0.mk hc1_6
  clear hr1_6 hc1_6
  have HR1_7 := Aside0.mk hr1_7
  have HC1_7 := Aside0.mk hc1_7
  clear hr1_7 hc1_7
  have HR1_8 := Aside0.mk hr1_8
  have HC1_8 := Aside0.mk hc1_8
  clear hr1_8 hc1_8
  have HR1_9 := Aside0.mk hr1_9
  have HC1_9 := Aside0.mk hc1_9
  clear hr1_9 hc1_9
  have HB := Aside0.mk (Below.refl w.heap.size w)
  have H : (if (l0_9.length : Int) = 12 then (marlineref19_Lost.j0 k ((l1_9.length : Int) != 12) a0_0 a0_1 a0_2 l0_3 a0_4 a0_5 l0_6 l0_7 l0_8 l0_9 a1_0 a1_1 a1_2 l1_3 a1_4 a1_5 l1_6 l1_7 l1_8 l1_9) else (marlineref19_Lost.j0 k true a0_0 a0_1 a0_2 l0_3 a0_4 a0_5 l0_6 l0_7 l0_8 l0_9 a1_0 a1_1 a1_2 l1_3 a1_4 a1_5 l1_6 l1_7 l1_8 l1_9)) = some (r1, r2) := h
  clear h
  have HC3 := Aside0.mk H
  clear H
  go_enter Try.func29, Try.ntmps29
  go_upto_region 1 with (first | ((with_reducible refine gate_dst (N := 2) rfl ?_); (try (refine gate_guard (by rfl) ?_; dsimp only)); refine box_event ?hg (N := 2) ?hd (cs := #[.int .u16 a0_0, .int .u8 a0_1, .int .u8 a0_2, .slice A0_3 l0_3.length c0_3, .int .u16 a0_4, .int .u32 a0_5, .slice A0_6 l0_6.length c0_6, .slice A0_7 l0_7.length c0_7, .slice A0_8 l0_8.length c0_8, .slice A0_9 l0_9.length c0_9]) (t := 45) ?hr ?_; (case hd => rfl); (case hg => rfl); (case hr => first | (go_simp; done) | (go_simp; rfl)); intro gb198 hg w4 hbox hb; have n0_ := Aside0.mk (below_step (by repeat (first | (with_reducible first | exact HB.out | apply below_alloc | apply pw_below_drewN | apply below_drew1) | exact HB.out)) hb); have n1_ := Aside0.mk (hbox); have n2_ := Aside0.mk ((by rw [hg]; exact (below_size (by repeat (first | (with_reducible first | exact HB.out | apply below_alloc | apply pw_below_drewN | apply below_drew1) | exact HB.out))) : w.heap.size ≤ gb198)); have n3_ := Aside0.mk ((by rw [hg]; exact (below_size (by repeat (first | (with_reducible first | exact HB.out | apply below_alloc | apply pw_below_drewN | apply below_drew1) | exact HB.out))) : w.heap.size ≤ gb198)); clear HB; have HB := n0_; have BK198 := n1_; have GW198 := n2_; have GE198 := n3_; clear n0_ n1_ n2_ n3_; clear hb hbox hg) | ((with_reducible refine gate_dst (N := 3) rfl ?_); (try (refine gate_guard (by rfl) ?_; dsimp only)); refine box_event ?hg (N := 3) ?hd (cs := #[.int .u16 a1_0, .int .u8 a1_1, .int .u8 a1_2, .slice A1_3 l1_3.length c1_3, .int .u16 a1_4, .int .u32 a1_5, .slice A1_6 l1_6.length c1_6, .slice A1_7 l1_7.length c1_7, .slice A1_8 l1_8.length c1_8, .slice A1_9 l1_9.length c1_9]) (t := 45) ?hr ?_; (case hd => rfl); (case hg => rfl); (case hr => first | (go_simp; done) | (go_simp; rfl)); intro gb199 hg w5 hbox hb; have n0_ := Aside0.mk (blk_below (g := gb198) (o := .cells #[.int .u16 a0_0, .int .u8 a0_1, .int .u8 a0_2, .slice A0_3 l0_3.length c0_3, .int .u16 a0_4, .int .u32 a0_5, .slice A0_6 l0_6.length c0_6, .slice A0_7 l0_7.length c0_7, .slice A0_8 l0_8.length c0_8, .slice A0_9 l0_9.length c0_9] 45 (0, 0)) (by (with_reducible repeat (first | refine blk_drewN ?_ _ | refine blk_drew ?_ | refine blk_alloc ?_ _)); exact BK198.out) hb); have n1_ := Aside0.mk (below_step (by repeat (first | (with_reducible first | exact HB.out | apply below_alloc | apply pw_below_drewN | apply below_drew1 | refine below_set ?_ GE198.out) | exact HB.out)) hb); have n2_ := Aside0.mk (hbox); have n3_ := Aside0.mk ((by rw [hg]; exact (below_size (by repeat (first | (with_reducible first | exact HB.out | apply below_alloc | apply pw_below_drewN | apply below_drew1 | refine below_set ?_ GE198.out) | exact HB.out))) : w.heap.size ≤ gb199)); have n4_ := Aside0.mk ((by rw [hg]; exact (below_size (by repeat (first | (with_reducible first | exact HB.out | apply below_alloc | apply pw_below_drewN | apply below_drew1 | refine below_set ?_ GE198.out) | exact HB.out))) : w.heap.size ≤ gb199)); have n5_ := Aside0.mk ((by rw [hg]; exact Nat.ne_of_lt (blk_lt (g := gb198) (o := .cells #[.int .u16 a0_0, .int .u8 a0_1, .int .u8 a0_2, .slice A0_3 l0_3.length c0_3, .int .u16 a0_4, .int .u32 a0_5, .slice A0_6 l0_6.length c0_6, .slice A0_7 l0_7.length c0_7, .slice A0_8 l0_8.length c0_8, .slice A0_9 l0_9.length c0_9] 45 (0, 0)) (by (with_reducible repeat (first | refine blk_drewN ?_ _ | refine blk_drew ?_ | refine blk_alloc ?_ _)); exact BK198.out)) : gb198 ≠ gb199)); have n6_ := Aside0.mk ((by rw [hg]; exact Nat.ne_of_gt (blk_lt (g := gb198) (o := .cells #[.int .u16 a0_0, .int .u8 a0_1, .int .u8 a0_2, .slice A0_3 l0_3.length c0_3, .int .u16 a0_4, .int .u32 a0_5, .slice A0_6 l0_6.length c0_6, .slice A0_7 l0_7.length c0_7, .slice A0_8 l0_8.length c0_8, .slice A0_9 l0_9.length c0_9] 45 (0, 0)) (by (with_reducible repeat (first | refine blk_drewN ?_ _ | refine blk_drew ?_ | refine blk_alloc ?_ _)); exact BK198.out)) : gb199 ≠ gb198)); clear BK198; clear HB; have BK198 := n0_; have HB := n1_; have BK199 := n2_; have GW199 := n3_; have GE199 := n4_; have NB198_199 := n5_; have NB199_198 := n6_; clear n0_ n1_ n2_ n3_ n4_ n5_ n6_; clear hb hbox hg))
  repeat (go_quiet (first | ((with_reducible refine gate_dst (N := 2) rfl ?_); (try (refine gate_guard (by rfl) ?_; dsimp only)); refine box_event ?hg (N := 2) ?hd (cs := #[.int .u16 a0_0, .int .u8 a0_1, .int .u8 a0_2, .slice A0_3 l0_3.length c0_3, .int .u16 a0_4, .int .u32 a0_5, .slice A0_6 l0_6.length c0_6, .slice A0_7 l0_7.length c0_7, .slice A0_8 l0_8.length c0_8, .slice A0_9 l0_9.length c0_9]) (t := 45) ?hr ?_; (case hd => rfl); (case hg => rfl); (case hr => first | (go_simp; done) | (go_simp; rfl)); intro gb198 hg w4 hbox hb; have n0_ := Aside0.mk (below_step (by repeat (first | (with_reducible first | exact HB.out | apply below_alloc | apply pw_below_drewN | apply below_drew1) | exact HB.out)) hb); have n1_ := Aside0.mk (hbox); have n2_ := Aside0.mk ((by rw [hg]; exact (below_size (by repeat (first | (with_reducible first | exact HB.out | apply below_alloc | apply pw_below_drewN | apply below_drew1) | exact HB.out))) : w.heap.size ≤ gb198)); have n3_ := Aside0.mk ((by rw [hg]; exact (below_size (by repeat (first | (with_reducible first | exact HB.out | apply below_alloc | apply pw_below_drewN | apply below_drew1) | exact HB.out))) : w.heap.size ≤ gb198)); clear HB; have HB := n0_; have BK198 := n1_; have GW198 := n2_; have GE198 := n3_; clear n0_ n1_ n2_ n3_; clear hb hbox hg) | ((with_reducible refine gate_dst (N := 3) rfl ?_); (try (refine gate_guard (by rfl) ?_; dsimp only)); refine box_event ?hg (N := 3) ?hd (cs := #[.int .u16 a1_0, .int .u8 a1_1, .int .u8 a1_2, .slice A1_3 l1_3.length c1_3, .int .u16 a1_4, .int .u32 a1_5, .slice A1_6 l1_6.length c1_6, .slice A1_7 l1_7.length c1_7, .slice A1_8 l1_8.length c1_8, .slice A1_9 l1_9.length c1_9]) (t := 45) ?hr ?_; (case hd => rfl); (case hg => rfl); (case hr => first | (go_simp; done) | (go_simp; rfl)); intro gb199 hg w5 hbox hb; have n0_ := Aside0.mk (blk_below (g := gb198) (o := .cells #[.int .u16 a0_0, .int .u8 a0_1, .int .u8 a0_2, .slice A0_3 l0_3.length c0_3, .int .u16 a0_4, .int .u32 a0_5, .slice A0_6 l0_6.length c0_6, .slice A0_7 l0_7.length c0_7, .slice A0_8 l0_8.length c0_8, .slice A0_9 l0_9.length c0_9] 45 (0, 0)) (by (with_reducible repeat (first | refine blk_drewN ?_ _ | refine blk_drew ?_ | refine blk_alloc ?_ _)); exact BK198.out) hb); have n1_ := Aside0.mk (below_step (by repeat (first | (with_reducible first | exact HB.out | apply below_alloc | apply pw_below_drewN | apply below_drew1 | refine below_set ?_ GE198.out) | exact HB.out)) hb); have n2_ := Aside0.mk (hbox); have n3_ := Aside0.mk ((by rw [hg]; exact (below_size (by repeat (first | (with_reducible first | exact HB.out | apply below_alloc | apply pw_below_drewN | apply below_drew1 | refine below_set ?_ GE198.out) | exact HB.out))) : w.heap.size ≤ gb199)); have n4_ := Aside0.mk ((by rw [hg]; exact (below_size (by repeat (first | (with_reducible first | exact HB.out | apply below_alloc | apply pw_below_drewN | apply below_drew1 | refine below_set ?_ GE198.out) | exact HB.out))) : w.heap.size ≤ gb199)); have n5_ := Aside0.mk ((by rw [hg]; exact Nat.ne_of_lt (blk_lt (g := gb198) (o := .cells #[.int .u16 a0_0, .int .u8 a0_1, .int .u8 a0_2, .slice A0_3 l0_3.length c0_3, .int .u16 a0_4, .int .u32 a0_5, .slice A0_6 l0_6.length c0_6, .slice A0_7 l0_7.length c0_7, .slice A0_8 l0_8.length c0_8, .slice A0_9 l0_9.length c0_9] 45 (0, 0)) (by (with_reducible repeat (first | refine blk_drewN ?_ _ | refine blk_drew ?_ | refine blk_alloc ?_ _)); exact BK198.out)) : gb198 ≠ gb199)); have n6_ := Aside0.mk ((by rw [hg]; exact Nat.ne_of_gt (blk_lt (g := gb198) (o := .cells #[.int .u16 a0_0, .int .u8 a0_1, .int .u8 a0_2, .slice A0_3 l0_3.length c0_3, .int .u16 a0_4, .int .u32 a0_5, .slice A0_6 l0_6.length c0_6, .slice A0_7 l0_7.length c0_7, .slice A0_8 l0_8.length c0_8, .slice A0_9 l0_9.length c0_9] 45 (0, 0)) (by (with_reducible repeat (first | refine blk_drewN ?_ _ | refine blk_drew ?_ | refine blk_alloc ?_ _)); exact BK198.out)) : gb199 ≠ gb198)); clear BK198; clear HB; have BK198 := n0_; have HB := n1_; have BK199 := n2_; have GW199 := n3_; have GE199 := n4_; have NB198_199 := n5_; have NB199_198 := n6_; clear n0_ n1_ n2_ n3_ n4_ n5_ n6_; clear hb hbox hg)); go_upto_region 1 with (first | ((with_reducible refine gate_dst (N := 2) rfl ?_); (try (refine gate_guard (by rfl) ?_; dsimp only)); refine box_event ?hg (N := 2) ?hd (cs := #[.int .u16 a0_0, .int .u8 a0_1, .int .u8 a0_2, .slice A0_3 l0_3.length c0_3, .int .u16 a0_4, .int .u32 a0_5, .slice A0_6 l0_6.length c0_6, .slice A0_7 l0_7.length c0_7, .slice A0_8 l0_8.length c0_8, .slice A0_9 l0_9.length c0_9]) (t := 45) ?hr ?_; (case hd => rfl); (case hg => rfl); (case hr => first | (go_simp; done) | (go_simp; rfl)); intro gb198 hg w4 hbox hb; have n0_ := Aside0.mk (below_step (by repeat (first | (with_reducible first | exact HB.out | apply below_alloc | apply pw_below_drewN | apply below_drew1) | exact HB.out)) hb); have n1_ := Aside0.mk (hbox); have n2_ := Aside0.mk ((by rw [hg]; exact (below_size (by repeat (first | (with_reducible first | exact HB.out | apply below_alloc | apply pw_below_drewN | apply below_drew1) | exact HB.out))) : w.heap.size ≤ gb198)); have n3_ := Aside0.mk ((by rw [hg]; exact (below_size (by repeat (first | (with_reducible first | exact HB.out | apply below_alloc | apply pw_below_drewN | apply below_drew1) | exact HB.out))) : w.heap.size ≤ gb198)); clear HB; have HB := n0_; have BK198 := n1_; have GW198 := n2_; have GE198 := n3_; clear n0_ n1_ n2_ n3_; clear hb hbox hg) | ((with_reducible refine gate_dst (N := 3) rfl ?_); (try (refine gate_guard (by rfl) ?_; dsimp only)); refine box_event ?hg (N := 3) ?hd (cs := #[.int .u16 a1_0, .int .u8 a1_1, .int .u8 a1_2, .slice A1_3 l1_3.length c1_3, .int .u16 a1_4, .int .u32 a1_5, .slice A1_6 l1_6.length c1_6, .slice A1_7 l1_7.length c1_7, .slice A1_8 l1_8.length c1_8, .slice A1_9 l1_9.length c1_9]) (t := 45) ?hr ?_; (case hd => rfl); (case hg => rfl); (case hr => first | (go_simp; done) | (go_simp; rfl)); intro gb199 hg w5 hbox hb; have n0_ := Aside0.mk (blk_below (g := gb198) (o := .cells #[.int .u16 a0_0, .int .u8 a0_1, .int .u8 a0_2, .slice A0_3 l0_3.length c0_3, .int .u16 a0_4, .int .u32 a0_5, .slice A0_6 l0_6.length c0_6, .slice A0_7 l0_7.length c0_7, .slice A0_8 l0_8.length c0_8, .slice A0_9 l0_9.length c0_9] 45 (0, 0)) (by (with_reducible repeat (first | refine blk_drewN ?_ _ | refine blk_drew ?_ | refine blk_alloc ?_ _)); exact BK198.out) hb); have n1_ := Aside0.mk (below_step (by repeat (first | (with_reducible first | exact HB.out | apply below_alloc | apply pw_below_drewN | apply below_drew1 | refine below_set ?_ GE198.out) | exact HB.out)) hb); have n2_ := Aside0.mk (hbox); have n3_ := Aside0.mk ((by rw [hg]; exact (below_size (by repeat (first | (with_reducible first | exact HB.out | apply below_alloc | apply pw_below_drewN | apply below_drew1 | refine below_set ?_ GE198.out) | exact HB.out))) : w.heap.size ≤ gb199)); have n4_ := Aside0.mk ((by rw [hg]; exact (below_size (by repeat (first | (with_reducible first | exact HB.out | apply below_alloc | apply pw_below_drewN | apply below_drew1 | refine below_set ?_ GE198.out) | exact HB.out))) : w.heap.size ≤ gb199)); have n5_ := Aside0.mk ((by rw [hg]; exact Nat.ne_of_lt (blk_lt (g := gb198) (o := .cells #[.int .u16 a0_0, .int .u8 a0_1, .int .u8 a0_2, .slice A0_3 l0_3.length c0_3, .int .u16 a0_4, .int .u32 a0_5, .slice A0_6 l0_6.length c0_6, .slice A0_7 l0_7.length c0_7, .slice A0_8 l0_8.length c0_8, .slice A0_9 l0_9.length c0_9] 45 (0, 0)) (by (with_reducible repeat (first | refine blk_drewN ?_ _ | refine blk_drew ?_ | refine blk_alloc ?_ _)); exact BK198.out)) : gb198 ≠ gb199)); have n6_ := Aside0.mk ((by rw [hg]; exact Nat.ne_of_gt (blk_lt (g := gb198) (o := .cells #[.int .u16 a0_0, .int .u8 a0_1, .int .u8 a0_2, .slice A0_3 l0_3.length c0_3, .int .u16 a0_4, .int .u32 a0_5, .slice A0_6 l0_6.length c0_6, .slice A0_7 l0_7.length c0_7, .slice A0_8 l0_8.length c0_8, .slice A0_9 l0_9.length c0_9] 45 (0, 0)) (by (with_reducible repeat (first | refine blk_drewN ?_ _ | refine blk_drew ?_ | refine blk_alloc ?_ _)); exact BK198.out)) : gb199 ≠ gb198)); clear BK198; clear HB; have BK198 := n0_; have HB := n1_; have BK199 := n2_; have GW199 := n3_; have GE199 := n4_; have NB198_199 := n5_; have NB199_198 := n6_; clear n0_ n1_ n2_ n3_ n4_ n5_ n6_; clear hb hbox hg)))
  (try simp only [Act.put, List.setIfInBounds_toArray, List.set_cons_zero, List.set_cons_succ])
  go_cut [16] (fun v16 wc => ∃ (kq : Nat) (x16_2 : Bool), v16 = .bool x16_2 ∧ Aside0 (marlineref19_Lost.j0 kq x16_2 a0_0 a0_1 a0_2 l0_3 a0_4 a0_5 l0_6 l0_7 l0_8 l0_9 a1_0 a1_1 a1_2 l1_3 a1_4 a1_5 l1_6 l1_7 l1_8 l1_9 = some (r1, r2)) ∧ Aside0 (kq ≤ k) ∧ Aside0 (wc.heap[gb198]? = some (.cells #[.int .u16 a0_0, .int .u8 a0_1, .int .u8 a0_2, (.slice A0_3 l0_3.length c0_3), .int .u16 a0_4, .int .u32 a0_5, (.slice A0_6 l0_6.length c0_6), (.slice A0_7 l0_7.length c0_7), (.slice A0_8 l0_8.length c0_8), (.slice A0_9 l0_9.length c0_9)] 45 (0, 0))) ∧ Aside0 (wc.heap[gb199]? = some (.cells #[.int .u16 a1_0, .int .u8 a1_1, .int .u8 a1_2, (.slice A1_3 l1_3.length c1_3), .int .u16 a1_4, .int .u32 a1_5, (.slice A1_6 l1_6.length c1_6), (.slice A1_7 l1_7.length c1_7), (.slice A1_8 l1_8.length c1_8), (.slice A1_9 l1_9.length c1_9)] 45 (0, 0))) ∧ Aside0 (Below w.heap.size w wc))
  case first =>
    have H := HC3.out
    clear HC3
    by_cases c6 : (l0_9.length : Int) = 12
    · rw [if_pos c6] at H
      have c6b0 : ((l0_9.length : Int) == 12) = true := beq_iff_eq.mpr c6
      have c6b1 : ((l0_9.length : Int) != 12) = false := bne_eq_false_iff_eq.mpr c6
      clear c6
      (first | rw [c6b0] | (simp only [i64_w, i32_w]; rw [c6b0]) | skip)
      have H' := Aside0.mk H
      clear H
      have hnb7 := NB198_199.out
      have hnc7 := NB199_198.out
      have hcz8_0 : w5.cell? ⟨gb198, 0, none⟩ = some (.int .u16 a0_0) := (blk_cell BK198.out 0).trans rfl
      have hcz8_1 : w5.cell? ⟨gb198, 1, none⟩ = some (.int .u8 a0_1) := (blk_cell BK198.out 1).trans rfl
      have hcz8_2 : w5.cell? ⟨gb198, 2, none⟩ = some (.int .u8 a0_2) := (blk_cell BK198.out 2).trans rfl
      have hcz8_3 : w5.cell? ⟨gb198, 3, none⟩ = some (.slice A0_3 l0_3.length c0_3) := (blk_cell BK198.out 3).trans rfl
      have hcz8_4 : w5.cell? ⟨gb198, 4, none⟩ = some (.int .u16 a0_4) := (blk_cell BK198.out 4).trans rfl
      have hcz8_5 : w5.cell? ⟨gb198, 5, none⟩ = some (.int .u32 a0_5) := (blk_cell BK198.out 5).trans rfl
      have hcz8_6 : w5.cell? ⟨gb198, 6, none⟩ = some (.slice A0_6 l0_6.length c0_6) := (blk_cell BK198.out 6).trans rfl
      have hcz8_7 : w5.cell? ⟨gb198, 7, none⟩ = some (.slice A0_7 l0_7.length c0_7) := (blk_cell BK198.out 7).trans rfl
      have hcz8_8 : w5.cell? ⟨gb198, 8, none⟩ = some (.slice A0_8 l0_8.length c0_8) := (blk_cell BK198.out 8).trans rfl
      have hcz8_9 : w5.cell? ⟨gb198, 9, none⟩ = some (.slice A0_9 l0_9.length c0_9) := (blk_cell BK198.out 9).trans rfl
      have hfz8_0 := blk_frozen BK198.out 0
      have hfz8_1 := blk_frozen BK198.out 1
      have hfz8_2 := blk_frozen BK198.out 2
      have hfz8_3 := blk_frozen BK198.out 3
      have hfz8_4 := blk_frozen BK198.out 4
      have hfz8_5 := blk_frozen BK198.out 5
      have hfz8_6 := blk_frozen BK198.out 6
      have hfz8_7 := blk_frozen BK198.out 7
      have hfz8_8 := blk_frozen BK198.out 8
      have hfz8_9 := blk_frozen BK198.out 9
      have hcz9_0 : w5.cell? ⟨gb199, 0, none⟩ = some (.int .u16 a1_0) := (blk_cell BK199.out 0).trans rfl
      have hcz9_1 : w5.cell? ⟨gb199, 1, none⟩ = some (.int .u8 a1_1) := (blk_cell BK199.out 1).trans rfl
      have hcz9_2 : w5.cell? ⟨gb199, 2, none⟩ = some (.int .u8 a1_2) := (blk_cell BK199.out 2).trans rfl
      have hcz9_3 : w5.cell? ⟨gb199, 3, none⟩ = some (.slice A1_3 l1_3.length c1_3) := (blk_cell BK199.out 3).trans rfl
      have hcz9_4 : w5.cell? ⟨gb199, 4, none⟩ = some (.int .u16 a1_4) := (blk_cell BK199.out 4).trans rfl
      have hcz9_5 : w5.cell? ⟨gb199, 5, none⟩ = some (.int .u32 a1_5) := (blk_cell BK199.out 5).trans rfl
      have hcz9_6 : w5.cell? ⟨gb199, 6, none⟩ = some (.slice A1_6 l1_6.length c1_6) := (blk_cell BK199.out 6).trans rfl
      have hcz9_7 : w5.cell? ⟨gb199, 7, none⟩ = some (.slice A1_7 l1_7.length c1_7) := (blk_cell BK199.out 7).trans rfl
      have hcz9_8 : w5.cell? ⟨gb199, 8, none⟩ = some (.slice A1_8 l1_8.length c1_8) := (blk_cell BK199.out 8).trans rfl
      have hcz9_9 : w5.cell? ⟨gb199, 9, none⟩ = some (.slice A1_9 l1_9.length c1_9) := (blk_cell BK199.out 9).trans rfl
      have hfz9_0 := blk_frozen BK199.out 0
      have hfz9_1 := blk_frozen BK199.out 1
      have hfz9_2 := blk_frozen BK199.out 2
      have hfz9_3 := blk_frozen BK199.out 3
      have hfz9_4 := blk_frozen BK199.out 4
      have hfz9_5 := blk_frozen BK199.out 5
      have hfz9_6 := blk_frozen BK199.out 6
      have hfz9_7 := blk_frozen BK199.out 7
      have hfz9_8 := blk_frozen BK199.out 8
      have hfz9_9 := blk_frozen BK199.out 9
      go_wp2
      repeat (go_quiet (fail); try go_wp2)
      go_meet
      case rel => exact ⟨_, (((l1_9.length : Int) != 12)), (by first | rfl | (simp; done) | (simp [*]; done)), H', ⟨by first | omega | exact Nat.le_refl _⟩, ⟨by (with_reducible repeat (first | refine blk_drewN ?_ _ | refine blk_drew ?_ | refine blk_alloc ?_ _)); exact BK198.out⟩, ⟨by (with_reducible repeat (first | refine blk_drewN ?_ _ | refine blk_drew ?_ | refine blk_alloc ?_ _)); exact BK199.out⟩, ⟨by repeat (first | (with_reducible first | exact HB.out | apply below_alloc | apply pw_below_drewN | apply below_drew1 | refine below_set ?_ GE198.out | refine below_set ?_ GE199.out) | exact HB.out)⟩⟩
    · rw [if_neg c6] at H
      have c6b0 : ((l0_9.length : Int) == 12) = false := beq_eq_false_iff_ne.mpr c6
      have c6b1 : ((l0_9.length : Int) != 12) = true := bne_iff_ne.mpr c6
      (first | rw [c6b0] | (simp only [i64_w, i32_w]; rw [c6b0]) | skip)
      have H' := Aside0.mk H
      clear H
      have hnb10 := NB198_199.out
      have hnc10 := NB199_198.out
      have hcz11_0 : w5.cell? ⟨gb198, 0, none⟩ = some (.int .u16 a0_0) := (blk_cell BK198.out 0).trans rfl
      have hcz11_1 : w5.cell? ⟨gb198, 1, none⟩ = some (.int .u8 a0_1) := (blk_cell BK198.out 1).trans rfl
      have hcz11_2 : w5.cell? ⟨gb198, 2, none⟩ = some (.int .u8 a0_2) := (blk_cell BK198.out 2).trans rfl
      have hcz11_3 : w5.cell? ⟨gb198, 3, none⟩ = some (.slice A0_3 l0_3.length c0_3) := (blk_cell BK198.out 3).trans rfl
      have hcz11_4 : w5.cell? ⟨gb198, 4, none⟩ = some (.int .u16 a0_4) := (blk_cell BK198.out 4).trans rfl
      have hcz11_5 : w5.cell? ⟨gb198, 5, none⟩ = some (.int .u32 a0_5) := (blk_cell BK198.out 5).trans rfl
      have hcz11_6 : w5.cell? ⟨gb198, 6, none⟩ = some (.slice A0_6 l0_6.length c0_6) := (blk_cell BK198.out 6).trans rfl
      have hcz11_7 : w5.cell? ⟨gb198, 7, none⟩ = some (.slice A0_7 l0_7.length c0_7) := (blk_cell BK198.out 7).trans rfl
      have hcz11_8 : w5.cell? ⟨gb198, 8, none⟩ = some (.slice A0_8 l0_8.length c0_8) := (blk_cell BK198.out 8).trans rfl
      have hcz11_9 : w5.cell? ⟨gb198, 9, none⟩ = some (.slice A0_9 l0_9.length c0_9) := (blk_cell BK198.out 9).trans rfl
      have hfz11_0 := blk_frozen BK198.out 0
      have hfz11_1 := blk_frozen BK198.out 1
      have hfz11_2 := blk_frozen BK198.out 2
      have hfz11_3 := blk_frozen BK198.out 3
      have hfz11_4 := blk_frozen BK198.out 4
      have hfz11_5 := blk_frozen BK198.out 5
      have hfz11_6 := blk_frozen BK198.out 6
      have hfz11_7 := blk_frozen BK198.out 7
      have hfz11_8 := blk_frozen BK198.out 8
      have hfz11_9 := blk_frozen BK198.out 9
      go_wp2
      repeat (go_quiet (fail); try go_wp2)
      go_meet
      case rel => exact ⟨_, (true), (by first | rfl | (simp; done) | (simp [*]; done)), H', ⟨by first | omega | exact Nat.le_refl _⟩, ⟨by (with_reducible repeat (first | refine blk_drewN ?_ _ | refine blk_drew ?_ | refine blk_alloc ?_ _)); exact BK198.out⟩, ⟨by (with_reducible repeat (first | refine blk_drewN ?_ _ | refine blk_drew ?_ | refine blk_alloc ?_ _)); exact BK199.out⟩, ⟨by repeat (first | (with_reducible first | exact HB.out | apply below_alloc | apply pw_below_drewN | apply below_drew1 | refine below_set ?_ GE198.out | refine below_set ?_ GE199.out) | exact HB.out)⟩⟩
  case rest =>
    clear HC3
    try clear c1
    try clear c2
    try clear p2
    try clear c6
    try clear c6b0
    try clear c6b1
    try clear c7
    try clear c10
    try clear hcz11_0
    try clear hcz11_1
    try clear hcz11_2
    try clear hcz11_3
    try clear hcz11_4
    try clear hcz11_5
    try clear hcz11_6
    try clear hcz11_7
    try clear hcz11_8
    try clear hcz11_9
    try clear hcz8_0
    try clear hcz8_1
    try clear hcz8_2
    try clear hcz8_3
    try clear hcz8_4
    try clear hcz8_5
    try clear hcz8_6
    try clear hcz8_7
    try clear hcz8_8
    try clear hcz8_9
    try clear hcz9_0
    try clear hcz9_1
    try clear hcz9_2
    try clear hcz9_3
    try clear hcz9_4
    try clear hcz9_5
    try clear hcz9_6
    try clear hcz9_7
    try clear hcz9_8
    try clear hcz9_9
    try clear hfz11_0
    try clear hfz11_1
    try clear hfz11_2
    try clear hfz11_3
    try clear hfz11_4
    try clear hfz11_5
    try clear hfz11_6
    try clear hfz11_7
    try clear hfz11_8
    try clear hfz11_9
    try clear hfz8_0
    try clear hfz8_1
    try clear hfz8_2
    try clear hfz8_3
    try clear hfz8_4
    try clear hfz8_5
    try clear hfz8_6
    try clear hfz8_7
    try clear hfz8_8
    try clear hfz8_9
    try clear hfz9_0
    try clear hfz9_1
    try clear hfz9_2
    try clear hfz9_3
    try clear hfz9_4
    try clear hfz9_5
    try clear hfz9_6
    try clear hfz9_7
    try clear hfz9_8
    try clear hfz9_9
    obtain ⟨kq, x16_2, rfl, HA, HJ2, BK198, BK199, HB⟩ := hcut
    cases kq with
    | zero => exact absurd HA.out (by simp [marlineref19_Lost.j0])
    | succ kj2 =>
      have H := HA.out
      clear HA
      simp only [marlineref19_Lost.j0] at H
      by_cases c12 : x16_2 = true
      · subst c12
        have H1 : (some (0, false)) = some (r1, r2) := by rw [if_pos rfl] at H; exact H
        clear H
        have H := H1
        clear H1
        simp only [Option.some.injEq, Prod.mk.injEq] at H
        obtain ⟨rfl, rfl⟩ := H
        go_wp2
        repeat (go_quiet (fail); try go_wp2)
        go_ret2
        exact ⟨by first | rfl | (simp [errW_none, errW_some] <;> rfl) | (simp [*, errW_none, errW_some] <;> rfl), by repeat (first | (with_reducible first | exact HB.out | apply below_alloc | apply pw_below_drewN | apply below_drew1 | refine below_set ?_ GE198.out | refine below_set ?_ GE199.out) | exact HB.out)⟩
      · replace c12 := Bool.eq_false_iff.mpr c12
        subst c12
        have H1 : (if 2 < (l1_9.length : Int) then (if 2 < (l0_9.length : Int) then (if 5 < (l1_9.length : Int) then (if 5 < (l0_9.length : Int) then (marlineref19_Lost.l0 kj2 (wrap64 ((wrap64 ((wrap64 ((wrap64 (rd l1_9 2)) - (wrap64 (rd l0_9 2)))) - (wrap64 (rd l1_9 5)))) + (wrap64 (rd l0_9 5))))) else (none)) else (none)) else (none)) else (none)) = some (r1, r2) := by rw [if_neg (show ¬ (false = true) by decide)] at H; exact H
        clear H
        have H := H1
        clear H1
        by_cases c13 : 2 < (l1_9.length : Int)
        · rw [if_pos c13] at H
          have c13b0 : decide (2 < (l1_9.length : Int)) = true := decide_eq_true c13
          have c13b1 : decide (2 < l1_9.length) = true := decide_eq_true (by omega)
          clear c13
          by_cases c14 : 2 < (l0_9.length : Int)
          · rw [if_pos c14] at H
            have c14b0 : decide (2 < (l0_9.length : Int)) = true := decide_eq_true c14
            have c14b1 : decide (2 < l0_9.length) = true := decide_eq_true (by omega)
            clear c14
            by_cases c15 : 5 < (l1_9.length : Int)
            · rw [if_pos c15] at H
              have c15b0 : decide (5 < (l1_9.length : Int)) = true := decide_eq_true c15
              have c15b1 : decide (5 < l1_9.length) = true := decide_eq_true (by omega)
              clear c15
              by_cases c16 : 5 < (l0_9.length : Int)
              · rw [if_pos c16] at H
                have c16b0 : decide (5 < (l0_9.length : Int)) = true := decide_eq_true c16
                have c16b1 : decide (5 < l0_9.length) = true := decide_eq_true (by omega)
                clear c16
                have H' := Aside0.mk H
                clear H
                have hnb17 := NB199_198.out
                have hnc17 := NB198_199.out
                have hcz18_0 : wc.cell? ⟨gb199, 0, none⟩ = some (.int .u16 a1_0) := (blk_cell BK199.out 0).trans rfl
                have hcz18_1 : wc.cell? ⟨gb199, 1, none⟩ = some (.int .u8 a1_1) := (blk_cell BK199.out 1).trans rfl
                have hcz18_2 : wc.cell? ⟨gb199, 2, none⟩ = some (.int .u8 a1_2) := (blk_cell BK199.out 2).trans rfl
                have hcz18_3 : wc.cell? ⟨gb199, 3, none⟩ = some (.slice A1_3 l1_3.length c1_3) := (blk_cell BK199.out 3).trans rfl
                have hcz18_4 : wc.cell? ⟨gb199, 4, none⟩ = some (.int .u16 a1_4) := (blk_cell BK199.out 4).trans rfl
                have hcz18_5 : wc.cell? ⟨gb199, 5, none⟩ = some (.int .u32 a1_5) := (blk_cell BK199.out 5).trans rfl
                have hcz18_6 : wc.cell? ⟨gb199, 6, none⟩ = some (.slice A1_6 l1_6.length c1_6) := (blk_cell BK199.out 6).trans rfl
                have hcz18_7 : wc.cell? ⟨gb199, 7, none⟩ = some (.slice A1_7 l1_7.length c1_7) := (blk_cell BK199.out 7).trans rfl
                have hcz18_8 : wc.cell? ⟨gb199, 8, none⟩ = some (.slice A1_8 l1_8.length c1_8) := (blk_cell BK199.out 8).trans rfl
                have hcz18_9 : wc.cell? ⟨gb199, 9, none⟩ = some (.slice A1_9 l1_9.length c1_9) := (blk_cell BK199.out 9).trans rfl
                have hfz18_0 := blk_frozen BK199.out 0
                have hfz18_1 := blk_frozen BK199.out 1
                have hfz18_2 := blk_frozen BK199.out 2
                have hfz18_3 := blk_frozen BK199.out 3
                have hfz18_4 := blk_frozen BK199.out 4
                have hfz18_5 := blk_frozen BK199.out 5
                have hfz18_6 := blk_frozen BK199.out 6
                have hfz18_7 := blk_frozen BK199.out 7
                have hfz18_8 := blk_frozen BK199.out 8
                have hfz18_9 := blk_frozen BK199.out 9
                have p200 : 0 ≤ (2 : Int) := (by omega)
                have q200 : 2 < (l1_9.length : Int) := of_decide_eq_true (by first | (with_reducible assumption) | assumption)
                obtain ⟨ad200, e200, hx200_0⟩ := Kd.at_int HR1_9.out 2 p200 q200
                cases e200
                (try simp only [show (2 : Int).toNat = 2 from rfl, Nat.reduceMul, Nat.reduceEqDiff, Go.Addr.add, ↓reduceIte] at hx200_0)
                have qi200 : (2 < l1_9.length) = True := eq_true (by omega)
                (try rw [show ((2 : Int)).toNat = 2 from rfl] at hx200_0)
                replace hx200_0 := (HB.out.cell (World.block_lt_of_cell? w _ hx200_0)).trans hx200_0
                replace p200 := eq_true p200
                replace q200 := eq_true q200
                have hcz19_0 : wc.cell? ⟨gb198, 0, none⟩ = some (.int .u16 a0_0) := (blk_cell BK198.out 0).trans rfl
                have hcz19_1 : wc.cell? ⟨gb198, 1, none⟩ = some (.int .u8 a0_1) := (blk_cell BK198.out 1).trans rfl
                have hcz19_2 : wc.cell? ⟨gb198, 2, none⟩ = some (.int .u8 a0_2) := (blk_cell BK198.out 2).trans rfl
                have hcz19_3 : wc.cell? ⟨gb198, 3, none⟩ = some (.slice A0_3 l0_3.length c0_3) := (blk_cell BK198.out 3).trans rfl
                have hcz19_4 : wc.cell? ⟨gb198, 4, none⟩ = some (.int .u16 a0_4) := (blk_cell BK198.out 4).trans rfl
                have hcz19_5 : wc.cell? ⟨gb198, 5, none⟩ = some (.int .u32 a0_5) := (blk_cell BK198.out 5).trans rfl
                have hcz19_6 : wc.cell? ⟨gb198, 6, none⟩ = some (.slice A0_6 l0_6.length c0_6) := (blk_cell BK198.out 6).trans rfl
                have hcz19_7 : wc.cell? ⟨gb198, 7, none⟩ = some (.slice A0_7 l0_7.length c0_7) := (blk_cell BK198.out 7).trans rfl
                have hcz19_8 : wc.cell? ⟨gb198, 8, none⟩ = some (.slice A0_8 l0_8.length c0_8) := (blk_cell BK198.out 8).trans rfl
                have hcz19_9 : wc.cell? ⟨gb198, 9, none⟩ = some (.slice A0_9 l0_9.length c0_9) := (blk_cell BK198.out 9).trans rfl
                have hfz19_0 := blk_frozen BK198.out 0
                have hfz19_1 := blk_frozen BK198.out 1
                have hfz19_2 := blk_frozen BK198.out 2
                have hfz19_3 := blk_frozen BK198.out 3
                have hfz19_4 := blk_frozen BK198.out 4
                have hfz19_5 := blk_frozen BK198.out 5
                have hfz19_6 := blk_frozen BK198.out 6
                have hfz19_7 := blk_frozen BK198.out 7
                have hfz19_8 := blk_frozen BK198.out 8
                have hfz19_9 := blk_frozen BK198.out 9
                have p201 : 0 ≤ (2 : Int) := (by omega)
                have q201 : 2 < (l0_9.length : Int) := of_decide_eq_true (by first | (with_reducible assumption) | assumption)
                obtain ⟨ad201, e201, hx201_0⟩ := Kd.at_int HR0_9.out 2 p201 q201
                cases e201
                (try simp only [show (2 : Int).toNat = 2 from rfl, Nat.reduceMul, Nat.reduceEqDiff, Go.Addr.add, ↓reduceIte] at hx201_0)
                have qi201 : (2 < l0_9.length) = True := eq_true (by omega)
                (try rw [show ((2 : Int)).toNat = 2 from rfl] at hx201_0)
                replace hx201_0 := (HB.out.cell (World.block_lt_of_cell? w _ hx201_0)).trans hx201_0
                replace p201 := eq_true p201
                replace q201 := eq_true q201
                have p202 : 0 ≤ (5 : Int) := (by omega)
                have q202 : 5 < (l1_9.length : Int) := of_decide_eq_true (by first | (with_reducible assumption) | assumption)
                obtain ⟨ad202, e202, hx202_0⟩ := Kd.at_int HR1_9.out 5 p202 q202
                obtain rfl : ad200 = ad202 := (by injection e202)
                (try simp only [show (5 : Int).toNat = 5 from rfl, Nat.reduceMul, Nat.reduceEqDiff, Go.Addr.add, ↓reduceIte] at hx202_0)
                have qi202 : (5 < l1_9.length) = True := eq_true (by omega)
                (try rw [show ((5 : Int)).toNat = 5 from rfl] at hx202_0)
                replace hx202_0 := (HB.out.cell (World.block_lt_of_cell? w _ hx202_0)).trans hx202_0
                replace p202 := eq_true p202
                replace q202 := eq_true q202
                have p203 : 0 ≤ (5 : Int) := (by omega)
                have q203 : 5 < (l0_9.length : Int) := of_decide_eq_true (by first | (with_reducible assumption) | assumption)
                obtain ⟨ad203, e203, hx203_0⟩ := Kd.at_int HR0_9.out 5 p203 q203
                obtain rfl : ad201 = ad203 := (by injection e203)
                (try simp only [show (5 : Int).toNat = 5 from rfl, Nat.reduceMul, Nat.reduceEqDiff, Go.Addr.add, ↓reduceIte] at hx203_0)
                have qi203 : (5 < l0_9.length) = True := eq_true (by omega)
                (try rw [show ((5 : Int)).toNat = 5 from rfl] at hx203_0)
                replace hx203_0 := (HB.out.cell (World.block_lt_of_cell? w _ hx203_0)).trans hx203_0
                replace p203 := eq_true p203
                replace q203 := eq_true q203
                go_wp2
                repeat (go_quiet (fail); try go_wp2)
                go_loopg [6] kj2 (fun kq v6 w' => ∃ (x6_2 : Int), v6 = .int .i64 x6_2 ∧ Aside0 (marlineref19_Lost.l0 kq x6_2 = some (r1, r2)) ∧ Aside0 (kq ≤ kj2) ∧ Aside0 (w'.heap[gb198]? = some (.cells #[.int .u16 a0_0, .int .u8 a0_1, .int .u8 a0_2, (.slice A0_3 l0_3.length c0_3), .int .u16 a0_4, .int .u32 a0_5, (.slice A0_6 l0_6.length c0_6), (.slice A0_7 l0_7.length c0_7), (.slice A0_8 l0_8.length c0_8), (.slice (some ad201) l0_9.length c0_9)] 45 (0, 0))) ∧ Aside0 (w'.heap[gb199]? = some (.cells #[.int .u16 a1_0, .int .u8 a1_1, .int .u8 a1_2, (.slice A1_3 l1_3.length c1_3), .int .u16 a1_4, .int .u32 a1_5, (.slice A1_6 l1_6.length c1_6), (.slice A1_7 l1_7.length c1_7), (.slice A1_8 l1_8.length c1_8), (.slice (some ad200) l1_9.length c1_9)] 45 (0, 0))) ∧ Aside0 (Below w.heap.size w w'))
                case atStart => exact ⟨(wrap64 ((wrap64 ((wrap64 ((wrap64 (rd l1_9 2)) - (wrap64 (rd l0_9 2)))) - (wrap64 (rd l1_9 5)))) + (wrap64 (rd l0_9 5)))), (by first | rfl | (simp; done) | (simp [*]; done)), H', ⟨Nat.le_refl _⟩, ⟨by (with_reducible repeat (first | refine blk_drewN ?_ _ | refine blk_drew ?_ | refine blk_alloc ?_ _)); exact BK198.out⟩, ⟨by (with_reducible repeat (first | refine blk_drewN ?_ _ | refine blk_drew ?_ | refine blk_alloc ?_ _)); exact BK199.out⟩, ⟨by repeat (first | (with_reducible first | exact HB.out | apply below_alloc | apply pw_below_drewN | apply below_drew1 | refine below_set ?_ GE198.out | refine below_set ?_ GE199.out) | exact HB.out)⟩⟩
                case round =>
                  clear H'
                  try clear c1
                  try clear c2
                  try clear p2
                  try clear q2
                  try clear hx2
                  try clear qi2
                  try clear c6
                  try clear c6b0
                  try clear c6b1
                  try clear p6
                  try clear c7
                  try clear c10
                  try clear c12
                  try clear c13
                  try clear c13b0
                  try clear c13b1
                  try clear c14
                  try clear c14b0
                  try clear c14b1
                  try clear c15
                  try clear c15b0
                  try clear c15b1
                  try clear c16
                  try clear c16b0
                  try clear c16b1
                  try clear c17
                  try clear hcz11_0
                  try clear hcz11_1
                  try clear hcz11_2
                  try clear hcz11_3
                  try clear hcz11_4
                  try clear hcz11_5
                  try clear hcz11_6
                  try clear hcz11_7
                  try clear hcz11_8
                  try clear hcz11_9
                  try clear hcz18_0
                  try clear hcz18_1
                  try clear hcz18_2
                  try clear hcz18_3
                  try clear hcz18_4
                  try clear hcz18_5
                  try clear hcz18_6
                  try clear hcz18_7
                  try clear hcz18_8
                  try clear hcz18_9
                  try clear hcz19_0
                  try clear hcz19_1
                  try clear hcz19_2
                  try clear hcz19_3
                  try clear hcz19_4
                  try clear hcz19_5
                  try clear hcz19_6
                  try clear hcz19_7
                  try clear hcz19_8
                  try clear hcz19_9
                  try clear hcz8_0
                  try clear hcz8_1
                  try clear hcz8_2
                  try clear hcz8_3
                  try clear hcz8_4
                  try clear hcz8_5
                  try clear hcz8_6
                  try clear hcz8_7
                  try clear hcz8_8
                  try clear hcz8_9
                  try clear hcz9_0
                  try clear hcz9_1
                  try clear hcz9_2
                  try clear hcz9_3
                  try clear hcz9_4
                  try clear hcz9_5
                  try clear hcz9_6
                  try clear hcz9_7
                  try clear hcz9_8
                  try clear hcz9_9
                  try clear hfz11_0
                  try clear hfz11_1
                  try clear hfz11_2
                  try clear hfz11_3
                  try clear hfz11_4
                  try clear hfz11_5
                  try clear hfz11_6
                  try clear hfz11_7
                  try clear hfz11_8
                  try clear hfz11_9
                  try clear hfz18_0
                  try clear hfz18_1
                  try clear hfz18_2
                  try clear hfz18_3
                  try clear hfz18_4
                  try clear hfz18_5
                  try clear hfz18_6
                  try clear hfz18_7
                  try clear hfz18_8
                  try clear hfz18_9
                  try clear hfz19_0
                  try clear hfz19_1
                  try clear hfz19_2
                  try clear hfz19_3
                  try clear hfz19_4
                  try clear hfz19_5
                  try clear hfz19_6
                  try clear hfz19_7
                  try clear hfz19_8
                  try clear hfz19_9
                  try clear hfz8_0
                  try clear hfz8_1
                  try clear hfz8_2
                  try clear hfz8_3
                  try clear hfz8_4
                  try clear hfz8_5
                  try clear hfz8_6
                  try clear hfz8_7
                  try clear hfz8_8
                  try clear hfz8_9
                  try clear hfz9_0
                  try clear hfz9_1
                  try clear hfz9_2
                  try clear hfz9_3
                  try clear hfz9_4
                  try clear hfz9_5
                  try clear hfz9_6
                  try clear hfz9_7
                  try clear hfz9_8
                  try clear hfz9_9
                  try clear hx200_0
                  try clear hx201_0
                  try clear hx202_0
                  try clear hx203_0
                  try clear p2
                  try clear p200
                  try clear p201
                  try clear p202
                  try clear p203
                  try clear q200
                  try clear q201
                  try clear q202
                  try clear q203
                  obtain ⟨x6_2, rfl, HA, HK2, BK198, BK199, HB⟩ := hrel
                  cases gk with
                  | zero => exact absurd HA.out (by simp [marlineref19_Lost.l0])
                  | succ k2 =>
                    have H := HA.out
                    clear HA
                    simp only [marlineref19_Lost.l0] at H
                    by_cases c20 : x6_2 < 0
                    · rw [if_pos c20] at H
                      have c20b0 : decide (x6_2 < 0) = true := decide_eq_true c20
                      clear c20
                      have H' := Aside0.mk H
                      clear H
                      go_wp2
                      repeat (go_quiet (fail); try go_wp2)
                      go_roundg k2
                      case measure => have := HJ2.out; have := HK2.out; omega
                      case rel => exact ⟨(wrap64 (x6_2 + 4294967296)), (by first | rfl | (simp; done) | (simp [*]; done)), H', ⟨by have := HJ2.out; have := HK2.out; omega⟩, ⟨by (with_reducible repeat (first | refine blk_drewN ?_ _ | refine blk_drew ?_ | refine blk_alloc ?_ _)); exact BK198.out⟩, ⟨by (with_reducible repeat (first | refine blk_drewN ?_ _ | refine blk_drew ?_ | refine blk_alloc ?_ _)); exact BK199.out⟩, ⟨by repeat (first | (with_reducible first | exact HB.out | apply below_alloc | apply pw_below_drewN | apply below_drew1 | refine below_set ?_ GE198.out | refine below_set ?_ GE199.out) | exact HB.out)⟩⟩
                    · rw [if_neg c20] at H
                      have c20b0 : decide (x6_2 < 0) = false := decide_eq_false c20
                      clear c20
                      simp only [Option.some.injEq, Prod.mk.injEq] at H
                      obtain ⟨rfl, rfl⟩ := H
                      go_wp2
                      repeat (go_quiet (fail); try go_wp2)
                      go_ret2
                      exact ⟨by first | rfl | (simp [errW_none, errW_some] <;> rfl) | (simp [*, errW_none, errW_some] <;> rfl), by repeat (first | (with_reducible first | exact HB.out | apply below_alloc | apply pw_below_drewN | apply below_drew1 | refine below_set ?_ GE198.out | refine below_set ?_ GE199.out) | exact HB.out)⟩
              · rw [if_neg c16] at H
                exact absurd H (by simp)
            · rw [if_neg c15] at H
              exact absurd H (by simp)
          · rw [if_neg c14] at H
            exact absurd H (by simp)
        · rw [if_neg c13] at H
          exact absurd H (by simp)

-- NOT PRINTED: function 8 (marlinelaw19_LqrTells)

end Go.Proofs.Ytelmlkcoeihhjaa.Fl
