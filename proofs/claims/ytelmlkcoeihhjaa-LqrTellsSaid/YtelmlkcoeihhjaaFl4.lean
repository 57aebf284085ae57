import Derived.Test.YtelmlkcoeihhjaaFl0
import Derived.Test.YtelmlkcoeihhjaaFl1
import Derived.Test.YtelmlkcoeihhjaaFl3
namespace Go.Proofs.Ytelmlkcoeihhjaa.Fl
open Go.RowKit Go.Proofs.YtelmlkcoeihhjaaW.PrintWords Go.Proofs.YtelmlkcoeihhjaaW.PrintLast Go.Proofs.YtelmlkcoeihhjaaW.PrintMore
attribute [local go_sem] max2_int min2_int max_two min_two max_three min_three max_four min_four   -- for this text's walks alone
set_option linter.unusedVariables false
set_option linter.unusedSimpArgs false

/-! ### marlineref15_Same: function 20 -/
mutual
def marlineref15_Same.j0 : Nat → Bool → Int → Int → Int → List (S79) → Int → Int → List Int → List Int → List Int → List Int → Int → Int → Int → List (S79) → Int → Int → List Int → List Int → List Int → List Int → Option (Bool)
  | 0, _, _, _, _, _, _, _, _, _, _, _, _, _, _, _, _, _, _, _, _, _ => none
  | k + 1, x47, x149000, x149001, x149002, x149003, x149004, x149005, x149006, x149007, x149008, x149009, x150000, x150001, x150002, x150003, x150004, x150005, x150006, x150007, x150008, x150009 => if x47 = true then (some false) else (marlineref15_Same.l0 k 0 x149000 x149001 x149002 x149003 x149004 x149005 x149006 x149007 x149008 x149009 x150000 x150001 x150002 x150003 x150004 x150005 x150006 x150007 x150008 x150009)
def marlineref15_Same.l0 : Nat → Int → Int → Int → Int → List (S79) → Int → Int → List Int → List Int → List Int → List Int → Int → Int → Int → List (S79) → Int → Int → List Int → List Int → List Int → List Int → Option (Bool)
  | 0, _, _, _, _, _, _, _, _, _, _, _, _, _, _, _, _, _, _, _, _, _ => none
  | k + 1, x5, x149000, x149001, x149002, x149003, x149004, x149005, x149006, x149007, x149008, x149009, x150000, x150001, x150002, x150003, x150004, x150005, x150006, x150007, x150008, x150009 => if x5 < (x149009.length : Int) then (if 0 ≤ x5 then (if x5 < (x150009.length : Int) then (if (rd x149009 x5) = (rd x150009 x5) then (marlineref15_Same.l0 k (wrap64 (x5 + 1)) x149000 x149001 x149002 x149003 x149004 x149005 x149006 x149007 x149008 x149009 x150000 x150001 x150002 x150003 x150004 x150005 x150006 x150007 x150008 x150009) else (some false)) else (none)) else (none)) else ((marlineref12_Same.f k x149003 x150003).bind fun t152 => (if t152 = true then ((marlineref01_Equal.f k x149006 x150006).bind fun t153 => (if t153 = true then ((marlineref01_Equal.f k x149007 x150007).bind fun t154 => (if t154 = true then ((marlineref01_Equal.f k x149008 x150008).bind fun t155 => (some t155)) else (some false))) else (some false))) else (some false)))
end
def marlineref15_Same.f (k : Nat) (a0_0 : Int) (a0_1 : Int) (a0_2 : Int) (l0_3 : List (S79)) (a0_4 : Int) (a0_5 : Int) (l0_6 : List Int) (l0_7 : List Int) (l0_8 : List Int) (l0_9 : List Int) (a1_0 : Int) (a1_1 : Int) (a1_2 : Int) (l1_3 : List (S79)) (a1_4 : Int) (a1_5 : Int) (l1_6 : List Int) (l1_7 : List Int) (l1_8 : List Int) (l1_9 : List Int) : Option (Bool) := if a0_0 = a1_0 then (if a0_1 = a1_1 then (if a0_2 = a1_2 then (if a0_4 = a1_4 then (if a0_5 = a1_5 then (marlineref15_Same.j0 k ((l0_9.length : Int) != (l1_9.length : Int)) a0_0 a0_1 a0_2 l0_3 a0_4 a0_5 l0_6 l0_7 l0_8 l0_9 a1_0 a1_1 a1_2 l1_3 a1_4 a1_5 l1_6 l1_7 l1_8 l1_9) else (marlineref15_Same.j0 k true a0_0 a0_1 a0_2 l0_3 a0_4 a0_5 l0_6 l0_7 l0_8 l0_9 a1_0 a1_1 a1_2 l1_3 a1_4 a1_5 l1_6 l1_7 l1_8 l1_9)) else (marlineref15_Same.j0 k true a0_0 a0_1 a0_2 l0_3 a0_4 a0_5 l0_6 l0_7 l0_8 l0_9 a1_0 a1_1 a1_2 l1_3 a1_4 a1_5 l1_6 l1_7 l1_8 l1_9)) else (marlineref15_Same.j0 k true a0_0 a0_1 a0_2 l0_3 a0_4 a0_5 l0_6 l0_7 l0_8 l0_9 a1_0 a1_1 a1_2 l1_3 a1_4 a1_5 l1_6 l1_7 l1_8 l1_9)) else (marlineref15_Same.j0 k true a0_0 a0_1 a0_2 l0_3 a0_4 a0_5 l0_6 l0_7 l0_8 l0_9 a1_0 a1_1 a1_2 l1_3 a1_4 a1_5 l1_6 l1_7 l1_8 l1_9)) else (marlineref15_Same.j0 k true a0_0 a0_1 a0_2 l0_3 a0_4 a0_5 l0_6 l0_7 l0_8 l0_9 a1_0 a1_1 a1_2 l1_3 a1_4 a1_5 l1_6 l1_7 l1_8 l1_9)
theorem marlineref15_Same.mono_l : ∀ k, (∀ y0 y1 y2 y3 y4 y5 y6 y7 y8 y9 y10 y11 y12 y13 y14 y15 y16 y17 y18 y19 y20, LeO (marlineref15_Same.j0 k y0 y1 y2 y3 y4 y5 y6 y7 y8 y9 y10 y11 y12 y13 y14 y15 y16 y17 y18 y19 y20) (marlineref15_Same.j0 (k + 1) y0 y1 y2 y3 y4 y5 y6 y7 y8 y9 y10 y11 y12 y13 y14 y15 y16 y17 y18 y19 y20)) ∧ (∀ y0 y1 y2 y3 y4 y5 y6 y7 y8 y9 y10 y11 y12 y13 y14 y15 y16 y17 y18 y19 y20, LeO (marlineref15_Same.l0 k y0 y1 y2 y3 y4 y5 y6 y7 y8 y9 y10 y11 y12 y13 y14 y15 y16 y17 y18 y19 y20) (marlineref15_Same.l0 (k + 1) y0 y1 y2 y3 y4 y5 y6 y7 y8 y9 y10 y11 y12 y13 y14 y15 y16 y17 y18 y19 y20))
  | 0 => ⟨fun _ _ _ _ _ _ _ _ _ _ _ _ _ _ _ _ _ _ _ _ _ r h => by simp [marlineref15_Same.j0] at h, fun _ _ _ _ _ _ _ _ _ _ _ _ _ _ _ _ _ _ _ _ _ r h => by simp [marlineref15_Same.l0] at h⟩
  | k + 1 => by
    obtain ⟨ih0, ih1⟩ := marlineref15_Same.mono_l k
    refine ⟨?_, ?_⟩
    · intro y0 y1 y2 y3 y4 y5 y6 y7 y8 y9 y10 y11 y12 y13 y14 y15 y16 y17 y18 y19 y20
      unfold marlineref15_Same.j0
      repeat' first
      | (with_reducible exact ih0 _ _ _ _ _ _ _ _ _ _ _ _ _ _ _ _ _ _ _ _ _)
      | (with_reducible exact ih1 _ _ _ _ _ _ _ _ _ _ _ _ _ _ _ _ _ _ _ _ _)
      | (with_reducible exact marlineref01_Equal.mono _ _ _)
      | (with_reducible exact marlineref12_Same.mono _ _ _)
      | (with_reducible exact LeO.refl _)
      | (with_reducible exact LeO.none _)
      | (with_reducible refine LeO.ite ?_ ?_)
      | (with_reducible refine LeO.bind ?_ (fun _ => ?_))
      | exact ih0 _ _ _ _ _ _ _ _ _ _ _ _ _ _ _ _ _ _ _ _ _
      | exact ih1 _ _ _ _ _ _ _ _ _ _ _ _ _ _ _ _ _ _ _ _ _
      | exact marlineref01_Equal.mono _ _ _
      | exact marlineref12_Same.mono _ _ _
      | exact LeO.none _
      | refine LeO.ite ?_ ?_
      | refine LeO.bind ?_ (fun _ => ?_)
    · intro y0 y1 y2 y3 y4 y5 y6 y7 y8 y9 y10 y11 y12 y13 y14 y15 y16 y17 y18 y19 y20
      unfold marlineref15_Same.l0
      repeat' first
      | (with_reducible exact ih0 _ _ _ _ _ _ _ _ _ _ _ _ _ _ _ _ _ _ _ _ _)
      | (with_reducible exact ih1 _ _ _ _ _ _ _ _ _ _ _ _ _ _ _ _ _ _ _ _ _)
      | (with_reducible exact marlineref01_Equal.mono _ _ _)
      | (with_reducible exact marlineref12_Same.mono _ _ _)
      | (with_reducible exact LeO.refl _)
      | (with_reducible exact LeO.none _)
      | (with_reducible refine LeO.ite ?_ ?_)
      | (with_reducible refine LeO.bind ?_ (fun _ => ?_))
      | exact ih0 _ _ _ _ _ _ _ _ _ _ _ _ _ _ _ _ _ _ _ _ _
      | exact ih1 _ _ _ _ _ _ _ _ _ _ _ _ _ _ _ _ _ _ _ _ _
      | exact marlineref01_Equal.mono _ _ _
      | exact marlineref12_Same.mono _ _ _
      | exact LeO.none _
      | refine LeO.ite ?_ ?_
      | refine LeO.bind ?_ (fun _ => ?_)
theorem marlineref15_Same.mono : ∀ a0 a1 a2 a3 a4 a5 a6 a7 a8 a9 a10 a11 a12 a13 a14 a15 a16 a17 a18 a19 k, LeO (marlineref15_Same.f k a0 a1 a2 a3 a4 a5 a6 a7 a8 a9 a10 a11 a12 a13 a14 a15 a16 a17 a18 a19) (marlineref15_Same.f (k + 1) a0 a1 a2 a3 a4 a5 a6 a7 a8 a9 a10 a11 a12 a13 a14 a15 a16 a17 a18 a19) := by
  intro a0 a1 a2 a3 a4 a5 a6 a7 a8 a9 a10 a11 a12 a13 a14 a15 a16 a17 a18 a19 k
  obtain ⟨ih0, ih1⟩ := marlineref15_Same.mono_l k
  unfold marlineref15_Same.f
  repeat' first
      | (with_reducible exact ih0 _ _ _ _ _ _ _ _ _ _ _ _ _ _ _ _ _ _ _ _ _)
      | (with_reducible exact ih1 _ _ _ _ _ _ _ _ _ _ _ _ _ _ _ _ _ _ _ _ _)
      | (with_reducible exact marlineref01_Equal.mono _ _ _)
      | (with_reducible exact marlineref12_Same.mono _ _ _)
      | (with_reducible exact LeO.refl _)
      | (with_reducible exact LeO.none _)
      | (with_reducible refine LeO.ite ?_ ?_)
      | (with_reducible refine LeO.bind ?_ (fun _ => ?_))
      | exact ih0 _ _ _ _ _ _ _ _ _ _ _ _ _ _ _ _ _ _ _ _ _
      | exact ih1 _ _ _ _ _ _ _ _ _ _ _ _ _ _ _ _ _ _ _ _ _
      | exact marlineref01_Equal.mono _ _ _
      | exact marlineref12_Same.mono _ _ _
      | exact LeO.none _
      | refine LeO.ite ?_ ?_
      | refine LeO.bind ?_ (fun _ => ?_)
set_option maxHeartbeats 8000000 in
set_option maxRecDepth 100000 in
theorem marlineref15_Same.calls (k : Nat) (a0_0 : Int) (a0_1 : Int) (a0_2 : Int) (A0_3 : Option Addr) (c0_3 : Nat) (l0_3 : List (S79)) (a0_4 : Int) (a0_5 : Int) (A0_6 : Option Addr) (c0_6 : Nat) (l0_6 : List Int) (A0_7 : Option Addr) (c0_7 : Nat) (l0_7 : List Int) (A0_8 : Option Addr) (c0_8 : Nat) (l0_8 : List Int) (A0_9 : Option Addr) (c0_9 : Nat) (l0_9 : List Int) (a1_0 : Int) (a1_1 : Int) (a1_2 : Int) (A1_3 : Option Addr) (c1_3 : Nat) (l1_3 : List (S79)) (a1_4 : Int) (a1_5 : Int) (A1_6 : Option Addr) (c1_6 : Nat) (l1_6 : List Int) (A1_7 : Option Addr) (c1_7 : Nat) (l1_7 : List Int) (A1_8 : Option Addr) (c1_8 : Nat) (l1_8 : List Int) (A1_9 : Option Addr) (c1_9 : Nat) (l1_9 : List Int) (r : Bool) (w : World) (hr0_3 : Kd.C k79 w A0_3 l0_3.length l0_3) (hc0_3 : l0_3.length ≤ c0_3) (hr0_6 : Kd.C (Kd.int .u8) w A0_6 l0_6.length l0_6) (hc0_6 : l0_6.length ≤ c0_6) (hr0_7 : Kd.C (Kd.int .u8) w A0_7 l0_7.length l0_7) (hc0_7 : l0_7.length ≤ c0_7) (hr0_8 : Kd.C (Kd.int .u8) w A0_8 l0_8.length l0_8) (hc0_8 : l0_8.length ≤ c0_8) (hr0_9 : Kd.C (Kd.int .u32) w A0_9 l0_9.length l0_9) (hc0_9 : l0_9.length ≤ c0_9) (hr1_3 : Kd.C k79 w A1_3 l1_3.length l1_3) (hc1_3 : l1_3.length ≤ c1_3) (hr1_6 : Kd.C (Kd.int .u8) w A1_6 l1_6.length l1_6) (hc1_6 : l1_6.length ≤ c1_6) (hr1_7 : Kd.C (Kd.int .u8) w A1_7 l1_7.length l1_7) (hc1_7 : l1_7.length ≤ c1_7) (hr1_8 : Kd.C (Kd.int .u8) w A1_8 l1_8.length l1_8) (hc1_8 : l1_8.length ≤ c1_8) (hr1_9 : Kd.C (Kd.int .u32) w A1_9 l1_9.length l1_9) (hc1_9 : l1_9.length ≤ c1_9) (h : marlineref15_Same.f k a0_0 a0_1 a0_2 l0_3 a0_4 a0_5 l0_6 l0_7 l0_8 l0_9 a1_0 a1_1 a1_2 l1_3 a1_4 a1_5 l1_6 l1_7 l1_8 l1_9 = some r) :
    Calls Try.prog 20 #[.agg #[.int .u16 a0_0, .int .u8 a0_1, .int .u8 a0_2, .slice A0_3 l0_3.length c0_3, .int .u16 a0_4, .int .u32 a0_5, .slice A0_6 l0_6.length c0_6, .slice A0_7 l0_7.length c0_7, .slice A0_8 l0_8.length c0_8, .slice A0_9 l0_9.length c0_9], .agg #[.int .u16 a1_0, .int .u8 a1_1, .int .u8 a1_2, .slice A1_3 l1_3.length c1_3, .int .u16 a1_4, .int .u32 a1_5, .slice A1_6 l1_6.length c1_6, .slice A1_7 l1_7.length c1_7, .slice A1_8 l1_8.length c1_8, .slice A1_9 l1_9.length c1_9]] w fun e w' => e = .returned (.bool r) ∧ Below w.heap.size w w' := by
  have hu45 := Try.underlying45
  have HR0_3 := Aside0.mk hr0_3
  have HC0_3 := Aside0.mk hc0_3
  clear hr0_3 hc0_3
  have HR0_6 := Aside0.mk hr0_6
  have HC0_6 := Aside0.mk hc0_6
  clear hr0_6 hc0_6
  have HR0_7 := Aside0.mk hr0_7
  have HC0_7 := Aside0.mk hc0_7
  clear hr0_7 hc0_7
  have HR0_8 := Aside0.mk hr0_8
  have HC0_8 := Aside0.mk hc0_8
  clear hr0_8 hc0_8
  have HR0_9 := Aside0.mk hr0_9
  have HC0_9 := Aside0.mk hc0_9
  clear hr0_9 hc0_9
  have HR1_3 := Aside0.mk hr1_3
  have HC1_3 := Aside0.mk hc1_3
  clear hr1_3 hc1_3
  have HR1_6 := Aside0.mk hr1_6
  have HC1_6 := Aside0.mk hc1_6
  clear hr1_6 hc1_6
  have HR1_7 := Aside0.mk hr1_7
  have HC1_7 := Aside0.mk hc1_7
  clear hr1_7 hc1_7
  have HR1_8 := Aside0.mk hr1_8
  have HC1_8 := Aside0.mk hc1_8
  clear hr1_8 hc1_8
  have HR1_9 := Aside0.mk hr1_9
  have HC1_9 := Aside0.mk hc1_9
  clear hr1_9 hc1_9
  have HB := Aside0.mk (Below.refl w.heap.size w)
  have H : (if a0_0 = a1_0 then (if a0_1 = a1_1 then (if a0_2 = a1_2 then (if a0_4 = a1_4 then (if a0_5 = a1_5 then (marlineref15_Same.j0 k ((l0_9.length : Int) != (l1_9.length : Int)) a0_0 a0_1 a0_2 l0_3 a0_4 a0_5 l0_6 l0_7 l0_8 l0_9 a1_0 a1_1 a1_2 l1_3 a1_4 a1_5 l1_6 l1_7 l1_8 l1_9) else (marlineref15_Same.j0 k true a0_0 a0_1 a0_2 l0_3 a0_4 a0_5 l0_6 l0_7 l0_8 l0_9 a1_0 a1_1 a1_2 l1_3 a1_4 a1_5 l1_6 l1_7 l1_8 l1_9)) else (marlineref15_Same.j0 k true a0_0 a0_1 a0_2 l0_3 a0_4 a0_5 l0_6 l0_7 l0_8 l0_9 a1_0 a1_1 a1_2 l1_3 a1_4 a1_5 l1_6 l1_7 l1_8 l1_9)) else (marlineref15_Same.j0 k true a0_0 a0_1 a0_2 l0_3 a0_4 a0_5 l0_6 l0_7 l0_8 l0_9 a1_0 a1_1 a1_2 l1_3 a1_4 a1_5 l1_6 l1_7 l1_8 l1_9)) else (marlineref15_Same.j0 k true a0_0 a0_1 a0_2 l0_3 a0_4 a0_5 l0_6 l0_7 l0_8 l0_9 a1_0 a1_1 a1_2 l1_3 a1_4 a1_5 l1_6 l1_7 l1_8 l1_9)) else (marlineref15_Same.j0 k true a0_0 a0_1 a0_2 l0_3 a0_4 a0_5 l0_6 l0_7 l0_8 l0_9 a1_0 a1_1 a1_2 l1_3 a1_4 a1_5 l1_6 l1_7 l1_8 l1_9)) = some r := h
  clear h
  have HC3 := Aside0.mk H
  clear H
  go_enter Try.func20, Try.ntmps20
  go_upto_region 1 with (first | ((with_reducible refine gate_dst (N := 2) rfl ?_); (try (refine gate_guard (by rfl) ?_; dsimp only)); refine box_event ?hg (N := 2) ?hd (cs := #[.int .u16 a0_0, .int .u8 a0_1, .int .u8 a0_2, .slice A0_3 l0_3.length c0_3, .int .u16 a0_4, .int .u32 a0_5, .slice A0_6 l0_6.length c0_6, .slice A0_7 l0_7.length c0_7, .slice A0_8 l0_8.length c0_8, .slice A0_9 l0_9.length c0_9]) (t := 45) ?hr ?_; (case hd => rfl); (case hg => rfl); (case hr => first | (go_simp; done) | (go_simp; rfl)); intro gb148 hg w4 hbox hb; have n0_ := Aside0.mk (below_step (by repeat (first | (with_reducible first | exact HB.out | apply below_alloc | apply pw_below_drewN | apply below_drew1) | exact HB.out)) hb); have n1_ := Aside0.mk (hbox); have n2_ := Aside0.mk ((by rw [hg]; exact (below_size (by repeat (first | (with_reducible first | exact HB.out | apply below_alloc | apply pw_below_drewN | apply below_drew1) | exact HB.out))) : w.heap.size ≤ gb148)); have n3_ := Aside0.mk ((by rw [hg]; exact (below_size (by repeat (first | (with_reducible first | exact HB.out | apply below_alloc | apply pw_below_drewN | apply below_drew1) | exact HB.out))) : w.heap.size ≤ gb148)); clear HB; have HB := n0_; have BK148 := n1_; have GW148 := n2_; have GE148 := n3_; clear n0_ n1_ n2_ n3_; clear hb hbox hg) | ((with_reducible refine gate_dst (N := 3) rfl ?_); (try (refine gate_guard (by rfl) ?_; dsimp only)); refine box_event ?hg (N := 3) ?hd (cs := #[.int .u16 a1_0, .int .u8 a1_1, .int .u8 a1_2, .slice A1_3 l1_3.length c1_3, .int .u16 a1_4, .int .u32 a1_5, .slice A1_6 l1_6.length c1_6, .slice A1_7 l1_7.length c1_7, .slice A1_8 l1_8.length c1_8, .slice A1_9 l1_9.length c1_9]) (t := 45) ?hr ?_; (case hd => rfl); (case hg => rfl); (case hr => first | (go_simp; done) | (go_simp; rfl)); intro gb149 hg w5 hbox hb; have n0_ := Aside0.mk (blk_below (g := gb148) (o := .cells #[.int .u16 a0_0, .int .u8 a0_1, .int .u8 a0_2, .slice A0_3 l0_3.length c0_3, .int .u16 a0_4, .int .u32 a0_5, .slice A0_6 l0_6.length c0_6, .slice A0_7 l0_7.length c0_7, .slice A0_8 l0_8.length c0_8, .slice A0_9 l0_9.length c0_9] 45 (0, 0)) (by (with_reducible repeat (first | refine blk_drewN ?_ _ | refine blk_drew ?_ | refine blk_alloc ?_ _)); exact BK148.out) hb); have n1_ := Aside0.mk (below_step (by repeat (first | (with_reducible first | exact HB.out | apply below_alloc | apply pw_below_drewN | apply below_drew1 | refine below_set ?_ GE148.out) | exact HB.out)) hb); have n2_ := Aside0.mk (hbox); have n3_ := Aside0.mk ((by rw [hg]; exact (below_size (by repeat (first | (with_reducible first | exact HB.out | apply below_alloc | apply pw_below_drewN | apply below_drew1 | refine below_set ?_ GE148.out) | exact HB.out))) : w.heap.size ≤ gb149)); have n4_ := Aside0.mk ((by rw [hg]; exact (below_size (by repeat (first | (with_reducible first | exact HB.out | apply below_alloc | apply pw_below_drewN | apply below_drew1 | refine below_set ?_ GE148.out) | exact HB.out))) : w.heap.size ≤ gb149)); have n5_ := Aside0.mk ((by rw [hg]; exact Nat.ne_of_lt (blk_lt (g := gb148) (o := .cells #[.int .u16 a0_0, .int .u8 a0_1, .int .u8 a0_2, .slice A0_3 l0_3.length c0_3, .int .u16 a0_4, .int .u32 a0_5, .slice A0_6 l0_6.length c0_6, .slice A0_7 l0_7.length c0_7, .slice A0_8 l0_8.length c0_8, .slice A0_9 l0_9.length c0_9] 45 (0, 0)) (by (with_reducible repeat (first | refine blk_drewN ?_ _ | refine blk_drew ?_ | refine blk_alloc ?_ _)); exact BK148.out)) : gb148 ≠ gb149)); have n6_ := Aside0.mk ((by rw [hg]; exact Nat.ne_of_gt (blk_lt (g := gb148) (o := .cells #[.int .u16 a0_0, .int .u8 a0_1, .int .u8 a0_2, .slice A0_3 l0_3.length c0_3, .int .u16 a0_4, .int .u32 a0_5, .slice A0_6 l0_6.length c0_6, .slice A0_7 l0_7.length c0_7, .slice A0_8 l0_8.length c0_8, .slice A0_9 l0_9.length c0_9] 45 (0, 0)) (by (with_reducible repeat (first | refine blk_drewN ?_ _ | refine blk_drew ?_ | refine blk_alloc ?_ _)); exact BK148.out)) : gb149 ≠ gb148)); clear BK148; clear HB; have BK148 := n0_; have HB := n1_; have BK149 := n2_; have GW149 := n3_; have GE149 := n4_; have NB148_149 := n5_; have NB149_148 := n6_; clear n0_ n1_ n2_ n3_ n4_ n5_ n6_; clear hb hbox hg))
  repeat (go_quiet (first | ((with_reducible refine gate_dst (N := 2) rfl ?_); (try (refine gate_guard (by rfl) ?_; dsimp only)); refine box_event ?hg (N := 2) ?hd (cs := #[.int .u16 a0_0, .int .u8 a0_1, .int .u8 a0_2, .slice A0_3 l0_3.length c0_3, .int .u16 a0_4, .int .u32 a0_5, .slice A0_6 l0_6.length c0_6, .slice A0_7 l0_7.length c0_7, .slice A0_8 l0_8.length c0_8, .slice A0_9 l0_9.length c0_9]) (t := 45) ?hr ?_; (case hd => rfl); (case hg => rfl); (case hr => first | (go_simp; done) | (go_simp; rfl)); intro gb148 hg w4 hbox hb; have n0_ := Aside0.mk (below_step (by repeat (first | (with_reducible first | exact HB.out | apply below_alloc | apply pw_below_drewN | apply below_drew1) | exact HB.out)) hb); have n1_ := Aside0.mk (hbox); have n2_ := Aside0.mk ((by rw [hg]; exact (below_size (by repeat (first | (with_reducible first | exact HB.out | apply below_alloc | apply pw_below_drewN | apply below_drew1) | exact HB.out))) : w.heap.size ≤ gb148)); have n3_ := Aside0.mk ((by rw [hg]; exact (below_size (by repeat (first | (with_reducible first | exact HB.out | apply below_alloc | apply pw_below_drewN | apply below_drew1) | exact HB.out))) : w.heap.size ≤ gb148)); clear HB; have HB := n0_; have BK148 := n1_; have GW148 := n2_; have GE148 := n3_; clear n0_ n1_ n2_ n3_; clear hb hbox hg) | ((with_reducible refine gate_dst (N := 3) rfl ?_); (try (refine gate_guard (by rfl) ?_; dsimp only)); refine box_event ?hg (N := 3) ?hd (cs := #[.int .u16 a1_0, .int .u8 a1_1, .int .u8 a1_2, .slice A1_3 l1_3.length c1_3, .int .u16 a1_4, .int .u32 a1_5, .slice A1_6 l1_6.length c1_6, .slice A1_7 l1_7.length c1_7, .slice A1_8 l1_8.length c1_8, .slice A1_9 l1_9.length c1_9]) (t := 45) ?hr ?_; (case hd => rfl); (case hg => rfl); (case hr => first | (go_simp; done) | (go_simp; rfl)); intro gb149 hg w5 hbox hb; have n0_ := Aside0.mk (blk_below (g := gb148) (o := .cells #[.int .u16 a0_0, .int .u8 a0_1, .int .u8 a0_2, .slice A0_3 l0_3.length c0_3, .int .u16 a0_4, .int .u32 a0_5, .slice A0_6 l0_6.length c0_6, .slice A0_7 l0_7.length c0_7, .slice A0_8 l0_8.length c0_8, .slice A0_9 l0_9.length c0_9] 45 (0, 0)) (by (with_reducible repeat (first | refine blk_drewN ?_ _ | refine blk_drew ?_ | refine blk_alloc ?_ _)); exact BK148.out) hb); have n1_ := Aside0.mk (below_step (by repeat (first | (with_reducible first | exact HB.out | apply below_alloc | apply pw_below_drewN | apply below_drew1 | refine below_set ?_ GE148.out) | exact HB.out)) hb); have n2_ := Aside0.mk (hbox); have n3_ := Aside0.mk ((by rw [hg]; exact (below_size (by repeat (first | (with_reducible first | exact HB.out | apply below_alloc | apply pw_below_drewN | apply below_drew1 | refine below_set ?_ GE148.out) | exact HB.out))) : w.heap.size ≤ gb149)); have n4_ := Aside0.mk ((by rw [hg]; exact (below_size (by repeat (first | (with_reducible first | exact HB.out | apply below_alloc | apply pw_below_drewN | apply below_drew1 | refine below_set ?_ GE148.out) | exact HB.out))) : w.heap.size ≤ gb149)); have n5_ := Aside0.mk ((by rw [hg]; exact Nat.ne_of_lt (blk_lt (g := gb148) (o := .cells #[.int .u16 a0_0, .int .u8 a0_1, .int .u8 a0_2, .slice A0_3 l0_3.length c0_3, .int .u16 a0_4, .int .u32 a0_5, .slice A0_6 l0_6.length c0_6, .slice A0_7 l0_7.length c0_7, .slice A0_8 l0_8.length c0_8, .slice A0_9 l0_9.length c0_9] 45 (0, 0)) (by (with_reducible repeat (first | refine blk_drewN ?_ _ | refine blk_drew ?_ | refine blk_alloc ?_ _)); exact BK148.out)) : gb148 ≠ gb149)); have n6_ := Aside0.mk ((by rw [hg]; exact Nat.ne_of_gt (blk_lt (g := gb148) (o := .cells #[.int .u16 a0_0, .int .u8 a0_1, .int .u8 a0_2, .slice A0_3 l0_3.length c0_3, .int .u16 a0_4, .int .u32 a0_5, .slice A0_6 l0_6.length c0_6, .slice A0_7 l0_7.length c0_7, .slice A0_8 l0_8.length c0_8, .slice A0_9 l0_9.length c0_9] 45 (0, 0)) (by (with_reducible repeat (first | refine blk_drewN ?_ _ | refine blk_drew ?_ | refine blk_alloc ?_ _)); exact BK148.out)) : gb149 ≠ gb148)); clear BK148; clear HB; have BK148 := n0_; have HB := n1_; have BK149 := n2_; have GW149 := n3_; have GE149 := n4_; have NB148_149 := n5_; have NB149_148 := n6_; clear n0_ n1_ n2_ n3_ n4_ n5_ n6_; clear hb hbox hg)); go_upto_region 1 with (first | ((with_reducible refine gate_dst (N := 2) rfl ?_); (try (refine gate_guard (by rfl) ?_; dsimp only)); refine box_event ?hg (N := 2) ?hd (cs := #[.int .u16 a0_0, .int .u8 a0_1, .int .u8 a0_2, .slice A0_3 l0_3.length c0_3, .int .u16 a0_4, .int .u32 a0_5, .slice A0_6 l0_6.length c0_6, .slice A0_7 l0_7.length c0_7, .slice A0_8 l0_8.length c0_8, .slice A0_9 l0_9.length c0_9]) (t := 45) ?hr ?_; (case hd => rfl); (case hg => rfl); (case hr => first | (go_simp; done) | (go_simp; rfl)); intro gb148 hg w4 hbox hb; have n0_ := Aside0.mk (below_step (by repeat (first | (with_reducible first | exact HB.out | apply below_alloc | apply pw_below_drewN | apply below_drew1) | exact HB.out)) hb); have n1_ := Aside0.mk (hbox); have n2_ := Aside0.mk ((by rw [hg]; exact (below_size (by repeat (first | (with_reducible first | exact HB.out | apply below_alloc | apply pw_below_drewN | apply below_drew1) | exact HB.out))) : w.heap.size ≤ gb148)); have n3_ := Aside0.mk ((by rw [hg]; exact (below_size (by repeat (first | (with_reducible first | exact HB.out | apply below_alloc | apply pw_below_drewN | apply below_drew1) | exact HB.out))) : w.heap.size ≤ gb148)); clear HB; have HB := n0_; have BK148 := n1_; have GW148 := n2_; have GE148 := n3_; clear n0_ n1_ n2_ n3_; clear hb hbox hg) | ((with_reducible refine gate_dst (N := 3) rfl ?_); (try (refine gate_guard (by rfl) ?_; dsimp only)); refine box_event ?hg (N := 3) ?hd (cs := #[.int .u16 a1_0, .int .u8 a1_1, .int .u8 a1_2, .slice A1_3 l1_3.length c1_3, .int .u16 a1_4, .int .u32 a1_5, .slice A1_6 l1_6.length c1_6, .slice A1_7 l1_7.length c1_7, .slice A1_8 l1_8.length c1_8, .slice A1_9 l1_9.length c1_9]) (t := 45) ?hr ?_; (case hd => rfl); (case hg => rfl); (case hr => first | (go_simp; done) | (go_simp; rfl)); intro gb149 hg w5 hbox hb; have n0_ := Aside0.mk (blk_below (g := gb148) (o := .cells #[.int .u16 a0_0, .int .u8 a0_1, .int .u8 a0_2, .slice A0_3 l0_3.length c0_3, .int .u16 a0_4, .int .u32 a0_5, .slice A0_6 l0_6.length c0_6, .slice A0_7 l0_7.length c0_7, .slice A0_8 l0_8.length c0_8, .slice A0_9 l0_9.length c0_9] 45 (0, 0)) (by (with_reducible repeat (first | refine blk_drewN ?_ _ | refine blk_drew ?_ | refine blk_alloc ?_ _)); exact BK148.out) hb); have n1_ := Aside0.mk (below_step (by repeat (first | (with_reducible first | exact HB.out | apply below_alloc | apply pw_below_drewN | apply below_drew1 | refine below_set ?_ GE148.out) | exact HB.out)) hb); have n2_ := Aside0.mk (hbox); have n3_ := Aside0.mk ((by rw [hg]; exact (below_size (by repeat (first | (with_reducible first | exact HB.out | apply below_alloc | apply pw_below_drewN | apply below_drew1 | refine below_set ?_ GE148.out) | exact HB.out))) : w.heap.size ≤ gb149)); have n4_ := Aside0.mk ((by rw [hg]; exact (below_size (by repeat (first | (with_reducible first | exact HB.out | apply below_alloc | apply pw_below_drewN | apply below_drew1 | refine below_set ?_ GE148.out) | exact HB.out))) : w.heap.size ≤ gb149)); have n5_ := Aside0.mk ((by rw [hg]; exact Nat.ne_of_lt (blk_lt (g := gb148) (o := .cells #[.int .u16 a0_0, .int .u8 a0_1, .int .u8 a0_2, .slice A0_3 l0_3.length c0_3, .int .u16 a0_4, .int .u32 a0_5, .slice A0_6 l0_6.length c0_6, .slice A0_7 l0_7.length c0_7, .slice A0_8 l0_8.length c0_8, .slice A0_9 l0_9.length c0_9] 45 (0, 0)) (by (with_reducible repeat (first | refine blk_drewN ?_ _ | refine blk_drew ?_ | refine blk_alloc ?_ _)); exact BK148.out)) : gb148 ≠ gb149)); have n6_ := Aside0.mk ((by rw [hg]; exact Nat.ne_of_gt (blk_lt (g := gb148) (o := .cells #[.int .u16 a0_0, .int .u8 a0_1, .int .u8 a0_2, .slice A0_3 l0_3.length c0_3, .int .u16 a0_4, .int .u32 a0_5, .slice A0_6 l0_6.length c0_6, .slice A0_7 l0_7.length c0_7, .slice A0_8 l0_8.length c0_8, .slice A0_9 l0_9.length c0_9] 45 (0, 0)) (by (with_reducible repeat (first | refine blk_drewN ?_ _ | refine blk_drew ?_ | refine blk_alloc ?_ _)); exact BK148.out)) : gb149 ≠ gb148)); clear BK148; clear HB; have BK148 := n0_; have HB := n1_; have BK149 := n2_; have GW149 := n3_; have GE149 := n4_; have NB148_149 := n5_; have NB149_148 := n6_; clear n0_ n1_ n2_ n3_ n4_ n5_ n6_; clear hb hbox hg)))
  (try simp only [Act.put, List.setIfInBounds_toArray, List.set_cons_zero, List.set_cons_succ])
  go_cut [47] (fun v47 wc => ∃ (kq : Nat) (x47_2 : Bool), v47 = .bool x47_2 ∧ Aside0 (marlineref15_Same.j0 kq x47_2 a0_0 a0_1 a0_2 l0_3 a0_4 a0_5 l0_6 l0_7 l0_8 l0_9 a1_0 a1_1 a1_2 l1_3 a1_4 a1_5 l1_6 l1_7 l1_8 l1_9 = some r) ∧ Aside0 (kq ≤ k) ∧ Aside0 (wc.heap[gb148]? = some (.cells #[.int .u16 a0_0, .int .u8 a0_1, .int .u8 a0_2, (.slice A0_3 l0_3.length c0_3), .int .u16 a0_4, .int .u32 a0_5, (.slice A0_6 l0_6.length c0_6), (.slice A0_7 l0_7.length c0_7), (.slice A0_8 l0_8.length c0_8), (.slice A0_9 l0_9.length c0_9)] 45 (0, 0))) ∧ Aside0 (wc.heap[gb149]? = some (.cells #[.int .u16 a1_0, .int .u8 a1_1, .int .u8 a1_2, (.slice A1_3 l1_3.length c1_3), .int .u16 a1_4, .int .u32 a1_5, (.slice A1_6 l1_6.length c1_6), (.slice A1_7 l1_7.length c1_7), (.slice A1_8 l1_8.length c1_8), (.slice A1_9 l1_9.length c1_9)] 45 (0, 0))) ∧ Aside0 (Below w.heap.size w wc))
  case first =>
    have H := HC3.out
    clear HC3
    by_cases c6 : a0_0 = a1_0
    · rw [if_pos c6] at H
      have c6b0 : (a0_0 == a1_0) = true := beq_iff_eq.mpr c6
      have c6b1 : (a0_0 != a1_0) = false := bne_eq_false_iff_eq.mpr c6
      clear c6
      (first | rw [c6b0] | (simp only [i64_w, i32_w]; rw [c6b0]) | skip)
      by_cases c7 : a0_1 = a1_1
      · rw [if_pos c7] at H
        have c7b0 : (a0_1 == a1_1) = true := beq_iff_eq.mpr c7
        have c7b1 : (a0_1 != a1_1) = false := bne_eq_false_iff_eq.mpr c7
        clear c7
        by_cases c8 : a0_2 = a1_2
        · rw [if_pos c8] at H
          have c8b0 : (a0_2 == a1_2) = true := beq_iff_eq.mpr c8
          have c8b1 : (a0_2 != a1_2) = false := bne_eq_false_iff_eq.mpr c8
          clear c8
          by_cases c9 : a0_4 = a1_4
          · rw [if_pos c9] at H
            have c9b0 : (a0_4 == a1_4) = true := beq_iff_eq.mpr c9
            have c9b1 : (a0_4 != a1_4) = false := bne_eq_false_iff_eq.mpr c9
            clear c9
            by_cases c10 : a0_5 = a1_5
            · rw [if_pos c10] at H
              have c10b0 : (a0_5 == a1_5) = true := beq_iff_eq.mpr c10
              have c10b1 : (a0_5 != a1_5) = false := bne_eq_false_iff_eq.mpr c10
              clear c10
              have H' := Aside0.mk H
              clear H
              have hnb11 := NB148_149.out
              have hnc11 := NB149_148.out
              have hcz12_0 : w5.cell? ⟨gb148, 0, none⟩ = some (.int .u16 a0_0) := (blk_cell BK148.out 0).trans rfl
              have hcz12_1 : w5.cell? ⟨gb148, 1, none⟩ = some (.int .u8 a0_1) := (blk_cell BK148.out 1).trans rfl
              have hcz12_2 : w5.cell? ⟨gb148, 2, none⟩ = some (.int .u8 a0_2) := (blk_cell BK148.out 2).trans rfl
              have hcz12_3 : w5.cell? ⟨gb148, 3, none⟩ = some (.slice A0_3 l0_3.length c0_3) := (blk_cell BK148.out 3).trans rfl
              have hcz12_4 : w5.cell? ⟨gb148, 4, none⟩ = some (.int .u16 a0_4) := (blk_cell BK148.out 4).trans rfl
              have hcz12_5 : w5.cell? ⟨gb148, 5, none⟩ = some (.int .u32 a0_5) := (blk_cell BK148.out 5).trans rfl
              have hcz12_6 : w5.cell? ⟨gb148, 6, none⟩ = some (.slice A0_6 l0_6.length c0_6) := (blk_cell BK148.out 6).trans rfl
              have hcz12_7 : w5.cell? ⟨gb148, 7, none⟩ = some (.slice A0_7 l0_7.length c0_7) := (blk_cell BK148.out 7).trans rfl
              have hcz12_8 : w5.cell? ⟨gb148, 8, none⟩ = some (.slice A0_8 l0_8.length c0_8) := (blk_cell BK148.out 8).trans rfl
              have hcz12_9 : w5.cell? ⟨gb148, 9, none⟩ = some (.slice A0_9 l0_9.length c0_9) := (blk_cell BK148.out 9).trans rfl
              have hfz12_0 := blk_frozen BK148.out 0
              have hfz12_1 := blk_frozen BK148.out 1
              have hfz12_2 := blk_frozen BK148.out 2
              have hfz12_3 := blk_frozen BK148.out 3
              have hfz12_4 := blk_frozen BK148.out 4
              have hfz12_5 := blk_frozen BK148.out 5
              have hfz12_6 := blk_frozen BK148.out 6
              have hfz12_7 := blk_frozen BK148.out 7
              have hfz12_8 := blk_frozen BK148.out 8
              have hfz12_9 := blk_frozen BK148.out 9
              have hcz13_0 : w5.cell? ⟨gb149, 0, none⟩ = some (.int .u16 a1_0) := (blk_cell BK149.out 0).trans rfl
              have hcz13_1 : w5.cell? ⟨gb149, 1, none⟩ = some (.int .u8 a1_1) := (blk_cell BK149.out 1).trans rfl
              have hcz13_2 : w5.cell? ⟨gb149, 2, none⟩ = some (.int .u8 a1_2) := (blk_cell BK149.out 2).trans rfl
              have hcz13_3 : w5.cell? ⟨gb149, 3, none⟩ = some (.slice A1_3 l1_3.length c1_3) := (blk_cell BK149.out 3).trans rfl
              have hcz13_4 : w5.cell? ⟨gb149, 4, none⟩ = some (.int .u16 a1_4) := (blk_cell BK149.out 4).trans rfl
              have hcz13_5 : w5.cell? ⟨gb149, 5, none⟩ = some (.int .u32 a1_5) := (blk_cell BK149.out 5).trans rfl
              have hcz13_6 : w5.cell? ⟨gb149, 6, none⟩ = some (.slice A1_6 l1_6.length c1_6) := (blk_cell BK149.out 6).trans rfl
              have hcz13_7 : w5.cell? ⟨gb149, 7, none⟩ = some (.slice A1_7 l1_7.length c1_7) := (blk_cell BK149.out 7).trans rfl
              have hcz13_8 : w5.cell? ⟨gb149, 8, none⟩ = some (.slice A1_8 l1_8.length c1_8) := (blk_cell BK149.out 8).trans rfl
              have hcz13_9 : w5.cell? ⟨gb149, 9, none⟩ = some (.slice A1_9 l1_9.length c1_9) := (blk_cell BK149.out 9).trans rfl
              have hfz13_0 := blk_frozen BK149.out 0
              have hfz13_1 := blk_frozen BK149.out 1
              have hfz13_2 := blk_frozen BK149.out 2
              have hfz13_3 := blk_frozen BK149.out 3
              have hfz13_4 := blk_frozen BK149.out 4
              have hfz13_5 := blk_frozen BK149.out 5
              have hfz13_6 := blk_frozen BK149.out 6
              have hfz13_7 := blk_frozen BK149.out 7
              have hfz13_8 := blk_frozen BK149.out 8
              have hfz13_9 := blk_frozen BK149.out 9
              go_wp2
              repeat (go_quiet (fail); try go_wp2)
              go_meet
              case rel => exact ⟨_, (((l0_9.length : Int) != (l1_9.length : Int))), (by first | rfl | (simp; done) | (simp [*]; done)), H', ⟨by first | omega | exact Nat.le_refl _⟩, ⟨by (with_reducible repeat (first | refine blk_drewN ?_ _ | refine blk_drew ?_ | refine blk_alloc ?_ _)); exact BK148.out⟩, ⟨by (with_reducible repeat (first | refine blk_drewN ?_ _ | refine blk_drew ?_ | refine blk_alloc ?_ _)); exact BK149.out⟩, ⟨by repeat (first | (with_reducible first | exact HB.out | apply below_alloc | apply pw_below_drewN | apply below_drew1 | refine below_set ?_ GE148.out | refine below_set ?_ GE149.out) | exact HB.out)⟩⟩
            · rw [if_neg c10] at H
              have c10b0 : (a0_5 == a1_5) = false := beq_eq_false_iff_ne.mpr c10
              have c10b1 : (a0_5 != a1_5) = true := bne_iff_ne.mpr c10
              have H' := Aside0.mk H
              clear H
              have hnb14 := NB148_149.out
              have hnc14 := NB149_148.out
              have hcz15_0 : w5.cell? ⟨gb148, 0, none⟩ = some (.int .u16 a0_0) := (blk_cell BK148.out 0).trans rfl
              have hcz15_1 : w5.cell? ⟨gb148, 1, none⟩ = some (.int .u8 a0_1) := (blk_cell BK148.out 1).trans rfl
              have hcz15_2 : w5.cell? ⟨gb148, 2, none⟩ = some (.int .u8 a0_2) := (blk_cell BK148.out 2).trans rfl
              have hcz15_3 : w5.cell? ⟨gb148, 3, none⟩ = some (.slice A0_3 l0_3.length c0_3) := (blk_cell BK148.out 3).trans rfl
              have hcz15_4 : w5.cell? ⟨gb148, 4, none⟩ = some (.int .u16 a0_4) := (blk_cell BK148.out 4).trans rfl
              have hcz15_5 : w5.cell? ⟨gb148, 5, none⟩ = some (.int .u32 a0_5) := (blk_cell BK148.out 5).trans rfl
              have hcz15_6 : w5.cell? ⟨gb148, 6, none⟩ = some (.slice A0_6 l0_6.length c0_6) := (blk_cell BK148.out 6).trans rfl
              have hcz15_7 : w5.cell? ⟨gb148, 7, none⟩ = some (.slice A0_7 l0_7.length c0_7) := (blk_cell BK148.out 7).trans rfl
              have hcz15_8 : w5.cell? ⟨gb148, 8, none⟩ = some (.slice A0_8 l0_8.length c0_8) := (blk_cell BK148.out 8).trans rfl
              have hcz15_9 : w5.cell? ⟨gb148, 9, none⟩ = some (.slice A0_9 l0_9.length c0_9) := (blk_cell BK148.out 9).trans rfl
              have hfz15_0 := blk_frozen BK148.out 0
              have hfz15_1 := blk_frozen BK148.out 1
              have hfz15_2 := blk_frozen BK148.out 2
              have hfz15_3 := blk_frozen BK148.out 3
              have hfz15_4 := blk_frozen BK148.out 4
              have hfz15_5 := blk_frozen BK148.out 5
              have hfz15_6 := blk_frozen BK148.out 6
              have hfz15_7 := blk_frozen BK148.out 7
              have hfz15_8 := blk_frozen BK148.out 8
              have hfz15_9 := blk_frozen BK148.out 9
              have hcz16_0 : w5.cell? ⟨gb149, 0, none⟩ = some (.int .u16 a1_0) := (blk_cell BK149.out 0).trans rfl
              have hcz16_1 : w5.cell? ⟨gb149, 1, none⟩ = some (.int .u8 a1_1) := (blk_cell BK149.out 1).trans rfl
              have hcz16_2 : w5.cell? ⟨gb149, 2, none⟩ = some (.int .u8 a1_2) := (blk_cell BK149.out 2).trans rfl
              have hcz16_3 : w5.cell? ⟨gb149, 3, none⟩ = some (.slice A1_3 l1_3.length c1_3) := (blk_cell BK149.out 3).trans rfl
              have hcz16_4 : w5.cell? ⟨gb149, 4, none⟩ = some (.int .u16 a1_4) := (blk_cell BK149.out 4).trans rfl
              have hcz16_5 : w5.cell? ⟨gb149, 5, none⟩ = some (.int .u32 a1_5) := (blk_cell BK149.out 5).trans rfl
              have hcz16_6 : w5.cell? ⟨gb149, 6, none⟩ = some (.slice A1_6 l1_6.length c1_6) := (blk_cell BK149.out 6).trans rfl
              have hcz16_7 : w5.cell? ⟨gb149, 7, none⟩ = some (.slice A1_7 l1_7.length c1_7) := (blk_cell BK149.out 7).trans rfl
              have hcz16_8 : w5.cell? ⟨gb149, 8, none⟩ = some (.slice A1_8 l1_8.length c1_8) := (blk_cell BK149.out 8).trans rfl
              have hcz16_9 : w5.cell? ⟨gb149, 9, none⟩ = some (.slice A1_9 l1_9.length c1_9) := (blk_cell BK149.out 9).trans rfl
              have hfz16_0 := blk_frozen BK149.out 0
              have hfz16_1 := blk_frozen BK149.out 1
              have hfz16_2 := blk_frozen BK149.out 2
              have hfz16_3 := blk_frozen BK149.out 3
              have hfz16_4 := blk_frozen BK149.out 4
              have hfz16_5 := blk_frozen BK149.out 5
              have hfz16_6 := blk_frozen BK149.out 6
              have hfz16_7 := blk_frozen BK149.out 7
              have hfz16_8 := blk_frozen BK149.out 8
              have hfz16_9 := blk_frozen BK149.out 9
              go_wp2
              repeat (go_quiet (fail); try go_wp2)
              go_meet
              case rel => exact ⟨_, (true), (by first | rfl | (simp; done) | (simp [*]; done)), H', ⟨by first | omega | exact Nat.le_refl _⟩, ⟨by (with_reducible repeat (first | refine blk_drewN ?_ _ | refine blk_drew ?_ | refine blk_alloc ?_ _)); exact BK148.out⟩, ⟨by (with_reducible repeat (first | refine blk_drewN ?_ _ | refine blk_drew ?_ | refine blk_alloc ?_ _)); exact BK149.out⟩, ⟨by repeat (first | (with_reducible first | exact HB.out | apply below_alloc | apply pw_below_drewN | apply below_drew1 | refine below_set ?_ GE148.out | refine below_set ?_ GE149.out) | exact HB.out)⟩⟩
          · rw [if_neg c9] at H
            have c9b0 : (a0_4 == a1_4) = false := beq_eq_false_iff_ne.mpr c9
            have c9b1 : (a0_4 != a1_4) = true := bne_iff_ne.mpr c9
            have H' := Aside0.mk H
            clear H
            have hnb17 := NB148_149.out
            have hnc17 := NB149_148.out
            have hcz18_0 : w5.cell? ⟨gb148, 0, none⟩ = some (.int .u16 a0_0) := (blk_cell BK148.out 0).trans rfl
            have hcz18_1 : w5.cell? ⟨gb148, 1, none⟩ = some (.int .u8 a0_1) := (blk_cell BK148.out 1).trans rfl
            have hcz18_2 : w5.cell? ⟨gb148, 2, none⟩ = some (.int .u8 a0_2) := (blk_cell BK148.out 2).trans rfl
            have hcz18_3 : w5.cell? ⟨gb148, 3, none⟩ = some (.slice A0_3 l0_3.length c0_3) := (blk_cell BK148.out 3).trans rfl
            have hcz18_4 : w5.cell? ⟨gb148, 4, none⟩ = some (.int .u16 a0_4) := (blk_cell BK148.out 4).trans rfl
            have hcz18_5 : w5.cell? ⟨gb148, 5, none⟩ = some (.int .u32 a0_5) := (blk_cell BK148.out 5).trans rfl
            have hcz18_6 : w5.cell? ⟨gb148, 6, none⟩ = some (.slice A0_6 l0_6.length c0_6) := (blk_cell BK148.out 6).trans rfl
            have hcz18_7 : w5.cell? ⟨gb148, 7, none⟩ = some (.slice A0_7 l0_7.length c0_7) := (blk_cell BK148.out 7).trans rfl
            have hcz18_8 : w5.cell? ⟨gb148, 8, none⟩ = some (.slice A0_8 l0_8.length c0_8) := (blk_cell BK148.out 8).trans rfl
            have hcz18_9 : w5.cell? ⟨gb148, 9, none⟩ = some (.slice A0_9 l0_9.length c0_9) := (blk_cell BK148.out 9).trans rfl
            have hfz18_0 := blk_frozen BK148.out 0
            have hfz18_1 := blk_frozen BK148.out 1
            have hfz18_2 := blk_frozen BK148.out 2
            have hfz18_3 := blk_frozen BK148.out 3
            have hfz18_4 := blk_frozen BK148.out 4
            have hfz18_5 := blk_frozen BK148.out 5
            have hfz18_6 := blk_frozen BK148.out 6
            have hfz18_7 := blk_frozen BK148.out 7
            have hfz18_8 := blk_frozen BK148.out 8
            have hfz18_9 := blk_frozen BK148.out 9
            have hcz19_0 : w5.cell? ⟨gb149, 0, none⟩ = some (.int .u16 a1_0) := (blk_cell BK149.out 0).trans rfl
            have hcz19_1 : w5.cell? ⟨gb149, 1, none⟩ = some (.int .u8 a1_1) := (blk_cell BK149.out 1).trans rfl
            have hcz19_2 : w5.cell? ⟨gb149, 2, none⟩ = some (.int .u8 a1_2) := (blk_cell BK149.out 2).trans rfl
            have hcz19_3 : w5.cell? ⟨gb149, 3, none⟩ = some (.slice A1_3 l1_3.length c1_3) := (blk_cell BK149.out 3).trans rfl
            have hcz19_4 : w5.cell? ⟨gb149, 4, none⟩ = some (.int .u16 a1_4) := (blk_cell BK149.out 4).trans rfl
            have hcz19_5 : w5.cell? ⟨gb149, 5, none⟩ = some (.int .u32 a1_5) := (blk_cell BK149.out 5).trans rfl
            have hcz19_6 : w5.cell? ⟨gb149, 6, none⟩ = some (.slice A1_6 l1_6.length c1_6) := (blk_cell BK149.out 6).trans rfl
            have hcz19_7 : w5.cell? ⟨gb149, 7, none⟩ = some (.slice A1_7 l1_7.length c1_7) := (blk_cell BK149.out 7).trans rfl
            have hcz19_8 : w5.cell? ⟨gb149, 8, none⟩ = some (.slice A1_8 l1_8.length c1_8) := (blk_cell BK149.out 8).trans rfl
            have hcz19_9 : w5.cell? ⟨gb149, 9, none⟩ = some (.slice A1_9 l1_9.length c1_9) := (blk_cell BK149.out 9).trans rfl
            have hfz19_0 := blk_frozen BK149.out 0
            have hfz19_1 := blk_frozen BK149.out 1
            have hfz19_2 := blk_frozen BK149.out 2
            have hfz19_3 := blk_frozen BK149.out 3
            have hfz19_4 := blk_frozen BK149.out 4
            have hfz19_5 := blk_frozen BK149.out 5
            have hfz19_6 := blk_frozen BK149.out 6
            have hfz19_7 := blk_frozen BK149.out 7
            have hfz19_8 := blk_frozen BK149.out 8
            have hfz19_9 := blk_frozen BK149.out 9
            go_wp2
            repeat (go_quiet (fail); try go_wp2)
            go_meet
            case rel => exact ⟨_, (true), (by first | rfl | (simp; done) | (simp [*]; done)), H', ⟨by first | omega | exact Nat.le_refl _⟩, ⟨by (with_reducible repeat (first | refine blk_drewN ?_ _ | refine blk_drew ?_ | refine blk_alloc ?_ _)); exact BK148.out⟩, ⟨by (with_reducible repeat (first | refine blk_drewN ?_ _ | refine blk_drew ?_ | refine blk_alloc ?_ _)); exact BK149.out⟩, ⟨by repeat (first | (with_reducible first | exact HB.out | apply below_alloc | apply pw_below_drewN | apply below_drew1 | refine below_set ?_ GE148.out | refine below_set ?_ GE149.out) | exact HB.out)⟩⟩
        · rw [if_neg c8] at H
          have c8b0 : (a0_2 == a1_2) = false := beq_eq_false_iff_ne.mpr c8
          have c8b1 : (a0_2 != a1_2) = true := bne_iff_ne.mpr c8
          have H' := Aside0.mk H
          clear H
          have hnb20 := NB148_149.out
          have hnc20 := NB149_148.out
          have hcz21_0 : w5.cell? ⟨gb148, 0, none⟩ = some (.int .u16 a0_0) := (blk_cell BK148.out 0).trans rfl
          have hcz21_1 : w5.cell? ⟨gb148, 1, none⟩ = some (.int .u8 a0_1) := (blk_cell BK148.out 1).trans rfl
          have hcz21_2 : w5.cell? ⟨gb148, 2, none⟩ = some (.int .u8 a0_2) := (blk_cell BK148.out 2).trans rfl
          have hcz21_3 : w5.cell? ⟨gb148, 3, none⟩ = some (.slice A0_3 l0_3.length c0_3) := (blk_cell BK148.out 3).trans rfl
          have hcz21_4 : w5.cell? ⟨gb148, 4, none⟩ = some (.int .u16 a0_4) := (blk_cell BK148.out 4).trans rfl
          have hcz21_5 : w5.cell? ⟨gb148, 5, none⟩ = some (.int .u32 a0_5) := (blk_cell BK148.out 5).trans rfl
          have hcz21_6 : w5.cell? ⟨gb148, 6, none⟩ = some (.slice A0_6 l0_6.length c0_6) := (blk_cell BK148.out 6).trans rfl
          have hcz21_7 : w5.cell? ⟨gb148, 7, none⟩ = some (.slice A0_7 l0_7.length c0_7) := (blk_cell BK148.out 7).trans rfl
          have hcz21_8 : w5.cell? ⟨gb148, 8, none⟩ = some (.slice A0_8 l0_8.length c0_8) := (blk_cell BK148.out 8).trans rfl
          have hcz21_9 : w5.cell? ⟨gb148, 9, none⟩ = some (.slice A0_9 l0_9.length c0_9) := (blk_cell BK148.out 9).trans rfl
          have hfz21_0 := blk_frozen BK148.out 0
          have hfz21_1 := blk_frozen BK148.out 1
          have hfz21_2 := blk_frozen BK148.out 2
          have hfz21_3 := blk_frozen BK148.out 3
          have hfz21_4 := blk_frozen BK148.out 4
          have hfz21_5 := blk_frozen BK148.out 5
          have hfz21_6 := blk_frozen BK148.out 6
          have hfz21_7 := blk_frozen BK148.out 7
          have hfz21_8 := blk_frozen BK148.out 8
          have hfz21_9 := blk_frozen BK148.out 9
          have hcz22_0 : w5.cell? ⟨gb149, 0, none⟩ = some (.int .u16 a1_0) := (blk_cell BK149.out 0).trans rfl
          have hcz22_1 : w5.cell? ⟨gb149, 1, none⟩ = some (.int .u8 a1_1) := (blk_cell BK149.out 1).trans rfl
          have hcz22_2 : w5.cell? ⟨gb149, 2, none⟩ = some (.int .u8 a1_2) := (blk_cell BK149.out 2).trans rfl
          have hcz22_3 : w5.cell? ⟨gb149, 3, none⟩ = some (.slice A1_3 l1_3.length c1_3) := (blk_cell BK149.out 3).trans rfl
          have hcz22_4 : w5.cell? ⟨gb149, 4, none⟩ = some (.int .u16 a1_4) := (blk_cell BK149.out 4).trans rfl
          have hcz22_5 : w5.cell? ⟨gb149, 5, none⟩ = some (.int .u32 a1_5) := (blk_cell BK149.out 5).trans rfl
          have hcz22_6 : w5.cell? ⟨gb149, 6, none⟩ = some (.slice A1_6 l1_6.length c1_6) := (blk_cell BK149.out 6).trans rfl
          have hcz22_7 : w5.cell? ⟨gb149, 7, none⟩ = some (.slice A1_7 l1_7.length c1_7) := (blk_cell BK149.out 7).trans rfl
          have hcz22_8 : w5.cell? ⟨gb149, 8, none⟩ = some (.slice A1_8 l1_8.length c1_8) := (blk_cell BK149.out 8).trans rfl
          have hcz22_9 : w5.cell? ⟨gb149, 9, none⟩ = some (.slice A1_9 l1_9.length c1_9) := (blk_cell BK149.out 9).trans rfl
          have hfz22_0 := blk_frozen BK149.out 0
          have hfz22_1 := blk_frozen BK149.out 1
          have hfz22_2 := blk_frozen BK149.out 2
          have hfz22_3 := blk_frozen BK149.out 3
          have hfz22_4 := blk_frozen BK149.out 4
          have hfz22_5 := blk_frozen BK149.out 5
          have hfz22_6 := blk_frozen BK149.out 6
          have hfz22_7 := blk_frozen BK149.out 7
          have hfz22_8 := blk_frozen BK149.out 8
          have hfz22_9 := blk_frozen BK149.out 9
          go_wp2
          repeat (go_quiet (fail); try go_wp2)
          go_meet
          case rel => exact ⟨_, (true), (by first | rfl | (simp; done) | (simp [*]; done)), H', ⟨by first | omega | exact Nat.le_refl _⟩, ⟨by (with_reducible repeat (first | refine blk_drewN ?_ _ | refine blk_drew ?_ | refine blk_alloc ?_ _)); exact BK148.out⟩, ⟨by (with_reducible repeat (first | refine blk_drewN ?_ _ | refine blk_drew ?_ | refine blk_alloc ?_ _)); exact BK149.out⟩, ⟨by repeat (first | (with_reducible first | exact HB.out | apply below_alloc | apply pw_below_drewN | apply below_drew1 | refine below_set ?_ GE148.out | refine below_set ?_ GE149.out) | exact HB.out)⟩⟩
      · rw [if_neg c7] at H
        have c7b0 : (a0_1 == a1_1) = false := beq_eq_false_iff_ne.mpr c7
        have c7b1 : (a0_1 != a1_1) = true := bne_iff_ne.mpr c7
        have H' := Aside0.mk H
        clear H
        have hnb23 := NB148_149.out
        have hnc23 := NB149_148.out
        have hcz24_0 : w5.cell? ⟨gb148, 0, none⟩ = some (.int .u16 a0_0) := (blk_cell BK148.out 0).trans rfl
        have hcz24_1 : w5.cell? ⟨gb148, 1, none⟩ = some (.int .u8 a0_1) := (blk_cell BK148.out 1).trans rfl
        have hcz24_2 : w5.cell? ⟨gb148, 2, none⟩ = some (.int .u8 a0_2) := (blk_cell BK148.out 2).trans rfl
        have hcz24_3 : w5.cell? ⟨gb148, 3, none⟩ = some (.slice A0_3 l0_3.length c0_3) := (blk_cell BK148.out 3).trans rfl
        have hcz24_4 : w5.cell? ⟨gb148, 4, none⟩ = some (.int .u16 a0_4) := (blk_cell BK148.out 4).trans rfl
        have hcz24_5 : w5.cell? ⟨gb148, 5, none⟩ = some (.int .u32 a0_5) := (blk_cell BK148.out 5).trans rfl
        have hcz24_6 : w5.cell? ⟨gb148, 6, none⟩ = some (.slice A0_6 l0_6.length c0_6) := (blk_cell BK148.out 6).trans rfl
        have hcz24_7 : w5.cell? ⟨gb148, 7, none⟩ = some (.slice A0_7 l0_7.length c0_7) := (blk_cell BK148.out 7).trans rfl
        have hcz24_8 : w5.cell? ⟨gb148, 8, none⟩ = some (.slice A0_8 l0_8.length c0_8) := (blk_cell BK148.out 8).trans rfl
        have hcz24_9 : w5.cell? ⟨gb148, 9, none⟩ = some (.slice A0_9 l0_9.length c0_9) := (blk_cell BK148.out 9).trans rfl
        have hfz24_0 := blk_frozen BK148.out 0
        have hfz24_1 := blk_frozen BK148.out 1
        have hfz24_2 := blk_frozen BK148.out 2
        have hfz24_3 := blk_frozen BK148.out 3
        have hfz24_4 := blk_frozen BK148.out 4
        have hfz24_5 := blk_frozen BK148.out 5
        have hfz24_6 := blk_frozen BK148.out 6
        have hfz24_7 := blk_frozen BK148.out 7
        have hfz24_8 := blk_frozen BK148.out 8
        have hfz24_9 := blk_frozen BK148.out 9
        have hcz25_0 : w5.cell? ⟨gb149, 0, none⟩ = some (.int .u16 a1_0) := (blk_cell BK149.out 0).trans rfl
        have hcz25_1 : w5.cell? ⟨gb149, 1, none⟩ = some (.int .u8 a1_1) := (blk_cell BK149.out 1).trans rfl
        have hcz25_2 : w5.cell? ⟨gb149, 2, none⟩ = some (.int .u8 a1_2) := (blk_cell BK149.out 2).trans rfl
        have hcz25_3 : w5.cell? ⟨gb149, 3, none⟩ = some (.slice A1_3 l1_3.length c1_3) := (blk_cell BK149.out 3).trans rfl
        have hcz25_4 : w5.cell? ⟨gb149, 4, none⟩ = some (.int .u16 a1_4) := (blk_cell BK149.out 4).trans rfl
        have hcz25_5 : w5.cell? ⟨gb149, 5, none⟩ = some (.int .u32 a1_5) := (blk_cell BK149.out 5).trans rfl
        have hcz25_6 : w5.cell? ⟨gb149, 6, none⟩ = some (.slice A1_6 l1_6.length c1_6) := (blk_cell BK149.out 6).trans rfl
        have hcz25_7 : w5.cell? ⟨gb149, 7, none⟩ = some (.slice A1_7 l1_7.length c1_7) := (blk_cell BK149.out 7).trans rfl
        have hcz25_8 : w5.cell? ⟨gb149, 8, none⟩ = some (.slice A1_8 l1_8.length c1_8) := (blk_cell BK149.out 8).trans rfl
        have hcz25_9 : w5.cell? ⟨gb149, 9, none⟩ = some (.slice A1_9 l1_9.length c1_9) := (blk_cell BK149.out 9).trans rfl
        have hfz25_0 := blk_frozen BK149.out 0
        have hfz25_1 := blk_frozen BK149.out 1
        have hfz25_2 := blk_frozen BK149.out 2
        have hfz25_3 := blk_frozen BK149.out 3
        have hfz25_4 := blk_frozen BK149.out 4
        have hfz25_5 := blk_frozen BK149.out 5
        have hfz25_6 := blk_frozen BK149.out 6
        have hfz25_7 := blk_frozen BK149.out 7
        have hfz25_8 := blk_frozen BK149.out 8
        have hfz25_9 := blk_frozen BK149.out 9
        go_wp2
        repeat (go_quiet (fail); try go_wp2)
        go_meet
        case rel => exact ⟨_, (true), (by first | rfl | (simp; done) | (simp [*]; done)), H', ⟨by first | omega | exact Nat.le_refl _⟩, ⟨by (with_reducible repeat (first | refine blk_drewN ?_ _ | refine blk_drew ?_ | refine blk_alloc ?_ _)); exact BK148.out⟩, ⟨by (with_reducible repeat (first | refine blk_drewN ?_ _ | refine blk_drew ?_ | refine blk_alloc ?_ _)); exact BK149.out⟩, ⟨by repeat (first | (with_reducible first | exact HB.out | apply below_alloc | apply pw_below_drewN | apply below_drew1 | refine below_set ?_ GE148.out | refine below_set ?_ GE149.out) | exact HB.out)⟩⟩
    · rw [if_neg c6] at H
      have c6b0 : (a0_0 == a1_0) = false := beq_eq_false_iff_ne.mpr c6
      have c6b1 : (a0_0 != a1_0) = true := bne_iff_ne.mpr c6
      (first | rw [c6b0] | (simp only [i64_w, i32_w]; rw [c6b0]) | skip)
      have H' := Aside0.mk H
      clear H
      have hnb26 := NB148_149.out
      have hnc26 := NB149_148.out
      have hcz27_0 : w5.cell? ⟨gb148, 0, none⟩ = some (.int .u16 a0_0) := (blk_cell BK148.out 0).trans rfl
      have hcz27_1 : w5.cell? ⟨gb148, 1, none⟩ = some (.int .u8 a0_1) := (blk_cell BK148.out 1).trans rfl
      have hcz27_2 : w5.cell? ⟨gb148, 2, none⟩ = some (.int .u8 a0_2) := (blk_cell BK148.out 2).trans rfl
      have hcz27_3 : w5.cell? ⟨gb148, 3, none⟩ = some (.slice A0_3 l0_3.length c0_3) := (blk_cell BK148.out 3).trans rfl
      have hcz27_4 : w5.cell? ⟨gb148, 4, none⟩ = some (.int .u16 a0_4) := (blk_cell BK148.out 4).trans rfl
      have hcz27_5 : w5.cell? ⟨gb148, 5, none⟩ = some (.int .u32 a0_5) := (blk_cell BK148.out 5).trans rfl
      have hcz27_6 : w5.cell? ⟨gb148, 6, none⟩ = some (.slice A0_6 l0_6.length c0_6) := (blk_cell BK148.out 6).trans rfl
      have hcz27_7 : w5.cell? ⟨gb148, 7, none⟩ = some (.slice A0_7 l0_7.length c0_7) := (blk_cell BK148.out 7).trans rfl
      have hcz27_8 : w5.cell? ⟨gb148, 8, none⟩ = some (.slice A0_8 l0_8.length c0_8) := (blk_cell BK148.out 8).trans rfl
      have hcz27_9 : w5.cell? ⟨gb148, 9, none⟩ = some (.slice A0_9 l0_9.length c0_9) := (blk_cell BK148.out 9).trans rfl
      have hfz27_0 := blk_frozen BK148.out 0
      have hfz27_1 := blk_frozen BK148.out 1
      have hfz27_2 := blk_frozen BK148.out 2
      have hfz27_3 := blk_frozen BK148.out 3
      have hfz27_4 := blk_frozen BK148.out 4
      have hfz27_5 := blk_frozen BK148.out 5
      have hfz27_6 := blk_frozen BK148.out 6
      have hfz27_7 := blk_frozen BK148.out 7
      have hfz27_8 := blk_frozen BK148.out 8
      have hfz27_9 := blk_frozen BK148.out 9
      have hcz28_0 : w5.cell? ⟨gb149, 0, none⟩ = some (.int .u16 a1_0) := (blk_cell BK149.out 0).trans rfl
      have hcz28_1 : w5.cell? ⟨gb149, 1, none⟩ = some (.int .u8 a1_1) := (blk_cell BK149.out 1).trans rfl
      have hcz28_2 : w5.cell? ⟨gb149, 2, none⟩ = some (.int .u8 a1_2) := (blk_cell BK149.out 2).trans rfl
      have hcz28_3 : w5.cell? ⟨gb149, 3, none⟩ = some (.slice A1_3 l1_3.length c1_3) := (blk_cell BK149.out 3).trans rfl
      have hcz28_4 : w5.cell? ⟨gb149, 4, none⟩ = some (.int .u16 a1_4) := (blk_cell BK149.out 4).trans rfl
      have hcz28_5 : w5.cell? ⟨gb149, 5, none⟩ = some (.int .u32 a1_5) := (blk_cell BK149.out 5).trans rfl
      have hcz28_6 : w5.cell? ⟨gb149, 6, none⟩ = some (.slice A1_6 l1_6.length c1_6) := (blk_cell BK149.out 6).trans rfl
      have hcz28_7 : w5.cell? ⟨gb149, 7, none⟩ = some (.slice A1_7 l1_7.length c1_7) := (blk_cell BK149.out 7).trans rfl
      have hcz28_8 : w5.cell? ⟨gb149, 8, none⟩ = some (.slice A1_8 l1_8.length c1_8) := (blk_cell BK149.out 8).trans rfl
      have hcz28_9 : w5.cell? ⟨gb149, 9, none⟩ = some (.slice A1_9 l1_9.length c1_9) := (blk_cell BK149.out 9).trans rfl
      have hfz28_0 := blk_frozen BK149.out 0
      have hfz28_1 := blk_frozen BK149.out 1
      have hfz28_2 := blk_frozen BK149.out 2
      have hfz28_3 := blk_frozen BK149.out 3
      have hfz28_4 := blk_frozen BK149.out 4
      have hfz28_5 := blk_frozen BK149.out 5
      have hfz28_6 := blk_frozen BK149.out 6
      have hfz28_7 := blk_frozen BK149.out 7
      have hfz28_8 := blk_frozen BK149.out 8
      have hfz28_9 := blk_frozen BK149.out 9
      go_wp2
      repeat (go_quiet (fail); try go_wp2)
      go_meet
      case rel => exact ⟨_, (true), (by first | rfl | (simp; done) | (simp [*]; done)), H', ⟨by first | omega | exact Nat.le_refl _⟩, ⟨by (with_reducible repeat (first | refine blk_drewN ?_ _ | refine blk_drew ?_ | refine blk_alloc ?_ _)); exact BK148.out⟩, ⟨by (with_reducible repeat (first | refine blk_drewN ?_ _ | refine blk_drew ?_ | refine blk_alloc ?_ _)); exact BK149.out⟩, ⟨by repeat (first | (with_reducible first | exact HB.out | apply below_alloc | apply pw_below_drewN | apply below_drew1 | refine below_set ?_ GE148.out | refine below_set ?_ GE149.out) | exact HB.out)⟩⟩
  case rest =>
    clear HC3
    try clear c1
    try clear c2
    try clear p2
    try clear c6
    try clear c6b0
    try clear c6b1
    try clear c7
    try clear c7b0
    try clear c7b1
    try clear c8
    try clear c8b0
    try clear c8b1
    try clear c9
    try clear c9b0
    try clear c9b1
    try clear c10
    try clear c10b0
    try clear c10b1
    try clear c11
    try clear c14
    try clear c17
    try clear c20
    try clear c23
    try clear c26
    try clear hcz12_0
    try clear hcz12_1
    try clear hcz12_2
    try clear hcz12_3
    try clear hcz12_4
    try clear hcz12_5
    try clear hcz12_6
    try clear hcz12_7
    try clear hcz12_8
    try clear hcz12_9
    try clear hcz13_0
    try clear hcz13_1
    try clear hcz13_2
    try clear hcz13_3
    try clear hcz13_4
    try clear hcz13_5
    try clear hcz13_6
    try clear hcz13_7
    try clear hcz13_8
    try clear hcz13_9
    try clear hcz15_0
    try clear hcz15_1
    try clear hcz15_2
    try clear hcz15_3
    try clear hcz15_4
    try clear hcz15_5
    try clear hcz15_6
    try clear hcz15_7
    try clear hcz15_8
    try clear hcz15_9
    try clear hcz16_0
    try clear hcz16_1
    try clear hcz16_2
    try clear hcz16_3
    try clear hcz16_4
    try clear hcz16_5
    try clear hcz16_6
    try clear hcz16_7
    try clear hcz16_8
    try clear hcz16_9
    try clear hcz18_0
    try clear hcz18_1
    try clear hcz18_2
    try clear hcz18_3
    try clear hcz18_4
    try clear hcz18_5
    try clear hcz18_6
    try clear hcz18_7
    try clear hcz18_8
    try clear hcz18_9
    try clear hcz19_0
    try clear hcz19_1
    try clear hcz19_2
    try clear hcz19_3
    try clear hcz19_4
    try clear hcz19_5
    try clear hcz19_6
    try clear hcz19_7
    try clear hcz19_8
    try clear hcz19_9
    try clear hcz21_0
    try clear hcz21_1
    try clear hcz21_2
    try clear hcz21_3
    try clear hcz21_4
    try clear hcz21_5
    try clear hcz21_6
    try clear hcz21_7
    try clear hcz21_8
    try clear hcz21_9
    try clear hcz22_0
    try clear hcz22_1
    try clear hcz22_2
    try clear hcz22_3
    try clear hcz22_4
    try clear hcz22_5
    try clear hcz22_6
    try clear hcz22_7
    try clear hcz22_8
    try clear hcz22_9
    try clear hcz24_0
    try clear hcz24_1
    try clear hcz24_2
    try clear hcz24_3
    try clear hcz24_4
    try clear hcz24_5
    try clear hcz24_6
    try clear hcz24_7
    try clear hcz24_8
    try clear hcz24_9
    try clear hcz25_0
    try clear hcz25_1
    try clear hcz25_2
    try clear hcz25_3
    try clear hcz25_4
    try clear hcz25_5
    try clear hcz25_6
    try clear hcz25_7
    try clear hcz25_8
    try clear hcz25_9
    try clear hcz27_0
    try clear hcz27_1
    try clear hcz27_2
    try clear hcz27_3
    try clear hcz27_4
    try clear hcz27_5
    try clear hcz27_6
    try clear hcz27_7
    try clear hcz27_8
    try clear hcz27_9
    try clear hcz28_0
    try clear hcz28_1
    try clear hcz28_2
    try clear hcz28_3
    try clear hcz28_4
    try clear hcz28_5
    try clear hcz28_6
    try clear hcz28_7
    try clear hcz28_8
    try clear hcz28_9
    try clear hfz12_0
    try clear hfz12_1
    try clear hfz12_2
    try clear hfz12_3
    try clear hfz12_4
    try clear hfz12_5
    try clear hfz12_6
    try clear hfz12_7
    try clear hfz12_8
    try clear hfz12_9
    try clear hfz13_0
    try clear hfz13_1
    try clear hfz13_2
    try clear hfz13_3
    try clear hfz13_4
    try clear hfz13_5
    try clear hfz13_6
    try clear hfz13_7
    try clear hfz13_8
    try clear hfz13_9
    try clear hfz15_0
    try clear hfz15_1
    try clear hfz15_2
    try clear hfz15_3
    try clear hfz15_4
    try clear hfz15_5
    try clear hfz15_6
    try clear hfz15_7
    try clear hfz15_8
    try clear hfz15_9
    try clear hfz16_0
    try clear hfz16_1
    try clear hfz16_2
    try clear hfz16_3
    try clear hfz16_4
    try clear hfz16_5
    try clear hfz16_6
    try clear hfz16_7
    try clear hfz16_8
    try clear hfz16_9
    try clear hfz18_0
    try clear hfz18_1
    try clear hfz18_2
    try clear hfz18_3
    try clear hfz18_4
    try clear hfz18_5
    try clear hfz18_6
    try clear hfz18_7
    try clear hfz18_8
    try clear hfz18_9
    try clear hfz19_0
    try clear hfz19_1
    try clear hfz19_2
    try clear hfz19_3
    try clear hfz19_4
    try clear hfz19_5
    try clear hfz19_6
    try clear hfz19_7
    try clear hfz19_8
    try clear hfz19_9
    try clear hfz21_0
    try clear hfz21_1
    try clear hfz21_2
    try clear hfz21_3
    try clear hfz21_4
    try clear hfz21_5
    try clear hfz21_6
    try clear hfz21_7
    try clear hfz21_8
    try clear hfz21_9
    try clear hfz22_0
    try clear hfz22_1
    try clear hfz22_2
    try clear hfz22_3
    try clear hfz22_4
    try clear hfz22_5
    try clear hfz22_6
    try clear hfz22_7
    try clear hfz22_8
    try clear hfz22_9
    try clear hfz24_0
    try clear hfz24_1
    try clear hfz24_2
    try clear hfz24_3
    try clear hfz24_4
    try clear hfz24_5
    try clear hfz24_6
    try clear hfz24_7
    try clear hfz24_8
    try clear hfz24_9
    try clear hfz25_0
    try clear hfz25_1
    try clear hfz25_2
    try clear hfz25_3
    try clear hfz25_4
    try clear hfz25_5
    try clear hfz25_6
    try clear hfz25_7
    try clear hfz25_8
    try clear hfz25_9
    try clear hfz27_0
    try clear hfz27_1
    try clear hfz27_2
    try clear hfz27_3
    try clear hfz27_4
    try clear hfz27_5
    try clear hfz27_6
    try clear hfz27_7
    try clear hfz27_8
    try clear hfz27_9
    try clear hfz28_0
    try clear hfz28_1
    try clear hfz28_2
    try clear hfz28_3
    try clear hfz28_4
    try clear hfz28_5
    try clear hfz28_6
    try clear hfz28_7
    try clear hfz28_8
    try clear hfz28_9
    obtain ⟨kq, x47_2, rfl, HA, HJ2, BK148, BK149, HB⟩ := hcut
    cases kq with
    | zero => exact absurd HA.out (by simp [marlineref15_Same.j0])
    | succ kj2 =>
      have H := HA.out
      clear HA
      simp only [marlineref15_Same.j0] at H
      by_cases c29 : x47_2 = true
      · subst c29
        have H1 : (some false) = some r := by rw [if_pos rfl] at H; exact H
        clear H
        have H := H1
        clear H1
        obtain rfl := Option.some.inj H
        go_wp2
        repeat (go_quiet (fail); try go_wp2)
        go_ret
        exact ⟨by first | rfl | (simp [errW_none, errW_some] <;> rfl) | (simp [*, errW_none, errW_some] <;> rfl), by repeat (first | (with_reducible first | exact HB.out | apply below_alloc | apply pw_below_drewN | apply below_drew1 | refine below_set ?_ GE148.out | refine below_set ?_ GE149.out) | exact HB.out)⟩
      · replace c29 := Bool.eq_false_iff.mpr c29
        subst c29
        have H1 : (marlineref15_Same.l0 kj2 0 a0_0 a0_1 a0_2 l0_3 a0_4 a0_5 l0_6 l0_7 l0_8 l0_9 a1_0 a1_1 a1_2 l1_3 a1_4 a1_5 l1_6 l1_7 l1_8 l1_9) = some r := by rw [if_neg (show ¬ (false = true) by decide)] at H; exact H
        clear H
        have H := H1
        clear H1
        have H' := Aside0.mk H
        clear H
        go_wp2
        repeat (go_quiet (fail); try go_wp2)
        go_loopg [5] kj2 (fun kq v5 w' => ∃ (x5_2 : Int), v5 = .int .i64 x5_2 ∧ Aside0 (marlineref15_Same.l0 kq x5_2 a0_0 a0_1 a0_2 l0_3 a0_4 a0_5 l0_6 l0_7 l0_8 l0_9 a1_0 a1_1 a1_2 l1_3 a1_4 a1_5 l1_6 l1_7 l1_8 l1_9 = some r) ∧ Aside0 (kq ≤ kj2) ∧ Aside0 (w'.heap[gb148]? = some (.cells #[.int .u16 a0_0, .int .u8 a0_1, .int .u8 a0_2, (.slice A0_3 l0_3.length c0_3), .int .u16 a0_4, .int .u32 a0_5, (.slice A0_6 l0_6.length c0_6), (.slice A0_7 l0_7.length c0_7), (.slice A0_8 l0_8.length c0_8), (.slice A0_9 l0_9.length c0_9)] 45 (0, 0))) ∧ Aside0 (w'.heap[gb149]? = some (.cells #[.int .u16 a1_0, .int .u8 a1_1, .int .u8 a1_2, (.slice A1_3 l1_3.length c1_3), .int .u16 a1_4, .int .u32 a1_5, (.slice A1_6 l1_6.length c1_6), (.slice A1_7 l1_7.length c1_7), (.slice A1_8 l1_8.length c1_8), (.slice A1_9 l1_9.length c1_9)] 45 (0, 0))) ∧ Aside0 (Below w.heap.size w w'))
        case atStart => exact ⟨(0), (by first | rfl | (simp; done) | (simp [*]; done)), H', ⟨Nat.le_refl _⟩, ⟨by (with_reducible repeat (first | refine blk_drewN ?_ _ | refine blk_drew ?_ | refine blk_alloc ?_ _)); exact BK148.out⟩, ⟨by (with_reducible repeat (first | refine blk_drewN ?_ _ | refine blk_drew ?_ | refine blk_alloc ?_ _)); exact BK149.out⟩, ⟨by repeat (first | (with_reducible first | exact HB.out | apply below_alloc | apply pw_below_drewN | apply below_drew1 | refine below_set ?_ GE148.out | refine below_set ?_ GE149.out) | exact HB.out)⟩⟩
        case round =>
          clear H'
          try clear c1
          try clear c2
          try clear p2
          try clear c6
          try clear c6b0
          try clear c6b1
          try clear c7
          try clear c7b0
          try clear c7b1
          try clear c8
          try clear c8b0
          try clear c8b1
          try clear c9
          try clear c9b0
          try clear c9b1
          try clear c10
          try clear c10b0
          try clear c10b1
          try clear c11
          try clear c14
          try clear c17
          try clear c20
          try clear c23
          try clear c26
          try clear c29
          try clear hcz12_0
          try clear hcz12_1
          try clear hcz12_2
          try clear hcz12_3
          try clear hcz12_4
          try clear hcz12_5
          try clear hcz12_6
          try clear hcz12_7
          try clear hcz12_8
          try clear hcz12_9
          try clear hcz13_0
          try clear hcz13_1
          try clear hcz13_2
          try clear hcz13_3
          try clear hcz13_4
          try clear hcz13_5
          try clear hcz13_6
          try clear hcz13_7
          try clear hcz13_8
          try clear hcz13_9
          try clear hcz15_0
          try clear hcz15_1
          try clear hcz15_2
          try clear hcz15_3
          try clear hcz15_4
          try clear hcz15_5
          try clear hcz15_6
          try clear hcz15_7
          try clear hcz15_8
          try clear hcz15_9
          try clear hcz16_0
          try clear hcz16_1
          try clear hcz16_2
          try clear hcz16_3
          try clear hcz16_4
          try clear hcz16_5
          try clear hcz16_6
          try clear hcz16_7
          try clear hcz16_8
          try clear hcz16_9
          try clear hcz18_0
          try clear hcz18_1
          try clear hcz18_2
          try clear hcz18_3
          try clear hcz18_4
          try clear hcz18_5
          try clear hcz18_6
          try clear hcz18_7
          try clear hcz18_8
          try clear hcz18_9
          try clear hcz19_0
          try clear hcz19_1
          try clear hcz19_2
          try clear hcz19_3
          try clear hcz19_4
          try clear hcz19_5
          try clear hcz19_6
          try clear hcz19_7
          try clear hcz19_8
          try clear hcz19_9
          try clear hcz21_0
          try clear hcz21_1
          try clear hcz21_2
          try clear hcz21_3
          try clear hcz21_4
          try clear hcz21_5
          try clear hcz21_6
          try clear hcz21_7
          try clear hcz21_8
          try clear hcz21_9
          try clear hcz22_0
          try clear hcz22_1
          try clear hcz22_2
          try clear hcz22_3
          try clear hcz22_4
          try clear hcz22_5
          try clear hcz22_6
          try clear hcz22_7
          try clear hcz22_8
          try clear hcz22_9
          try clear hcz24_0
          try clear hcz24_1
          try clear hcz24_2
          try clear hcz24_3
          try clear hcz24_4
          try clear hcz24_5
          try clear hcz24_6
          try clear hcz24_7
          try clear hcz24_8
          try clear hcz24_9
          try clear hcz25_0
          try clear hcz25_1
          try clear hcz25_2
          try clear hcz25_3
          try clear hcz25_4
          try clear hcz25_5
          try clear hcz25_6
          try clear hcz25_7
          try clear hcz25_8
          try clear hcz25_9
          try clear hcz27_0
          try clear hcz27_1
          try clear hcz27_2
          try clear hcz27_3
          try clear hcz27_4
          try clear hcz27_5
          try clear hcz27_6
          try clear hcz27_7
          try clear hcz27_8
          try clear hcz27_9
          try clear hcz28_0
          try clear hcz28_1
          try clear hcz28_2
          try clear hcz28_3
          try clear hcz28_4
          try clear hcz28_5
          try clear hcz28_6
          try clear hcz28_7
          try clear hcz28_8
          try clear hcz28_9
          try clear hfz12_0
          try clear hfz12_1
          try clear hfz12_2
          try clear hfz12_3
          try clear hfz12_4
          try clear hfz12_5
          try clear hfz12_6
          try clear hfz12_7
          try clear hfz12_8
          try clear hfz12_9
          try clear hfz13_0
          try clear hfz13_1
          try clear hfz13_2
          try clear hfz13_3
          try clear hfz13_4
          try clear hfz13_5
          try clear hfz13_6
          try clear hfz13_7
          try clear hfz13_8
          try clear hfz13_9
          try clear hfz15_0
          try clear hfz15_1
          try clear hfz15_2
          try clear hfz15_3
          try clear hfz15_4
          try clear hfz15_5
          try clear hfz15_6
          try clear hfz15_7
          try clear hfz15_8
          try clear hfz15_9
          try clear hfz16_0
          try clear hfz16_1
          try clear hfz16_2
          try clear hfz16_3
          try clear hfz16_4
          try clear hfz16_5
          try clear hfz16_6
          try clear hfz16_7
          try clear hfz16_8
          try clear hfz16_9
          try clear hfz18_0
          try clear hfz18_1
          try clear hfz18_2
          try clear hfz18_3
          try clear hfz18_4
          try clear hfz18_5
          try clear hfz18_6
          try clear hfz18_7
          try clear hfz18_8
          try clear hfz18_9
          try clear hfz19_0
          try clear hfz19_1
          try clear hfz19_2
          try clear hfz19_3
          try clear hfz19_4
          try clear hfz19_5
          try clear hfz19_6
          try clear hfz19_7
          try clear hfz19_8
          try clear hfz19_9
          try clear hfz21_0
          try clear hfz21_1
          try clear hfz21_2
          try clear hfz21_3
          try clear hfz21_4
          try clear hfz21_5
          try clear hfz21_6
          try clear hfz21_7
          try clear hfz21_8
          try clear hfz21_9
          try clear hfz22_0
          try clear hfz22_1
          try clear hfz22_2
          try clear hfz22_3
          try clear hfz22_4
          try clear hfz22_5
          try clear hfz22_6
          try clear hfz22_7
          try clear hfz22_8
          try clear hfz22_9
          try clear hfz24_0
          try clear hfz24_1
          try clear hfz24_2
          try clear hfz24_3
          try clear hfz24_4
          try clear hfz24_5
          try clear hfz24_6
          try clear hfz24_7
          try clear hfz24_8
          try clear hfz24_9
          try clear hfz25_0
          try clear hfz25_1
          try clear hfz25_2
          try clear hfz25_3
          try clear hfz25_4
          try clear hfz25_5
          try clear hfz25_6
          try clear hfz25_7
          try clear hfz25_8
          try clear hfz25_9
          try clear hfz27_0
          try clear hfz27_1
          try clear hfz27_2
          try clear hfz27_3
          try clear hfz27_4
          try clear hfz27_5
          try clear hfz27_6
          try clear hfz27_7
          try clear hfz27_8
          try clear hfz27_9
          try clear hfz28_0
          try clear hfz28_1
          try clear hfz28_2
          try clear hfz28_3
          try clear hfz28_4
          try clear hfz28_5
          try clear hfz28_6
          try clear hfz28_7
          try clear hfz28_8
          try clear hfz28_9
          try clear p2
          obtain ⟨x5_2, rfl, HA, HK2, BK148, BK149, HB⟩ := hrel
          cases gk with
          | zero => exact absurd HA.out (by simp [marlineref15_Same.l0])
          | succ k2 =>
            have H := HA.out
            clear HA
            simp only [marlineref15_Same.l0] at H
            by_cases c30 : x5_2 < (l0_9.length : Int)
            · rw [if_pos c30] at H
              have c30b0 : decide (x5_2 < (l0_9.length : Int)) = true := decide_eq_true c30
              clear c30
              by_cases c31 : 0 ≤ x5_2
              · rw [if_pos c31] at H
                have c31b0 : decide (0 ≤ x5_2) = true := decide_eq_true c31
                clear c31
                by_cases c32 : x5_2 < (l1_9.length : Int)
                · rw [if_pos c32] at H
                  have c32b0 : decide (x5_2 < (l1_9.length : Int)) = true := decide_eq_true c32
                  clear c32
                  by_cases c33 : (rd l0_9 x5_2) = (rd l1_9 x5_2)
                  · rw [if_pos c33] at H
                    have c33b0 : ((rd l0_9 x5_2) == (rd l1_9 x5_2)) = true := beq_iff_eq.mpr c33
                    have c33b1 : ((rd l0_9 x5_2) != (rd l1_9 x5_2)) = false := bne_eq_false_iff_eq.mpr c33
                    clear c33
                    have H' := Aside0.mk H
                    clear H
                    have hnb34 := NB148_149.out
                    have hnc34 := NB149_148.out
                    have hcz35_0 : wr.cell? ⟨gb148, 0, none⟩ = some (.int .u16 a0_0) := (blk_cell BK148.out 0).trans rfl
                    have hcz35_1 : wr.cell? ⟨gb148, 1, none⟩ = some (.int .u8 a0_1) := (blk_cell BK148.out 1).trans rfl
                    have hcz35_2 : wr.cell? ⟨gb148, 2, none⟩ = some (.int .u8 a0_2) := (blk_cell BK148.out 2).trans rfl
                    have hcz35_3 : wr.cell? ⟨gb148, 3, none⟩ = some (.slice A0_3 l0_3.length c0_3) := (blk_cell BK148.out 3).trans rfl
                    have hcz35_4 : wr.cell? ⟨gb148, 4, none⟩ = some (.int .u16 a0_4) := (blk_cell BK148.out 4).trans rfl
                    have hcz35_5 : wr.cell? ⟨gb148, 5, none⟩ = some (.int .u32 a0_5) := (blk_cell BK148.out 5).trans rfl
                    have hcz35_6 : wr.cell? ⟨gb148, 6, none⟩ = some (.slice A0_6 l0_6.length c0_6) := (blk_cell BK148.out 6).trans rfl
                    have hcz35_7 : wr.cell? ⟨gb148, 7, none⟩ = some (.slice A0_7 l0_7.length c0_7) := (blk_cell BK148.out 7).trans rfl
                    have hcz35_8 : wr.cell? ⟨gb148, 8, none⟩ = some (.slice A0_8 l0_8.length c0_8) := (blk_cell BK148.out 8).trans rfl
                    have hcz35_9 : wr.cell? ⟨gb148, 9, none⟩ = some (.slice A0_9 l0_9.length c0_9) := (blk_cell BK148.out 9).trans rfl
                    have hfz35_0 := blk_frozen BK148.out 0
                    have hfz35_1 := blk_frozen BK148.out 1
                    have hfz35_2 := blk_frozen BK148.out 2
                    have hfz35_3 := blk_frozen BK148.out 3
                    have hfz35_4 := blk_frozen BK148.out 4
                    have hfz35_5 := blk_frozen BK148.out 5
                    have hfz35_6 := blk_frozen BK148.out 6
                    have hfz35_7 := blk_frozen BK148.out 7
                    have hfz35_8 := blk_frozen BK148.out 8
                    have hfz35_9 := blk_frozen BK148.out 9
                    have p150 : 0 ≤ (x5_2 : Int) := of_decide_eq_true (by first | (with_reducible assumption) | assumption)
                    have q150 : x5_2 < (l0_9.length : Int) := of_decide_eq_true (by first | (with_reducible assumption) | assumption)
                    obtain ⟨ad150, e150, hx150_0⟩ := Kd.at_int HR0_9.out x5_2 p150 q150
                    cases e150
                    replace hx150_0 := (HB.out.cell (World.block_lt_of_cell? w _ hx150_0)).trans hx150_0
                    replace p150 := eq_true p150
                    replace q150 := eq_true q150
                    have hcz36_0 : wr.cell? ⟨gb149, 0, none⟩ = some (.int .u16 a1_0) := (blk_cell BK149.out 0).trans rfl
                    have hcz36_1 : wr.cell? ⟨gb149, 1, none⟩ = some (.int .u8 a1_1) := (blk_cell BK149.out 1).trans rfl
                    have hcz36_2 : wr.cell? ⟨gb149, 2, none⟩ = some (.int .u8 a1_2) := (blk_cell BK149.out 2).trans rfl
                    have hcz36_3 : wr.cell? ⟨gb149, 3, none⟩ = some (.slice A1_3 l1_3.length c1_3) := (blk_cell BK149.out 3).trans rfl
                    have hcz36_4 : wr.cell? ⟨gb149, 4, none⟩ = some (.int .u16 a1_4) := (blk_cell BK149.out 4).trans rfl
                    have hcz36_5 : wr.cell? ⟨gb149, 5, none⟩ = some (.int .u32 a1_5) := (blk_cell BK149.out 5).trans rfl
                    have hcz36_6 : wr.cell? ⟨gb149, 6, none⟩ = some (.slice A1_6 l1_6.length c1_6) := (blk_cell BK149.out 6).trans rfl
                    have hcz36_7 : wr.cell? ⟨gb149, 7, none⟩ = some (.slice A1_7 l1_7.length c1_7) := (blk_cell BK149.out 7).trans rfl
                    have hcz36_8 : wr.cell? ⟨gb149, 8, none⟩ = some (.slice A1_8 l1_8.length c1_8) := (blk_cell BK149.out 8).trans rfl
                    have hcz36_9 : wr.cell? ⟨gb149, 9, none⟩ = some (.slice A1_9 l1_9.length c1_9) := (blk_cell BK149.out 9).trans rfl
                    have hfz36_0 := blk_frozen BK149.out 0
                    have hfz36_1 := blk_frozen BK149.out 1
                    have hfz36_2 := blk_frozen BK149.out 2
                    have hfz36_3 := blk_frozen BK149.out 3
                    have hfz36_4 := blk_frozen BK149.out 4
                    have hfz36_5 := blk_frozen BK149.out 5
                    have hfz36_6 := blk_frozen BK149.out 6
                    have hfz36_7 := blk_frozen BK149.out 7
                    have hfz36_8 := blk_frozen BK149.out 8
                    have hfz36_9 := blk_frozen BK149.out 9
                    have p151 : 0 ≤ (x5_2 : Int) := of_decide_eq_true (by first | (with_reducible assumption) | assumption)
                    have q151 : x5_2 < (l1_9.length : Int) := of_decide_eq_true (by first | (with_reducible assumption) | assumption)
                    obtain ⟨ad151, e151, hx151_0⟩ := Kd.at_int HR1_9.out x5_2 p151 q151
                    cases e151
                    replace hx151_0 := (HB.out.cell (World.block_lt_of_cell? w _ hx151_0)).trans hx151_0
                    replace p151 := eq_true p151
                    replace q151 := eq_true q151
                    go_wp2
                    repeat (go_quiet (fail); try go_wp2)
                    go_roundg k2
                    case measure => have := HJ2.out; have := HK2.out; omega
                    case rel => exact ⟨(wrap64 (x5_2 + 1)), (by first | rfl | (simp; done) | (simp [*]; done)), H', ⟨by have := HJ2.out; have := HK2.out; omega⟩, ⟨by (with_reducible repeat (first | refine blk_drewN ?_ _ | refine blk_drew ?_ | refine blk_alloc ?_ _)); exact BK148.out⟩, ⟨by (with_reducible repeat (first | refine blk_drewN ?_ _ | refine blk_drew ?_ | refine blk_alloc ?_ _)); exact BK149.out⟩, ⟨by repeat (first | (with_reducible first | exact HB.out | apply below_alloc | apply pw_below_drewN | apply below_drew1 | refine below_set ?_ GE148.out | refine below_set ?_ GE149.out) | exact HB.out)⟩⟩
                  · rw [if_neg c33] at H
                    have c33b0 : ((rd l0_9 x5_2) == (rd l1_9 x5_2)) = false := beq_eq_false_iff_ne.mpr c33
                    have c33b1 : ((rd l0_9 x5_2) != (rd l1_9 x5_2)) = true := bne_iff_ne.mpr c33
                    obtain rfl := Option.some.inj H
                    have hnb37 := NB148_149.out
                    have hnc37 := NB149_148.out
                    have hcz38_0 : wr.cell? ⟨gb148, 0, none⟩ = some (.int .u16 a0_0) := (blk_cell BK148.out 0).trans rfl
                    have hcz38_1 : wr.cell? ⟨gb148, 1, none⟩ = some (.int .u8 a0_1) := (blk_cell BK148.out 1).trans rfl
                    have hcz38_2 : wr.cell? ⟨gb148, 2, none⟩ = some (.int .u8 a0_2) := (blk_cell BK148.out 2).trans rfl
                    have hcz38_3 : wr.cell? ⟨gb148, 3, none⟩ = some (.slice A0_3 l0_3.length c0_3) := (blk_cell BK148.out 3).trans rfl
                    have hcz38_4 : wr.cell? ⟨gb148, 4, none⟩ = some (.int .u16 a0_4) := (blk_cell BK148.out 4).trans rfl
                    have hcz38_5 : wr.cell? ⟨gb148, 5, none⟩ = some (.int .u32 a0_5) := (blk_cell BK148.out 5).trans rfl
                    have hcz38_6 : wr.cell? ⟨gb148, 6, none⟩ = some (.slice A0_6 l0_6.length c0_6) := (blk_cell BK148.out 6).trans rfl
                    have hcz38_7 : wr.cell? ⟨gb148, 7, none⟩ = some (.slice A0_7 l0_7.length c0_7) := (blk_cell BK148.out 7).trans rfl
                    have hcz38_8 : wr.cell? ⟨gb148, 8, none⟩ = some (.slice A0_8 l0_8.length c0_8) := (blk_cell BK148.out 8).trans rfl
                    have hcz38_9 : wr.cell? ⟨gb148, 9, none⟩ = some (.slice A0_9 l0_9.length c0_9) := (blk_cell BK148.out 9).trans rfl
                    have hfz38_0 := blk_frozen BK148.out 0
                    have hfz38_1 := blk_frozen BK148.out 1
                    have hfz38_2 := blk_frozen BK148.out 2
                    have hfz38_3 := blk_frozen BK148.out 3
                    have hfz38_4 := blk_frozen BK148.out 4
                    have hfz38_5 := blk_frozen BK148.out 5
                    have hfz38_6 := blk_frozen BK148.out 6
                    have hfz38_7 := blk_frozen BK148.out 7
                    have hfz38_8 := blk_frozen BK148.out 8
                    have hfz38_9 := blk_frozen BK148.out 9
                    have p150 : 0 ≤ (x5_2 : Int) := of_decide_eq_true (by first | (with_reducible assumption) | assumption)
                    have q150 : x5_2 < (l0_9.length : Int) := of_decide_eq_true (by first | (with_reducible assumption) | assumption)
                    obtain ⟨ad150, e150, hx150_0⟩ := Kd.at_int HR0_9.out x5_2 p150 q150
                    cases e150
                    replace hx150_0 := (HB.out.cell (World.block_lt_of_cell? w _ hx150_0)).trans hx150_0
                    replace p150 := eq_true p150
                    replace q150 := eq_true q150
                    have hcz39_0 : wr.cell? ⟨gb149, 0, none⟩ = some (.int .u16 a1_0) := (blk_cell BK149.out 0).trans rfl
                    have hcz39_1 : wr.cell? ⟨gb149, 1, none⟩ = some (.int .u8 a1_1) := (blk_cell BK149.out 1).trans rfl
                    have hcz39_2 : wr.cell? ⟨gb149, 2, none⟩ = some (.int .u8 a1_2) := (blk_cell BK149.out 2).trans rfl
                    have hcz39_3 : wr.cell? ⟨gb149, 3, none⟩ = some (.slice A1_3 l1_3.length c1_3) := (blk_cell BK149.out 3).trans rfl
                    have hcz39_4 : wr.cell? ⟨gb149, 4, none⟩ = some (.int .u16 a1_4) := (blk_cell BK149.out 4).trans rfl
                    have hcz39_5 : wr.cell? ⟨gb149, 5, none⟩ = some (.int .u32 a1_5) := (blk_cell BK149.out 5).trans rfl
                    have hcz39_6 : wr.cell? ⟨gb149, 6, none⟩ = some (.slice A1_6 l1_6.length c1_6) := (blk_cell BK149.out 6).trans rfl
                    have hcz39_7 : wr.cell? ⟨gb149, 7, none⟩ = some (.slice A1_7 l1_7.length c1_7) := (blk_cell BK149.out 7).trans rfl
                    have hcz39_8 : wr.cell? ⟨gb149, 8, none⟩ = some (.slice A1_8 l1_8.length c1_8) := (blk_cell BK149.out 8).trans rfl
                    have hcz39_9 : wr.cell? ⟨gb149, 9, none⟩ = some (.slice A1_9 l1_9.length c1_9) := (blk_cell BK149.out 9).trans rfl
                    have hfz39_0 := blk_frozen BK149.out 0
                    have hfz39_1 := blk_frozen BK149.out 1
                    have hfz39_2 := blk_frozen BK149.out 2
                    have hfz39_3 := blk_frozen BK149.out 3
                    have hfz39_4 := blk_frozen BK149.out 4
                    have hfz39_5 := blk_frozen BK149.out 5
                    have hfz39_6 := blk_frozen BK149.out 6
                    have hfz39_7 := blk_frozen BK149.out 7
                    have hfz39_8 := blk_frozen BK149.out 8
                    have hfz39_9 := blk_frozen BK149.out 9
                    have p151 : 0 ≤ (x5_2 : Int) := of_decide_eq_true (by first | (with_reducible assumption) | assumption)
                    have q151 : x5_2 < (l1_9.length : Int) := of_decide_eq_true (by first | (with_reducible assumption) | assumption)
                    obtain ⟨ad151, e151, hx151_0⟩ := Kd.at_int HR1_9.out x5_2 p151 q151
                    cases e151
                    replace hx151_0 := (HB.out.cell (World.block_lt_of_cell? w _ hx151_0)).trans hx151_0
                    replace p151 := eq_true p151
                    replace q151 := eq_true q151
                    go_wp2
                    repeat (go_quiet (fail); try go_wp2)
                    go_ret
                    exact ⟨by first | rfl | (simp [errW_none, errW_some] <;> rfl) | (simp [*, errW_none, errW_some] <;> rfl), by repeat (first | (with_reducible first | exact HB.out | apply below_alloc | apply pw_below_drewN | apply below_drew1 | refine below_set ?_ GE148.out | refine below_set ?_ GE149.out) | exact HB.out)⟩
                · rw [if_neg c32] at H
                  exact absurd H (by simp)
              · rw [if_neg c31] at H
                exact absurd H (by simp)
            · rw [if_neg c30] at H
              have c30b0 : decide (x5_2 < (l0_9.length : Int)) = false := decide_eq_false c30
              clear c30
              replace H := Option.bind_eq_some_iff.mp H
              obtain ⟨t152, A400, H⟩ := H
              replace H : (if t152 = true then ((marlineref01_Equal.f k2 l0_6 l1_6).bind fun t153 => (if t153 = true then ((marlineref01_Equal.f k2 l0_7 l1_7).bind fun t154 => (if t154 = true then ((marlineref01_Equal.f k2 l0_8 l1_8).bind fun t155 => (some t155)) else (some false))) else (some false))) else (some false)) = some r := H
              have A40 := Aside0.mk A400
              clear A400
              by_cases c41 : t152 = true
              · subst c41
                have H1 : ((marlineref01_Equal.f k2 l0_6 l1_6).bind fun t153 => (if t153 = true then ((marlineref01_Equal.f k2 l0_7 l1_7).bind fun t154 => (if t154 = true then ((marlineref01_Equal.f k2 l0_8 l1_8).bind fun t155 => (some t155)) else (some false))) else (some false))) = some r := by rw [if_pos rfl] at H; exact H
                clear H
                have H := H1
                clear H1
                replace H := Option.bind_eq_some_iff.mp H
                obtain ⟨t153, A420, H⟩ := H
                replace H : (if t153 = true then ((marlineref01_Equal.f k2 l0_7 l1_7).bind fun t154 => (if t154 = true then ((marlineref01_Equal.f k2 l0_8 l1_8).bind fun t155 => (some t155)) else (some false))) else (some false)) = some r := H
                have A42 := Aside0.mk A420
                clear A420
                by_cases c43 : t153 = true
                · subst c43
                  have H1 : ((marlineref01_Equal.f k2 l0_7 l1_7).bind fun t154 => (if t154 = true then ((marlineref01_Equal.f k2 l0_8 l1_8).bind fun t155 => (some t155)) else (some false))) = some r := by rw [if_pos rfl] at H; exact H
                  clear H
                  have H := H1
                  clear H1
                  replace H := Option.bind_eq_some_iff.mp H
                  obtain ⟨t154, A440, H⟩ := H
                  replace H : (if t154 = true then ((marlineref01_Equal.f k2 l0_8 l1_8).bind fun t155 => (some t155)) else (some false)) = some r := H
                  have A44 := Aside0.mk A440
                  clear A440
                  by_cases c45 : t154 = true
                  · subst c45
                    have H1 : ((marlineref01_Equal.f k2 l0_8 l1_8).bind fun t155 => (some t155)) = some r := by rw [if_pos rfl] at H; exact H
                    clear H
                    have H := H1
                    clear H1
                    replace H := Option.bind_eq_some_iff.mp H
                    obtain ⟨t155, A460, H⟩ := H
                    replace H : (some t155) = some r := H
                    have A46 := Aside0.mk A460
                    clear A460
                    obtain rfl := Option.some.inj H
                    have hnb47 := NB148_149.out
                    have hnc47 := NB149_148.out
                    have hcz48_0 : wr.cell? ⟨gb148, 0, none⟩ = some (.int .u16 a0_0) := (blk_cell BK148.out 0).trans rfl
                    have hcz48_1 : wr.cell? ⟨gb148, 1, none⟩ = some (.int .u8 a0_1) := (blk_cell BK148.out 1).trans rfl
                    have hcz48_2 : wr.cell? ⟨gb148, 2, none⟩ = some (.int .u8 a0_2) := (blk_cell BK148.out 2).trans rfl
                    have hcz48_3 : wr.cell? ⟨gb148, 3, none⟩ = some (.slice A0_3 l0_3.length c0_3) := (blk_cell BK148.out 3).trans rfl
                    have hcz48_4 : wr.cell? ⟨gb148, 4, none⟩ = some (.int .u16 a0_4) := (blk_cell BK148.out 4).trans rfl
                    have hcz48_5 : wr.cell? ⟨gb148, 5, none⟩ = some (.int .u32 a0_5) := (blk_cell BK148.out 5).trans rfl
                    have hcz48_6 : wr.cell? ⟨gb148, 6, none⟩ = some (.slice A0_6 l0_6.length c0_6) := (blk_cell BK148.out 6).trans rfl
                    have hcz48_7 : wr.cell? ⟨gb148, 7, none⟩ = some (.slice A0_7 l0_7.length c0_7) := (blk_cell BK148.out 7).trans rfl
                    have hcz48_8 : wr.cell? ⟨gb148, 8, none⟩ = some (.slice A0_8 l0_8.length c0_8) := (blk_cell BK148.out 8).trans rfl
                    have hcz48_9 : wr.cell? ⟨gb148, 9, none⟩ = some (.slice A0_9 l0_9.length c0_9) := (blk_cell BK148.out 9).trans rfl
                    have hfz48_0 := blk_frozen BK148.out 0
                    have hfz48_1 := blk_frozen BK148.out 1
                    have hfz48_2 := blk_frozen BK148.out 2
                    have hfz48_3 := blk_frozen BK148.out 3
                    have hfz48_4 := blk_frozen BK148.out 4
                    have hfz48_5 := blk_frozen BK148.out 5
                    have hfz48_6 := blk_frozen BK148.out 6
                    have hfz48_7 := blk_frozen BK148.out 7
                    have hfz48_8 := blk_frozen BK148.out 8
                    have hfz48_9 := blk_frozen BK148.out 9
                    have hcz49_0 : wr.cell? ⟨gb149, 0, none⟩ = some (.int .u16 a1_0) := (blk_cell BK149.out 0).trans rfl
                    have hcz49_1 : wr.cell? ⟨gb149, 1, none⟩ = some (.int .u8 a1_1) := (blk_cell BK149.out 1).trans rfl
                    have hcz49_2 : wr.cell? ⟨gb149, 2, none⟩ = some (.int .u8 a1_2) := (blk_cell BK149.out 2).trans rfl
                    have hcz49_3 : wr.cell? ⟨gb149, 3, none⟩ = some (.slice A1_3 l1_3.length c1_3) := (blk_cell BK149.out 3).trans rfl
                    have hcz49_4 : wr.cell? ⟨gb149, 4, none⟩ = some (.int .u16 a1_4) := (blk_cell BK149.out 4).trans rfl
                    have hcz49_5 : wr.cell? ⟨gb149, 5, none⟩ = some (.int .u32 a1_5) := (blk_cell BK149.out 5).trans rfl
                    have hcz49_6 : wr.cell? ⟨gb149, 6, none⟩ = some (.slice A1_6 l1_6.length c1_6) := (blk_cell BK149.out 6).trans rfl
                    have hcz49_7 : wr.cell? ⟨gb149, 7, none⟩ = some (.slice A1_7 l1_7.length c1_7) := (blk_cell BK149.out 7).trans rfl
                    have hcz49_8 : wr.cell? ⟨gb149, 8, none⟩ = some (.slice A1_8 l1_8.length c1_8) := (blk_cell BK149.out 8).trans rfl
                    have hcz49_9 : wr.cell? ⟨gb149, 9, none⟩ = some (.slice A1_9 l1_9.length c1_9) := (blk_cell BK149.out 9).trans rfl
                    have hfz49_0 := blk_frozen BK149.out 0
                    have hfz49_1 := blk_frozen BK149.out 1
                    have hfz49_2 := blk_frozen BK149.out 2
                    have hfz49_3 := blk_frozen BK149.out 3
                    have hfz49_4 := blk_frozen BK149.out 4
                    have hfz49_5 := blk_frozen BK149.out 5
                    have hfz49_6 := blk_frozen BK149.out 6
                    have hfz49_7 := blk_frozen BK149.out 7
                    have hfz49_8 := blk_frozen BK149.out 8
                    have hfz49_9 := blk_frozen BK149.out 9
                    go_wp2_with (first | (go_at_call 34; (with_reducible refine (marlineref12_Same.calls k2 _ _ l0_3 _ _ l1_3 true _ ?side1 ?side2 ?side3 ?side4 A40.out).mono ?_); (case side1 => repeat (first | exact (Kd.C_below HR0_3.out HB.out) | (with_reducible refine Kd.C_alloc ?_ _) | (with_reducible refine Kd.C_drewN ?_ _) | (with_reducible refine Kd.C_drew ?_))); (case side2 => exact HC0_3.out); (case side3 => repeat (first | exact (Kd.C_below HR1_3.out HB.out) | (with_reducible refine Kd.C_alloc ?_ _) | (with_reducible refine Kd.C_drewN ?_ _) | (with_reducible refine Kd.C_drew ?_))); (case side4 => exact HC1_3.out); rintro e w' ⟨rfl, ⟨nd, rfl⟩⟩; (try first | exact ⟨rfl, _, World.drewN_drewN _ _ _⟩ | exact ⟨rfl, _, Eq.trans (World.drewN_drewN _ _ _) (congrArg (World.drewN _) (Nat.add_assoc _ _ _))⟩)) | (go_at_call 16; (with_reducible refine (marlineref01_Equal.calls k2 _ _ l0_6 _ _ l1_6 true _ ?side1 ?side2 ?side3 ?side4 A42.out).mono ?_); (case side1 => repeat (first | exact (Kd.C_below HR0_6.out (by repeat (first | (with_reducible first | exact HB.out | apply below_alloc | apply pw_below_drewN | apply below_drew1 | refine below_set ?_ GE148.out | refine below_set ?_ GE149.out) | exact HB.out))) | (with_reducible refine Kd.C_alloc ?_ _) | (with_reducible refine Kd.C_drewN ?_ _) | (with_reducible refine Kd.C_drew ?_))); (case side2 => exact HC0_6.out); (case side3 => repeat (first | exact (Kd.C_below HR1_6.out (by repeat (first | (with_reducible first | exact HB.out | apply below_alloc | apply pw_below_drewN | apply below_drew1 | refine below_set ?_ GE148.out | refine below_set ?_ GE149.out) | exact HB.out))) | (with_reducible refine Kd.C_alloc ?_ _) | (with_reducible refine Kd.C_drewN ?_ _) | (with_reducible refine Kd.C_drew ?_))); (case side4 => exact HC1_6.out); rintro e w' ⟨rfl, ⟨nd, rfl⟩⟩; (try first | exact ⟨rfl, _, World.drewN_drewN _ _ _⟩ | exact ⟨rfl, _, Eq.trans (World.drewN_drewN _ _ _) (congrArg (World.drewN _) (Nat.add_assoc _ _ _))⟩)) | (go_at_call 16; (with_reducible refine (marlineref01_Equal.calls k2 _ _ l0_7 _ _ l1_7 true _ ?side1 ?side2 ?side3 ?side4 A44.out).mono ?_); (case side1 => repeat (first | exact (Kd.C_below HR0_7.out (by repeat (first | (with_reducible first | exact HB.out | apply below_alloc | apply pw_below_drewN | apply below_drew1 | refine below_set ?_ GE148.out | refine below_set ?_ GE149.out) | exact HB.out))) | (with_reducible refine Kd.C_alloc ?_ _) | (with_reducible refine Kd.C_drewN ?_ _) | (with_reducible refine Kd.C_drew ?_))); (case side2 => exact HC0_7.out); (case side3 => repeat (first | exact (Kd.C_below HR1_7.out (by repeat (first | (with_reducible first | exact HB.out | apply below_alloc | apply pw_below_drewN | apply below_drew1 | refine below_set ?_ GE148.out | refine below_set ?_ GE149.out) | exact HB.out))) | (with_reducible refine Kd.C_alloc ?_ _) | (with_reducible refine Kd.C_drewN ?_ _) | (with_reducible refine Kd.C_drew ?_))); (case side4 => exact HC1_7.out); rintro e w' ⟨rfl, ⟨nd, rfl⟩⟩; (try first | exact ⟨rfl, _, World.drewN_drewN _ _ _⟩ | exact ⟨rfl, _, Eq.trans (World.drewN_drewN _ _ _) (congrArg (World.drewN _) (Nat.add_assoc _ _ _))⟩)) | (go_at_call 16; (with_reducible refine (marlineref01_Equal.calls k2 _ _ l0_8 _ _ l1_8 t155 _ ?side1 ?side2 ?side3 ?side4 A46.out).mono ?_); (case side1 => repeat (first | exact (Kd.C_below HR0_8.out (by repeat (first | (with_reducible first | exact HB.out | apply below_alloc | apply pw_below_drewN | apply below_drew1 | refine below_set ?_ GE148.out | refine below_set ?_ GE149.out) | exact HB.out))) | (with_reducible refine Kd.C_alloc ?_ _) | (with_reducible refine Kd.C_drewN ?_ _) | (with_reducible refine Kd.C_drew ?_))); (case side2 => exact HC0_8.out); (case side3 => repeat (first | exact (Kd.C_below HR1_8.out (by repeat (first | (with_reducible first | exact HB.out | apply below_alloc | apply pw_below_drewN | apply below_drew1 | refine below_set ?_ GE148.out | refine below_set ?_ GE149.out) | exact HB.out))) | (with_reducible refine Kd.C_alloc ?_ _) | (with_reducible refine Kd.C_drewN ?_ _) | (with_reducible refine Kd.C_drew ?_))); (case side4 => exact HC1_8.out); rintro e w' ⟨rfl, ⟨nd, rfl⟩⟩; (try first | exact ⟨rfl, _, World.drewN_drewN _ _ _⟩ | exact ⟨rfl, _, Eq.trans (World.drewN_drewN _ _ _) (congrArg (World.drewN _) (Nat.add_assoc _ _ _))⟩)))
                    repeat (go_quiet (first | (go_at_call 34; (with_reducible refine (marlineref12_Same.calls k2 _ _ l0_3 _ _ l1_3 true _ ?side1 ?side2 ?side3 ?side4 A40.out).mono ?_); (case side1 => repeat (first | exact (Kd.C_below HR0_3.out HB.out) | (with_reducible refine Kd.C_alloc ?_ _) | (with_reducible refine Kd.C_drewN ?_ _) | (with_reducible refine Kd.C_drew ?_))); (case side2 => exact HC0_3.out); (case side3 => repeat (first | exact (Kd.C_below HR1_3.out HB.out) | (with_reducible refine Kd.C_alloc ?_ _) | (with_reducible refine Kd.C_drewN ?_ _) | (with_reducible refine Kd.C_drew ?_))); (case side4 => exact HC1_3.out); rintro e w' ⟨rfl, ⟨nd, rfl⟩⟩; (try first | exact ⟨rfl, _, World.drewN_drewN _ _ _⟩ | exact ⟨rfl, _, Eq.trans (World.drewN_drewN _ _ _) (congrArg (World.drewN _) (Nat.add_assoc _ _ _))⟩)) | (go_at_call 16; (with_reducible refine (marlineref01_Equal.calls k2 _ _ l0_6 _ _ l1_6 true _ ?side1 ?side2 ?side3 ?side4 A42.out).mono ?_); (case side1 => repeat (first | exact (Kd.C_below HR0_6.out (by repeat (first | (with_reducible first | exact HB.out | apply below_alloc | apply pw_below_drewN | apply below_drew1 | refine below_set ?_ GE148.out | refine below_set ?_ GE149.out) | exact HB.out))) | (with_reducible refine Kd.C_alloc ?_ _) | (with_reducible refine Kd.C_drewN ?_ _) | (with_reducible refine Kd.C_drew ?_))); (case side2 => exact HC0_6.out); (case side3 => repeat (first | exact (Kd.C_below HR1_6.out (by repeat (first | (with_reducible first | exact HB.out | apply below_alloc | apply pw_below_drewN | apply below_drew1 | refine below_set ?_ GE148.out | refine below_set ?_ GE149.out) | exact HB.out))) | (with_reducible refine Kd.C_alloc ?_ _) | (with_reducible refine Kd.C_drewN ?_ _) | (with_reducible refine Kd.C_drew ?_))); (case side4 => exact HC1_6.out); rintro e w' ⟨rfl, ⟨nd, rfl⟩⟩; (try first | exact ⟨rfl, _, World.drewN_drewN _ _ _⟩ | exact ⟨rfl, _, Eq.trans (World.drewN_drewN _ _ _) (congrArg (World.drewN _) (Nat.add_assoc _ _ _))⟩)) | (go_at_call 16; (with_reducible refine (marlineref01_Equal.calls k2 _ _ l0_7 _ _ l1_7 true _ ?side1 ?side2 ?side3 ?side4 A44.out).mono ?_); (case side1 => repeat (first | exact (Kd.C_below HR0_7.out (by repeat (first | (with_reducible first | exact HB.out | apply below_alloc | apply pw_below_drewN | apply below_drew1 | refine below_set ?_ GE148.out | refine below_set ?_ GE149.out) | exact HB.out))) | (with_reducible refine Kd.C_alloc ?_ _) | (with_reducible refine Kd.C_drewN ?_ _) | (with_reducible refine Kd.C_drew ?_))); (case side2 => exact HC0_7.out); (case side3 => repeat (first | exact (Kd.C_below HR1_7.out (by repeat (first | (with_reducible first | exact HB.out | apply below_alloc | apply pw_below_drewN | apply below_drew1 | refine below_set ?_ GE148.out | refine below_set ?_ GE149.out) | exact HB.out))) | (with_reducible refine Kd.C_alloc ?_ _) | (with_reducible refine Kd.C_drewN ?_ _) | (with_reducible refine Kd.C_drew ?_))); (case side4 => exact HC1_7.out); rintro e w' ⟨rfl, ⟨nd, rfl⟩⟩; (try first | exact ⟨rfl, _, World.drewN_drewN _ _ _⟩ | exact ⟨rfl, _, Eq.trans (World.drewN_drewN _ _ _) (congrArg (World.drewN _) (Nat.add_assoc _ _ _))⟩)) | (go_at_call 16; (with_reducible refine (marlineref01_Equal.calls k2 _ _ l0_8 _ _ l1_8 t155 _ ?side1 ?side2 ?side3 ?side4 A46.out).mono ?_); (case side1 => repeat (first | exact (Kd.C_below HR0_8.out (by repeat (first | (with_reducible first | exact HB.out | apply below_alloc | apply pw_below_drewN | apply below_drew1 | refine below_set ?_ GE148.out | refine below_set ?_ GE149.out) | exact HB.out))) | (with_reducible refine Kd.C_alloc ?_ _) | (with_reducible refine Kd.C_drewN ?_ _) | (with_reducible refine Kd.C_drew ?_))); (case side2 => exact HC0_8.out); (case side3 => repeat (first | exact (Kd.C_below HR1_8.out (by repeat (first | (with_reducible first | exact HB.out | apply below_alloc | apply pw_below_drewN | apply below_drew1 | refine below_set ?_ GE148.out | refine below_set ?_ GE149.out) | exact HB.out))) | (with_reducible refine Kd.C_alloc ?_ _) | (with_reducible refine Kd.C_drewN ?_ _) | (with_reducible refine Kd.C_drew ?_))); (case side4 => exact HC1_8.out); rintro e w' ⟨rfl, ⟨nd, rfl⟩⟩; (try first | exact ⟨rfl, _, World.drewN_drewN _ _ _⟩ | exact ⟨rfl, _, Eq.trans (World.drewN_drewN _ _ _) (congrArg (World.drewN _) (Nat.add_assoc _ _ _))⟩))); try go_wp2_with (first | (go_at_call 34; (with_reducible refine (marlineref12_Same.calls k2 _ _ l0_3 _ _ l1_3 true _ ?side1 ?side2 ?side3 ?side4 A40.out).mono ?_); (case side1 => repeat (first | exact (Kd.C_below HR0_3.out HB.out) | (with_reducible refine Kd.C_alloc ?_ _) | (with_reducible refine Kd.C_drewN ?_ _) | (with_reducible refine Kd.C_drew ?_))); (case side2 => exact HC0_3.out); (case side3 => repeat (first | exact (Kd.C_below HR1_3.out HB.out) | (with_reducible refine Kd.C_alloc ?_ _) | (with_reducible refine Kd.C_drewN ?_ _) | (with_reducible refine Kd.C_drew ?_))); (case side4 => exact HC1_3.out); rintro e w' ⟨rfl, ⟨nd, rfl⟩⟩; (try first | exact ⟨rfl, _, World.drewN_drewN _ _ _⟩ | exact ⟨rfl, _, Eq.trans (World.drewN_drewN _ _ _) (congrArg (World.drewN _) (Nat.add_assoc _ _ _))⟩)) | (go_at_call 16; (with_reducible refine (marlineref01_Equal.calls k2 _ _ l0_6 _ _ l1_6 true _ ?side1 ?side2 ?side3 ?side4 A42.out).mono ?_); (case side1 => repeat (first | exact (Kd.C_below HR0_6.out (by repeat (first | (with_reducible first | exact HB.out | apply below_alloc | apply pw_below_drewN | apply below_drew1 | refine below_set ?_ GE148.out | refine below_set ?_ GE149.out) | exact HB.out))) | (with_reducible refine Kd.C_alloc ?_ _) | (with_reducible refine Kd.C_drewN ?_ _) | (with_reducible refine Kd.C_drew ?_))); (case side2 => exact HC0_6.out); (case side3 => repeat (first | exact (Kd.C_below HR1_6.out (by repeat (first | (with_reducible first | exact HB.out | apply below_alloc | apply pw_below_drewN | apply below_drew1 | refine below_set ?_ GE148.out | refine below_set ?_ GE149.out) | exact HB.out))) | (with_reducible refine Kd.C_alloc ?_ _) | (with_reducible refine Kd.C_drewN ?_ _) | (with_reducible refine Kd.C_drew ?_))); (case side4 => exact HC1_6.out); rintro e w' ⟨rfl, ⟨nd, rfl⟩⟩; (try first | exact ⟨rfl, _, World.drewN_drewN _ _ _⟩ | exact ⟨rfl, _, Eq.trans (World.drewN_drewN _ _ _) (congrArg (World.drewN _) (Nat.add_assoc _ _ _))⟩)) | (go_at_call 16; (with_reducible refine (marlineref01_Equal.calls k2 _ _ l0_7 _ _ l1_7 true _ ?side1 ?side2 ?side3 ?side4 A44.out).mono ?_); (case side1 => repeat (first | exact (Kd.C_below HR0_7.out (by repeat (first | (with_reducible first | exact HB.out | apply below_alloc | apply pw_below_drewN | apply below_drew1 | refine below_set ?_ GE148.out | refine below_set ?_ GE149.out) | exact HB.out))) | (with_reducible refine Kd.C_alloc ?_ _) | (with_reducible refine Kd.C_drewN ?_ _) | (with_reducible refine Kd.C_drew ?_))); (case side2 => exact HC0_7.out); (case side3 => repeat (first | exact (Kd.C_below HR1_7.out (by repeat (first | (with_reducible first | exact HB.out | apply below_alloc | apply pw_below_drewN | apply below_drew1 | refine below_set ?_ GE148.out | refine below_set ?_ GE149.out) | exact HB.out))) | (with_reducible refine Kd.C_alloc ?_ _) | (with_reducible refine Kd.C_drewN ?_ _) | (with_reducible refine Kd.C_drew ?_))); (case side4 => exact HC1_7.out); rintro e w' ⟨rfl, ⟨nd, rfl⟩⟩; (try first | exact ⟨rfl, _, World.drewN_drewN _ _ _⟩ | exact ⟨rfl, _, Eq.trans (World.drewN_drewN _ _ _) (congrArg (World.drewN _) (Nat.add_assoc _ _ _))⟩)) | (go_at_call 16; (with_reducible refine (marlineref01_Equal.calls k2 _ _ l0_8 _ _ l1_8 t155 _ ?side1 ?side2 ?side3 ?side4 A46.out).mono ?_); (case side1 => repeat (first | exact (Kd.C_below HR0_8.out (by repeat (first | (with_reducible first | exact HB.out | apply below_alloc | apply pw_below_drewN | apply below_drew1 | refine below_set ?_ GE148.out | refine below_set ?_ GE149.out) | exact HB.out))) | (with_reducible refine Kd.C_alloc ?_ _) | (with_reducible refine Kd.C_drewN ?_ _) | (with_reducible refine Kd.C_drew ?_))); (case side2 => exact HC0_8.out); (case side3 => repeat (first | exact (Kd.C_below HR1_8.out (by repeat (first | (with_reducible first | exact HB.out | apply below_alloc | apply pw_below_drewN | apply below_drew1 | refine below_set ?_ GE148.out | refine below_set ?_ GE149.out) | exact HB.out))) | (with_reducible refine Kd.C_alloc ?_ _) | (with_reducible refine Kd.C_drewN ?_ _) | (with_reducible refine Kd.C_drew ?_))); (case side4 => exact HC1_8.out); rintro e w' ⟨rfl, ⟨nd, rfl⟩⟩; (try first | exact ⟨rfl, _, World.drewN_drewN _ _ _⟩ | exact ⟨rfl, _, Eq.trans (World.drewN_drewN _ _ _) (congrArg (World.drewN _) (Nat.add_assoc _ _ _))⟩))))
                    go_ret
                    exact ⟨by first | rfl | (simp [errW_none, errW_some] <;> rfl) | (simp [*, errW_none, errW_some] <;> rfl), by repeat (first | (with_reducible first | exact HB.out | apply below_alloc | apply pw_below_drewN | apply below_drew1 | refine below_set ?_ GE148.out | refine below_set ?_ GE149.out) | exact HB.out)⟩
                  · replace c45 := Bool.eq_false_iff.mpr c45
                    subst c45
                    have H1 : (some false) = some r := by rw [if_neg (show ¬ (false = true) by decide)] at H; exact H
                    clear H
                    have H := H1
                    clear H1
                    obtain rfl := Option.some.inj H
                    have hnb50 := NB148_149.out
                    have hnc50 := NB149_148.out
                    have hcz51_0 : wr.cell? ⟨gb148, 0, none⟩ = some (.int .u16 a0_0) := (blk_cell BK148.out 0).trans rfl
                    have hcz51_1 : wr.cell? ⟨gb148, 1, none⟩ = some (.int .u8 a0_1) := (blk_cell BK148.out 1).trans rfl
                    have hcz51_2 : wr.cell? ⟨gb148, 2, none⟩ = some (.int .u8 a0_2) := (blk_cell BK148.out 2).trans rfl
                    have hcz51_3 : wr.cell? ⟨gb148, 3, none⟩ = some (.slice A0_3 l0_3.length c0_3) := (blk_cell BK148.out 3).trans rfl
                    have hcz51_4 : wr.cell? ⟨gb148, 4, none⟩ = some (.int .u16 a0_4) := (blk_cell BK148.out 4).trans rfl
                    have hcz51_5 : wr.cell? ⟨gb148, 5, none⟩ = some (.int .u32 a0_5) := (blk_cell BK148.out 5).trans rfl
                    have hcz51_6 : wr.cell? ⟨gb148, 6, none⟩ = some (.slice A0_6 l0_6.length c0_6) := (blk_cell BK148.out 6).trans rfl
                    have hcz51_7 : wr.cell? ⟨gb148, 7, none⟩ = some (.slice A0_7 l0_7.length c0_7) := (blk_cell BK148.out 7).trans rfl
                    have hcz51_8 : wr.cell? ⟨gb148, 8, none⟩ = some (.slice A0_8 l0_8.length c0_8) := (blk_cell BK148.out 8).trans rfl
                    have hcz51_9 : wr.cell? ⟨gb148, 9, none⟩ = some (.slice A0_9 l0_9.length c0_9) := (blk_cell BK148.out 9).trans rfl
                    have hfz51_0 := blk_frozen BK148.out 0
                    have hfz51_1 := blk_frozen BK148.out 1
                    have hfz51_2 := blk_frozen BK148.out 2
                    have hfz51_3 := blk_frozen BK148.out 3
                    have hfz51_4 := blk_frozen BK148.out 4
                    have hfz51_5 := blk_frozen BK148.out 5
                    have hfz51_6 := blk_frozen BK148.out 6
                    have hfz51_7 := blk_frozen BK148.out 7
                    have hfz51_8 := blk_frozen BK148.out 8
                    have hfz51_9 := blk_frozen BK148.out 9
                    have hcz52_0 : wr.cell? ⟨gb149, 0, none⟩ = some (.int .u16 a1_0) := (blk_cell BK149.out 0).trans rfl
                    have hcz52_1 : wr.cell? ⟨gb149, 1, none⟩ = some (.int .u8 a1_1) := (blk_cell BK149.out 1).trans rfl
                    have hcz52_2 : wr.cell? ⟨gb149, 2, none⟩ = some (.int .u8 a1_2) := (blk_cell BK149.out 2).trans rfl
                    have hcz52_3 : wr.cell? ⟨gb149, 3, none⟩ = some (.slice A1_3 l1_3.length c1_3) := (blk_cell BK149.out 3).trans rfl
                    have hcz52_4 : wr.cell? ⟨gb149, 4, none⟩ = some (.int .u16 a1_4) := (blk_cell BK149.out 4).trans rfl
                    have hcz52_5 : wr.cell? ⟨gb149, 5, none⟩ = some (.int .u32 a1_5) := (blk_cell BK149.out 5).trans rfl
                    have hcz52_6 : wr.cell? ⟨gb149, 6, none⟩ = some (.slice A1_6 l1_6.length c1_6) := (blk_cell BK149.out 6).trans rfl
                    have hcz52_7 : wr.cell? ⟨gb149, 7, none⟩ = some (.slice A1_7 l1_7.length c1_7) := (blk_cell BK149.out 7).trans rfl
                    have hcz52_8 : wr.cell? ⟨gb149, 8, none⟩ = some (.slice A1_8 l1_8.length c1_8) := (blk_cell BK149.out 8).trans rfl
                    have hcz52_9 : wr.cell? ⟨gb149, 9, none⟩ = some (.slice A1_9 l1_9.length c1_9) := (blk_cell BK149.out 9).trans rfl
                    have hfz52_0 := blk_frozen BK149.out 0
                    have hfz52_1 := blk_frozen BK149.out 1
                    have hfz52_2 := blk_frozen BK149.out 2
                    have hfz52_3 := blk_frozen BK149.out 3
                    have hfz52_4 := blk_frozen BK149.out 4
                    have hfz52_5 := blk_frozen BK149.out 5
                    have hfz52_6 := blk_frozen BK149.out 6
                    have hfz52_7 := blk_frozen BK149.out 7
                    have hfz52_8 := blk_frozen BK149.out 8
                    have hfz52_9 := blk_frozen BK149.out 9
                    go_wp2_with (first | (go_at_call 34; (with_reducible refine (marlineref12_Same.calls k2 _ _ l0_3 _ _ l1_3 true _ ?side1 ?side2 ?side3 ?side4 A40.out).mono ?_); (case side1 => repeat (first | exact (Kd.C_below HR0_3.out HB.out) | (with_reducible refine Kd.C_alloc ?_ _) | (with_reducible refine Kd.C_drewN ?_ _) | (with_reducible refine Kd.C_drew ?_))); (case side2 => exact HC0_3.out); (case side3 => repeat (first | exact (Kd.C_below HR1_3.out HB.out) | (with_reducible refine Kd.C_alloc ?_ _) | (with_reducible refine Kd.C_drewN ?_ _) | (with_reducible refine Kd.C_drew ?_))); (case side4 => exact HC1_3.out); rintro e w' ⟨rfl, ⟨nd, rfl⟩⟩; (try first | exact ⟨rfl, _, World.drewN_drewN _ _ _⟩ | exact ⟨rfl, _, Eq.trans (World.drewN_drewN _ _ _) (congrArg (World.drewN _) (Nat.add_assoc _ _ _))⟩)) | (go_at_call 16; (with_reducible refine (marlineref01_Equal.calls k2 _ _ l0_6 _ _ l1_6 true _ ?side1 ?side2 ?side3 ?side4 A42.out).mono ?_); (case side1 => repeat (first | exact (Kd.C_below HR0_6.out (by repeat (first | (with_reducible first | exact HB.out | apply below_alloc | apply pw_below_drewN | apply below_drew1 | refine below_set ?_ GE148.out | refine below_set ?_ GE149.out) | exact HB.out))) | (with_reducible refine Kd.C_alloc ?_ _) | (with_reducible refine Kd.C_drewN ?_ _) | (with_reducible refine Kd.C_drew ?_))); (case side2 => exact HC0_6.out); (case side3 => repeat (first | exact (Kd.C_below HR1_6.out (by repeat (first | (with_reducible first | exact HB.out | apply below_alloc | apply pw_below_drewN | apply below_drew1 | refine below_set ?_ GE148.out | refine below_set ?_ GE149.out) | exact HB.out))) | (with_reducible refine Kd.C_alloc ?_ _) | (with_reducible refine Kd.C_drewN ?_ _) | (with_reducible refine Kd.C_drew ?_))); (case side4 => exact HC1_6.out); rintro e w' ⟨rfl, ⟨nd, rfl⟩⟩; (try first | exact ⟨rfl, _, World.drewN_drewN _ _ _⟩ | exact ⟨rfl, _, Eq.trans (World.drewN_drewN _ _ _) (congrArg (World.drewN _) (Nat.add_assoc _ _ _))⟩)) | (go_at_call 16; (with_reducible refine (marlineref01_Equal.calls k2 _ _ l0_7 _ _ l1_7 false _ ?side1 ?side2 ?side3 ?side4 A44.out).mono ?_); (case side1 => repeat (first | exact (Kd.C_below HR0_7.out (by repeat (first | (with_reducible first | exact HB.out | apply below_alloc | apply pw_below_drewN | apply below_drew1 | refine below_set ?_ GE148.out | refine below_set ?_ GE149.out) | exact HB.out))) | (with_reducible refine Kd.C_alloc ?_ _) | (with_reducible refine Kd.C_drewN ?_ _) | (with_reducible refine Kd.C_drew ?_))); (case side2 => exact HC0_7.out); (case side3 => repeat (first | exact (Kd.C_below HR1_7.out (by repeat (first | (with_reducible first | exact HB.out | apply below_alloc | apply pw_below_drewN | apply below_drew1 | refine below_set ?_ GE148.out | refine below_set ?_ GE149.out) | exact HB.out))) | (with_reducible refine Kd.C_alloc ?_ _) | (with_reducible refine Kd.C_drewN ?_ _) | (with_reducible refine Kd.C_drew ?_))); (case side4 => exact HC1_7.out); rintro e w' ⟨rfl, ⟨nd, rfl⟩⟩; (try first | exact ⟨rfl, _, World.drewN_drewN _ _ _⟩ | exact ⟨rfl, _, Eq.trans (World.drewN_drewN _ _ _) (congrArg (World.drewN _) (Nat.add_assoc _ _ _))⟩)))
                    repeat (go_quiet (first | (go_at_call 34; (with_reducible refine (marlineref12_Same.calls k2 _ _ l0_3 _ _ l1_3 true _ ?side1 ?side2 ?side3 ?side4 A40.out).mono ?_); (case side1 => repeat (first | exact (Kd.C_below HR0_3.out HB.out) | (with_reducible refine Kd.C_alloc ?_ _) | (with_reducible refine Kd.C_drewN ?_ _) | (with_reducible refine Kd.C_drew ?_))); (case side2 => exact HC0_3.out); (case side3 => repeat (first | exact (Kd.C_below HR1_3.out HB.out) | (with_reducible refine Kd.C_alloc ?_ _) | (with_reducible refine Kd.C_drewN ?_ _) | (with_reducible refine Kd.C_drew ?_))); (case side4 => exact HC1_3.out); rintro e w' ⟨rfl, ⟨nd, rfl⟩⟩; (try first | exact ⟨rfl, _, World.drewN_drewN _ _ _⟩ | exact ⟨rfl, _, Eq.trans (World.drewN_drewN _ _ _) (congrArg (World.drewN _) (Nat.add_assoc _ _ _))⟩)) | (go_at_call 16; (with_reducible refine (marlineref01_Equal.calls k2 _ _ l0_6 _ _ l1_6 true _ ?side1 ?side2 ?side3 ?side4 A42.out).mono ?_); (case side1 => repeat (first | exact (Kd.C_below HR0_6.out (by repeat (first | (with_reducible first | exact HB.out | apply below_alloc | apply pw_below_drewN | apply below_drew1 | refine below_set ?_ GE148.out | refine below_set ?_ GE149.out) | exact HB.out))) | (with_reducible refine Kd.C_alloc ?_ _) | (with_reducible refine Kd.C_drewN ?_ _) | (with_reducible refine Kd.C_drew ?_))); (case side2 => exact HC0_6.out); (case side3 => repeat (first | exact (Kd.C_below HR1_6.out (by repeat (first | (with_reducible first | exact HB.out | apply below_alloc | apply pw_below_drewN | apply below_drew1 | refine below_set ?_ GE148.out | refine below_set ?_ GE149.out) | exact HB.out))) | (with_reducible refine Kd.C_alloc ?_ _) | (with_reducible refine Kd.C_drewN ?_ _) | (with_reducible refine Kd.C_drew ?_))); (case side4 => exact HC1_6.out); rintro e w' ⟨rfl, ⟨nd, rfl⟩⟩; (try first | exact ⟨rfl, _, World.drewN_drewN _ _ _⟩ | exact ⟨rfl, _, Eq.trans (World.drewN_drewN _ _ _) (congrArg (World.drewN _) (Nat.add_assoc _ _ _))⟩)) | (go_at_call 16; (with_reducible refine (marlineref01_Equal.calls k2 _ _ l0_7 _ _ l1_7 false _ ?side1 ?side2 ?side3 ?side4 A44.out).mono ?_); (case side1 => repeat (first | exact (Kd.C_below HR0_7.out (by repeat (first | (with_reducible first | exact HB.out | apply below_alloc | apply pw_below_drewN | apply below_drew1 | refine below_set ?_ GE148.out | refine below_set ?_ GE149.out) | exact HB.out))) | (with_reducible refine Kd.C_alloc ?_ _) | (with_reducible refine Kd.C_drewN ?_ _) | (with_reducible refine Kd.C_drew ?_))); (case side2 => exact HC0_7.out); (case side3 => repeat (first | exact (Kd.C_below HR1_7.out (by repeat (first | (with_reducible first | exact HB.out | apply below_alloc | apply pw_below_drewN | apply below_drew1 | refine below_set ?_ GE148.out | refine below_set ?_ GE149.out) | exact HB.out))) | (with_reducible refine Kd.C_alloc ?_ _) | (with_reducible refine Kd.C_drewN ?_ _) | (with_reducible refine Kd.C_drew ?_))); (case side4 => exact HC1_7.out); rintro e w' ⟨rfl, ⟨nd, rfl⟩⟩; (try first | exact ⟨rfl, _, World.drewN_drewN _ _ _⟩ | exact ⟨rfl, _, Eq.trans (World.drewN_drewN _ _ _) (congrArg (World.drewN _) (Nat.add_assoc _ _ _))⟩))); try go_wp2_with (first | (go_at_call 34; (with_reducible refine (marlineref12_Same.calls k2 _ _ l0_3 _ _ l1_3 true _ ?side1 ?side2 ?side3 ?side4 A40.out).mono ?_); (case side1 => repeat (first | exact (Kd.C_below HR0_3.out HB.out) | (with_reducible refine Kd.C_alloc ?_ _) | (with_reducible refine Kd.C_drewN ?_ _) | (with_reducible refine Kd.C_drew ?_))); (case side2 => exact HC0_3.out); (case side3 => repeat (first | exact (Kd.C_below HR1_3.out HB.out) | (with_reducible refine Kd.C_alloc ?_ _) | (with_reducible refine Kd.C_drewN ?_ _) | (with_reducible refine Kd.C_drew ?_))); (case side4 => exact HC1_3.out); rintro e w' ⟨rfl, ⟨nd, rfl⟩⟩; (try first | exact ⟨rfl, _, World.drewN_drewN _ _ _⟩ | exact ⟨rfl, _, Eq.trans (World.drewN_drewN _ _ _) (congrArg (World.drewN _) (Nat.add_assoc _ _ _))⟩)) | (go_at_call 16; (with_reducible refine (marlineref01_Equal.calls k2 _ _ l0_6 _ _ l1_6 true _ ?side1 ?side2 ?side3 ?side4 A42.out).mono ?_); (case side1 => repeat (first | exact (Kd.C_below HR0_6.out (by repeat (first | (with_reducible first | exact HB.out | apply below_alloc | apply pw_below_drewN | apply below_drew1 | refine below_set ?_ GE148.out | refine below_set ?_ GE149.out) | exact HB.out))) | (with_reducible refine Kd.C_alloc ?_ _) | (with_reducible refine Kd.C_drewN ?_ _) | (with_reducible refine Kd.C_drew ?_))); (case side2 => exact HC0_6.out); (case side3 => repeat (first | exact (Kd.C_below HR1_6.out (by repeat (first | (with_reducible first | exact HB.out | apply below_alloc | apply pw_below_drewN | apply below_drew1 | refine below_set ?_ GE148.out | refine below_set ?_ GE149.out) | exact HB.out))) | (with_reducible refine Kd.C_alloc ?_ _) | (with_reducible refine Kd.C_drewN ?_ _) | (with_reducible refine Kd.C_drew ?_))); (case side4 => exact HC1_6.out); rintro e w' ⟨rfl, ⟨nd, rfl⟩⟩; (try first | exact ⟨rfl, _, World.drewN_drewN _ _ _⟩ | exact ⟨rfl, _, Eq.trans (World.drewN_drewN _ _ _) (congrArg (World.drewN _) (Nat.add_assoc _ _ _))⟩)) | (go_at_call 16; (with_reducible refine (marlineref01_Equal.calls k2 _ _ l0_7 _ _ l1_7 false _ ?side1 ?side2 ?side3 ?side4 A44.out).mono ?_); (case side1 => repeat (first | exact (Kd.C_below HR0_7.out (by repeat (first | (with_reducible first | exact HB.out | apply below_alloc | apply pw_below_drewN | apply below_drew1 | refine below_set ?_ GE148.out | refine below_set ?_ GE149.out) | exact HB.out))) | (with_reducible refine Kd.C_alloc ?_ _) | (with_reducible refine Kd.C_drewN ?_ _) | (with_reducible refine Kd.C_drew ?_))); (case side2 => exact HC0_7.out); (case side3 => repeat (first | exact (Kd.C_below HR1_7.out (by repeat (first | (with_reducible first | exact HB.out | apply below_alloc | apply pw_below_drewN | apply below_drew1 | refine below_set ?_ GE148.out | refine below_set ?_ GE149.out) | exact HB.out))) | (with_reducible refine Kd.C_alloc ?_ _) | (with_reducible refine Kd.C_drewN ?_ _) | (with_reducible refine Kd.C_drew ?_))); (case side4 => exact HC1_7.out); rintro e w' ⟨rfl, ⟨nd, rfl⟩⟩; (try first | exact ⟨rfl, _, World.drewN_drewN _ _ _⟩ | exact ⟨rfl, _, Eq.trans (World.drewN_drewN _ _ _) (congrArg (World.drewN _) (Nat.add_assoc _ _ _))⟩))))
                    go_ret
                    exact ⟨by first | rfl | (simp [errW_none, errW_some] <;> rfl) | (simp [*, errW_none, errW_some] <;> rfl), by repeat (first | (with_reducible first | exact HB.out | apply below_alloc | apply pw_below_drewN | apply below_drew1 | refine below_set ?_ GE148.out | refine below_set ?_ GE149.out) | exact HB.out)⟩
                · replace c43 := Bool.eq_false_iff.mpr c43
                  subst c43
                  have H1 : (some false) = some r := by rw [if_neg (show ¬ (false = true) by decide)] at H; exact H
                  clear H
                  have H := H1
                  clear H1
                  obtain rfl := Option.some.inj H
                  have hnb53 := NB148_149.out
                  have hnc53 := NB149_148.out
                  have hcz54_0 : wr.cell? ⟨gb148, 0, none⟩ = some (.int .u16 a0_0) := (blk_cell BK148.out 0).trans rfl
                  have hcz54_1 : wr.cell? ⟨gb148, 1, none⟩ = some (.int .u8 a0_1) := (blk_cell BK148.out 1).trans rfl
                  have hcz54_2 : wr.cell? ⟨gb148, 2, none⟩ = some (.int .u8 a0_2) := (blk_cell BK148.out 2).trans rfl
                  have hcz54_3 : wr.cell? ⟨gb148, 3, none⟩ = some (.slice A0_3 l0_3.length c0_3) := (blk_cell BK148.out 3).trans rfl
                  have hcz54_4 : wr.cell? ⟨gb148, 4, none⟩ = some (.int .u16 a0_4) := (blk_cell BK148.out 4).trans rfl
                  have hcz54_5 : wr.cell? ⟨gb148, 5, none⟩ = some (.int .u32 a0_5) := (blk_cell BK148.out 5).trans rfl
                  have hcz54_6 : wr.cell? ⟨gb148, 6, none⟩ = some (.slice A0_6 l0_6.length c0_6) := (blk_cell BK148.out 6).trans rfl
                  have hcz54_7 : wr.cell? ⟨gb148, 7, none⟩ = some (.slice A0_7 l0_7.length c0_7) := (blk_cell BK148.out 7).trans rfl
                  have hcz54_8 : wr.cell? ⟨gb148, 8, none⟩ = some (.slice A0_8 l0_8.length c0_8) := (blk_cell BK148.out 8).trans rfl
                  have hcz54_9 : wr.cell? ⟨gb148, 9, none⟩ = some (.slice A0_9 l0_9.length c0_9) := (blk_cell BK148.out 9).trans rfl
                  have hfz54_0 := blk_frozen BK148.out 0
                  have hfz54_1 := blk_frozen BK148.out 1
                  have hfz54_2 := blk_frozen BK148.out 2
                  have hfz54_3 := blk_frozen BK148.out 3
                  have hfz54_4 := blk_frozen BK148.out 4
                  have hfz54_5 := blk_frozen BK148.out 5
                  have hfz54_6 := blk_frozen BK148.out 6
                  have hfz54_7 := blk_frozen BK148.out 7
                  have hfz54_8 := blk_frozen BK148.out 8
                  have hfz54_9 := blk_frozen BK148.out 9
                  have hcz55_0 : wr.cell? ⟨gb149, 0, none⟩ = some (.int .u16 a1_0) := (blk_cell BK149.out 0).trans rfl
                  have hcz55_1 : wr.cell? ⟨gb149, 1, none⟩ = some (.int .u8 a1_1) := (blk_cell BK149.out 1).trans rfl
                  have hcz55_2 : wr.cell? ⟨gb149, 2, none⟩ = some (.int .u8 a1_2) := (blk_cell BK149.out 2).trans rfl
                  have hcz55_3 : wr.cell? ⟨gb149, 3, none⟩ = some (.slice A1_3 l1_3.length c1_3) := (blk_cell BK149.out 3).trans rfl
                  have hcz55_4 : wr.cell? ⟨gb149, 4, none⟩ = some (.int .u16 a1_4) := (blk_cell BK149.out 4).trans rfl
                  have hcz55_5 : wr.cell? ⟨gb149, 5, none⟩ = some (.int .u32 a1_5) := (blk_cell BK149.out 5).trans rfl
                  have hcz55_6 : wr.cell? ⟨gb149, 6, none⟩ = some (.slice A1_6 l1_6.length c1_6) := (blk_cell BK149.out 6).trans rfl
                  have hcz55_7 : wr.cell? ⟨gb149, 7, none⟩ = some (.slice A1_7 l1_7.length c1_7) := (blk_cell BK149.out 7).trans rfl
                  have hcz55_8 : wr.cell? ⟨gb149, 8, none⟩ = some (.slice A1_8 l1_8.length c1_8) := (blk_cell BK149.out 8).trans rfl
                  have hcz55_9 : wr.cell? ⟨gb149, 9, none⟩ = some (.slice A1_9 l1_9.length c1_9) := (blk_cell BK149.out 9).trans rfl
                  have hfz55_0 := blk_frozen BK149.out 0
                  have hfz55_1 := blk_frozen BK149.out 1
                  have hfz55_2 := blk_frozen BK149.out 2
                  have hfz55_3 := blk_frozen BK149.out 3
                  have hfz55_4 := blk_frozen BK149.out 4
                  have hfz55_5 := blk_frozen BK149.out 5
                  have hfz55_6 := blk_frozen BK149.out 6
                  have hfz55_7 := blk_frozen BK149.out 7
                  have hfz55_8 := blk_frozen BK149.out 8
                  have hfz55_9 := blk_frozen BK149.out 9
                  go_wp2_with (first | (go_at_call 34; (with_reducible refine (marlineref12_Same.calls k2 _ _ l0_3 _ _ l1_3 true _ ?side1 ?side2 ?side3 ?side4 A40.out).mono ?_); (case side1 => repeat (first | exact (Kd.C_below HR0_3.out HB.out) | (with_reducible refine Kd.C_alloc ?_ _) | (with_reducible refine Kd.C_drewN ?_ _) | (with_reducible refine Kd.C_drew ?_))); (case side2 => exact HC0_3.out); (case side3 => repeat (first | exact (Kd.C_below HR1_3.out HB.out) | (with_reducible refine Kd.C_alloc ?_ _) | (with_reducible refine Kd.C_drewN ?_ _) | (with_reducible refine Kd.C_drew ?_))); (case side4 => exact HC1_3.out); rintro e w' ⟨rfl, ⟨nd, rfl⟩⟩; (try first | exact ⟨rfl, _, World.drewN_drewN _ _ _⟩ | exact ⟨rfl, _, Eq.trans (World.drewN_drewN _ _ _) (congrArg (World.drewN _) (Nat.add_assoc _ _ _))⟩)) | (go_at_call 16; (with_reducible refine (marlineref01_Equal.calls k2 _ _ l0_6 _ _ l1_6 false _ ?side1 ?side2 ?side3 ?side4 A42.out).mono ?_); (case side1 => repeat (first | exact (Kd.C_below HR0_6.out (by repeat (first | (with_reducible first | exact HB.out | apply below_alloc | apply pw_below_drewN | apply below_drew1 | refine below_set ?_ GE148.out | refine below_set ?_ GE149.out) | exact HB.out))) | (with_reducible refine Kd.C_alloc ?_ _) | (with_reducible refine Kd.C_drewN ?_ _) | (with_reducible refine Kd.C_drew ?_))); (case side2 => exact HC0_6.out); (case side3 => repeat (first | exact (Kd.C_below HR1_6.out (by repeat (first | (with_reducible first | exact HB.out | apply below_alloc | apply pw_below_drewN | apply below_drew1 | refine below_set ?_ GE148.out | refine below_set ?_ GE149.out) | exact HB.out))) | (with_reducible refine Kd.C_alloc ?_ _) | (with_reducible refine Kd.C_drewN ?_ _) | (with_reducible refine Kd.C_drew ?_))); (case side4 => exact HC1_6.out); rintro e w' ⟨rfl, ⟨nd, rfl⟩⟩; (try first | exact ⟨rfl, _, World.drewN_drewN _ _ _⟩ | exact ⟨rfl, _, Eq.trans (World.drewN_drewN _ _ _) (congrArg (World.drewN _) (Nat.add_assoc _ _ _))⟩)))
                  repeat (go_quiet (first | (go_at_call 34; (with_reducible refine (marlineref12_Same.calls k2 _ _ l0_3 _ _ l1_3 true _ ?side1 ?side2 ?side3 ?side4 A40.out).mono ?_); (case side1 => repeat (first | exact (Kd.C_below HR0_3.out HB.out) | (with_reducible refine Kd.C_alloc ?_ _) | (with_reducible refine Kd.C_drewN ?_ _) | (with_reducible refine Kd.C_drew ?_))); (case side2 => exact HC0_3.out); (case side3 => repeat (first | exact (Kd.C_below HR1_3.out HB.out) | (with_reducible refine Kd.C_alloc ?_ _) | (with_reducible refine Kd.C_drewN ?_ _) | (with_reducible refine Kd.C_drew ?_))); (case side4 => exact HC1_3.out); rintro e w' ⟨rfl, ⟨nd, rfl⟩⟩; (try first | exact ⟨rfl, _, World.drewN_drewN _ _ _⟩ | exact ⟨rfl, _, Eq.trans (World.drewN_drewN _ _ _) (congrArg (World.drewN _) (Nat.add_assoc _ _ _))⟩)) | (go_at_call 16; (with_reducible refine (marlineref01_Equal.calls k2 _ _ l0_6 _ _ l1_6 false _ ?side1 ?side2 ?side3 ?side4 A42.out).mono ?_); (case side1 => repeat (first | exact (Kd.C_below HR0_6.out (by repeat (first | (with_reducible first | exact HB.out | apply below_alloc | apply pw_below_drewN | apply below_drew1 | refine below_set ?_ GE148.out | refine below_set ?_ GE149.out) | exact HB.out))) | (with_reducible refine Kd.C_alloc ?_ _) | (with_reducible refine Kd.C_drewN ?_ _) | (with_reducible refine Kd.C_drew ?_))); (case side2 => exact HC0_6.out); (case side3 => repeat (first | exact (Kd.C_below HR1_6.out (by repeat (first | (with_reducible first | exact HB.out | apply below_alloc | apply pw_below_drewN | apply below_drew1 | refine below_set ?_ GE148.out | refine below_set ?_ GE149.out) | exact HB.out))) | (with_reducible refine Kd.C_alloc ?_ _) | (with_reducible refine Kd.C_drewN ?_ _) | (with_reducible refine Kd.C_drew ?_))); (case side4 => exact HC1_6.out); rintro e w' ⟨rfl, ⟨nd, rfl⟩⟩; (try first | exact ⟨rfl, _, World.drewN_drewN _ _ _⟩ | exact ⟨rfl, _, Eq.trans (World.drewN_drewN _ _ _) (congrArg (World.drewN _) (Nat.add_assoc _ _ _))⟩))); try go_wp2_with (first | (go_at_call 34; (with_reducible refine (marlineref12_Same.calls k2 _ _ l0_3 _ _ l1_3 true _ ?side1 ?side2 ?side3 ?side4 A40.out).mono ?_); (case side1 => repeat (first | exact (Kd.C_below HR0_3.out HB.out) | (with_reducible refine Kd.C_alloc ?_ _) | (with_reducible refine Kd.C_drewN ?_ _) | (with_reducible refine Kd.C_drew ?_))); (case side2 => exact HC0_3.out); (case side3 => repeat (first | exact (Kd.C_below HR1_3.out HB.out) | (with_reducible refine Kd.C_alloc ?_ _) | (with_reducible refine Kd.C_drewN ?_ _) | (with_reducible refine Kd.C_drew ?_))); (case side4 => exact HC1_3.out); rintro e w' ⟨rfl, ⟨nd, rfl⟩⟩; (try first | exact ⟨rfl, _, World.drewN_drewN _ _ _⟩ | exact ⟨rfl, _, Eq.trans (World.drewN_drewN _ _ _) (congrArg (World.drewN _) (Nat.add_assoc _ _ _))⟩)) | (go_at_call 16; (with_reducible refine (marlineref01_Equal.calls k2 _ _ l0_6 _ _ l1_6 false _ ?side1 ?side2 ?side3 ?side4 A42.out).mono ?_); (case side1 => repeat (first | exact (Kd.C_below HR0_6.out (by repeat (first | (with_reducible first | exact HB.out | apply below_alloc | apply pw_below_drewN | apply below_drew1 | refine below_set ?_ GE148.out | refine below_set ?_ GE149.out) | exact HB.out))) | (with_reducible refine Kd.C_alloc ?_ _) | (with_reducible refine Kd.C_drewN ?_ _) | (with_reducible refine Kd.C_drew ?_))); (case side2 => exact HC0_6.out); (case side3 => repeat (first | exact (Kd.C_below HR1_6.out (by repeat (first | (with_reducible first | exact HB.out | apply below_alloc | apply pw_below_drewN | apply below_drew1 | refine below_set ?_ GE148.out | refine below_set ?_ GE149.out) | exact HB.out))) | (with_reducible refine Kd.C_alloc ?_ _) | (with_reducible refine Kd.C_drewN ?_ _) | (with_reducible refine Kd.C_drew ?_))); (case side4 => exact HC1_6.out); rintro e w' ⟨rfl, ⟨nd, rfl⟩⟩; (try first | exact ⟨rfl, _, World.drewN_drewN _ _ _⟩ | exact ⟨rfl, _, Eq.trans (World.drewN_drewN _ _ _) (congrArg (World.drewN _) (Nat.add_assoc _ _ _))⟩))))
                  go_ret
                  exact ⟨by first | rfl | (simp [errW_none, errW_some] <;> rfl) | (simp [*, errW_none, errW_some] <;> rfl), by repeat (first | (with_reducible first | exact HB.out | apply below_alloc | apply pw_below_drewN | apply below_drew1 | refine below_set ?_ GE148.out | refine below_set ?_ GE149.out) | exact HB.out)⟩
              · replace c41 := Bool.eq_false_iff.mpr c41
                subst c41
                have H1 : (some false) = some r := by rw [if_neg (show ¬ (false = true) by decide)] at H; exact H
                clear H
                have H := H1
                clear H1
                obtain rfl := Option.some.inj H
                have hnb56 := NB148_149.out
                have hnc56 := NB149_148.out
                have hcz57_0 : wr.cell? ⟨gb148, 0, none⟩ = some (.int .u16 a0_0) := (blk_cell BK148.out 0).trans rfl
                have hcz57_1 : wr.cell? ⟨gb148, 1, none⟩ = some (.int .u8 a0_1) := (blk_cell BK148.out 1).trans rfl
                have hcz57_2 : wr.cell? ⟨gb148, 2, none⟩ = some (.int .u8 a0_2) := (blk_cell BK148.out 2).trans rfl
                have hcz57_3 : wr.cell? ⟨gb148, 3, none⟩ = some (.slice A0_3 l0_3.length c0_3) := (blk_cell BK148.out 3).trans rfl
                have hcz57_4 : wr.cell? ⟨gb148, 4, none⟩ = some (.int .u16 a0_4) := (blk_cell BK148.out 4).trans rfl
                have hcz57_5 : wr.cell? ⟨gb148, 5, none⟩ = some (.int .u32 a0_5) := (blk_cell BK148.out 5).trans rfl
                have hcz57_6 : wr.cell? ⟨gb148, 6, none⟩ = some (.slice A0_6 l0_6.length c0_6) := (blk_cell BK148.out 6).trans rfl
                have hcz57_7 : wr.cell? ⟨gb148, 7, none⟩ = some (.slice A0_7 l0_7.length c0_7) := (blk_cell BK148.out 7).trans rfl
                have hcz57_8 : wr.cell? ⟨gb148, 8, none⟩ = some (.slice A0_8 l0_8.length c0_8) := (blk_cell BK148.out 8).trans rfl
                have hcz57_9 : wr.cell? ⟨gb148, 9, none⟩ = some (.slice A0_9 l0_9.length c0_9) := (blk_cell BK148.out 9).trans rfl
                have hfz57_0 := blk_frozen BK148.out 0
                have hfz57_1 := blk_frozen BK148.out 1
                have hfz57_2 := blk_frozen BK148.out 2
                have hfz57_3 := blk_frozen BK148.out 3
                have hfz57_4 := blk_frozen BK148.out 4
                have hfz57_5 := blk_frozen BK148.out 5
                have hfz57_6 := blk_frozen BK148.out 6
                have hfz57_7 := blk_frozen BK148.out 7
                have hfz57_8 := blk_frozen BK148.out 8
                have hfz57_9 := blk_frozen BK148.out 9
                have hcz58_0 : wr.cell? ⟨gb149, 0, none⟩ = some (.int .u16 a1_0) := (blk_cell BK149.out 0).trans rfl
                have hcz58_1 : wr.cell? ⟨gb149, 1, none⟩ = some (.int .u8 a1_1) := (blk_cell BK149.out 1).trans rfl
                have hcz58_2 : wr.cell? ⟨gb149, 2, none⟩ = some (.int .u8 a1_2) := (blk_cell BK149.out 2).trans rfl
                have hcz58_3 : wr.cell? ⟨gb149, 3, none⟩ = some (.slice A1_3 l1_3.length c1_3) := (blk_cell BK149.out 3).trans rfl
                have hcz58_4 : wr.cell? ⟨gb149, 4, none⟩ = some (.int .u16 a1_4) := (blk_cell BK149.out 4).trans rfl
                have hcz58_5 : wr.cell? ⟨gb149, 5, none⟩ = some (.int .u32 a1_5) := (blk_cell BK149.out 5).trans rfl
                have hcz58_6 : wr.cell? ⟨gb149, 6, none⟩ = some (.slice A1_6 l1_6.length c1_6) := (blk_cell BK149.out 6).trans rfl
                have hcz58_7 : wr.cell? ⟨gb149, 7, none⟩ = some (.slice A1_7 l1_7.length c1_7) := (blk_cell BK149.out 7).trans rfl
                have hcz58_8 : wr.cell? ⟨gb149, 8, none⟩ = some (.slice A1_8 l1_8.length c1_8) := (blk_cell BK149.out 8).trans rfl
                have hcz58_9 : wr.cell? ⟨gb149, 9, none⟩ = some (.slice A1_9 l1_9.length c1_9) := (blk_cell BK149.out 9).trans rfl
                have hfz58_0 := blk_frozen BK149.out 0
                have hfz58_1 := blk_frozen BK149.out 1
                have hfz58_2 := blk_frozen BK149.out 2
                have hfz58_3 := blk_frozen BK149.out 3
                have hfz58_4 := blk_frozen BK149.out 4
                have hfz58_5 := blk_frozen BK149.out 5
                have hfz58_6 := blk_frozen BK149.out 6
                have hfz58_7 := blk_frozen BK149.out 7
                have hfz58_8 := blk_frozen BK149.out 8
                have hfz58_9 := blk_frozen BK149.out 9
                go_wp2_with (first | (go_at_call 34; (with_reducible refine (marlineref12_Same.calls k2 _ _ l0_3 _ _ l1_3 false _ ?side1 ?side2 ?side3 ?side4 A40.out).mono ?_); (case side1 => repeat (first | exact (Kd.C_below HR0_3.out HB.out) | (with_reducible refine Kd.C_alloc ?_ _) | (with_reducible refine Kd.C_drewN ?_ _) | (with_reducible refine Kd.C_drew ?_))); (case side2 => exact HC0_3.out); (case side3 => repeat (first | exact (Kd.C_below HR1_3.out HB.out) | (with_reducible refine Kd.C_alloc ?_ _) | (with_reducible refine Kd.C_drewN ?_ _) | (with_reducible refine Kd.C_drew ?_))); (case side4 => exact HC1_3.out); rintro e w' ⟨rfl, ⟨nd, rfl⟩⟩; (try first | exact ⟨rfl, _, World.drewN_drewN _ _ _⟩ | exact ⟨rfl, _, Eq.trans (World.drewN_drewN _ _ _) (congrArg (World.drewN _) (Nat.add_assoc _ _ _))⟩)))
                repeat (go_quiet (first | (go_at_call 34; (with_reducible refine (marlineref12_Same.calls k2 _ _ l0_3 _ _ l1_3 false _ ?side1 ?side2 ?side3 ?side4 A40.out).mono ?_); (case side1 => repeat (first | exact (Kd.C_below HR0_3.out HB.out) | (with_reducible refine Kd.C_alloc ?_ _) | (with_reducible refine Kd.C_drewN ?_ _) | (with_reducible refine Kd.C_drew ?_))); (case side2 => exact HC0_3.out); (case side3 => repeat (first | exact (Kd.C_below HR1_3.out HB.out) | (with_reducible refine Kd.C_alloc ?_ _) | (with_reducible refine Kd.C_drewN ?_ _) | (with_reducible refine Kd.C_drew ?_))); (case side4 => exact HC1_3.out); rintro e w' ⟨rfl, ⟨nd, rfl⟩⟩; (try first | exact ⟨rfl, _, World.drewN_drewN _ _ _⟩ | exact ⟨rfl, _, Eq.trans (World.drewN_drewN _ _ _) (congrArg (World.drewN _) (Nat.add_assoc _ _ _))⟩))); try go_wp2_with (first | (go_at_call 34; (with_reducible refine (marlineref12_Same.calls k2 _ _ l0_3 _ _ l1_3 false _ ?side1 ?side2 ?side3 ?side4 A40.out).mono ?_); (case side1 => repeat (first | exact (Kd.C_below HR0_3.out HB.out) | (with_reducible refine Kd.C_alloc ?_ _) | (with_reducible refine Kd.C_drewN ?_ _) | (with_reducible refine Kd.C_drew ?_))); (case side2 => exact HC0_3.out); (case side3 => repeat (first | exact (Kd.C_below HR1_3.out HB.out) | (with_reducible refine Kd.C_alloc ?_ _) | (with_reducible refine Kd.C_drewN ?_ _) | (with_reducible refine Kd.C_drew ?_))); (case side4 => exact HC1_3.out); rintro e w' ⟨rfl, ⟨nd, rfl⟩⟩; (try first | exact ⟨rfl, _, World.drewN_drewN _ _ _⟩ | exact ⟨rfl, _, Eq.trans (World.drewN_drewN _ _ _) (congrArg (World.drewN _) (Nat.add_assoc _ _ _))⟩))))
                go_ret
                exact ⟨by first | rfl | (simp [errW_none, errW_some] <;> rfl) | (simp [*, errW_none, errW_some] <;> rfl), by repeat (first | (with_reducible first | exact HB.out | apply below_alloc | apply pw_below_drewN | apply below_drew1 | refine below_set ?_ GE148.out | refine below_set ?_ GE149.out) | exact HB.out)⟩

end Go.Proofs.Ytelmlkcoeihhjaa.Fl
