import Derived.Test.YtelmlkcoeihhjaaFa0
import Derived.Test.YtelmlkcoeihhjaaFa1
import Derived.Test.YtelmlkcoeihhjaaFa2
namespace Go.Proofs.Ytelmlkcoeihhjaa.Fa
open Go.RowKit Go.Proofs.YtelmlkcoeihhjaaW.PrintWords Go.Proofs.YtelmlkcoeihhjaaW.PrintLast Go.Proofs.YtelmlkcoeihhjaaW.PrintMore
attribute [local go_sem] max2_int min2_int max_two min_two max_three min_three max_four min_four   -- for this text's walks alone
set_option linter.unusedVariables false
set_option linter.unusedSimpArgs false

/-! ### marlinelaw09_ProtoTells: function 7 -/
mutual
def marlinelaw09_ProtoTells.j0 : Nat → Int → List Int → Bool → Bool → Option (Bool)
  | 0, _, _, _, _ => none
  | k + 1, x0, x1, x2, x20 => if x20 = true then ((marlinelaw09_speaks.f k).bind fun t155 => (some t155)) else ((proto_Get.f k x1 x2).bind fun bt156 => ((marlineref09_Get.f x1 x2).bind fun bt159 => (if (wrap64 (bt156.1)) = bt159.1 then (if bt156.2.1 = bt159.2.1 then (marlinelaw09_ProtoTells.j1 k x0 x2 (wrap64 (x0)) (bt156.2.2 != bt159.2.2)) else (marlinelaw09_ProtoTells.j1 k x0 x2 (wrap64 (x0)) true)) else (marlinelaw09_ProtoTells.j1 k x0 x2 (wrap64 (x0)) true))))
def marlinelaw09_ProtoTells.j1 : Nat → Int → Bool → Int → Bool → Option (Bool)
  | 0, _, _, _, _ => none
  | k + 1, x0, x2, x7, x51 => if x51 = true then (some false) else ((proto_Right.f x0).bind fun t162 => ((marlineref09_Right.f x7).bind fun t163 => (if (t162 == t163) = true then ((proto_Short.f x0).bind fun t164 => (if (t164 == ((wrap64 (Int.tdiv x7 256)) == 0)) = true then ((proto_Group.f x0).bind fun t165 => (if t165 = (wrap64 (Int.tdiv x7 16384)) then ((proto_Put.f k x0 x2).bind fun t166 => ((marlineref09_Put.f x7 x2).bind fun t169 => ((marlineref01_Equal.f k t166 t169).bind fun t172 => (some t172)))) else (some false))) else (some false))) else (some false))))
end
def marlinelaw09_ProtoTells.f (k : Nat) (a0 : Int) (l1 : List Int) (a2 : Bool) : Option (Bool) := (marlinelaw09_speaks.f k).bind fun t154 => (if t154 = true then (marlinelaw09_ProtoTells.j0 k a0 l1 a2 (decide ((l1.length : Int) > 100))) else (marlinelaw09_ProtoTells.j0 k a0 l1 a2 true))
theorem marlinelaw09_ProtoTells.mono_l : ∀ k, (∀ y0 y1 y2 y3, LeO (marlinelaw09_ProtoTells.j0 k y0 y1 y2 y3) (marlinelaw09_ProtoTells.j0 (k + 1) y0 y1 y2 y3)) ∧ (∀ y0 y1 y2 y3, LeO (marlinelaw09_ProtoTells.j1 k y0 y1 y2 y3) (marlinelaw09_ProtoTells.j1 (k + 1) y0 y1 y2 y3))
  | 0 => ⟨fun _ _ _ _ r h => by simp [marlinelaw09_ProtoTells.j0] at h, fun _ _ _ _ r h => by simp [marlinelaw09_ProtoTells.j1] at h⟩
  | k + 1 => by
    obtain ⟨ih0, ih1⟩ := marlinelaw09_ProtoTells.mono_l k
    refine ⟨?_, ?_⟩
    · intro y0 y1 y2 y3
      unfold marlinelaw09_ProtoTells.j0
      repeat' first
      | (with_reducible exact ih0 _ _ _ _)
      | (with_reducible exact ih1 _ _ _ _)
      | (with_reducible exact marlinelaw09_speaks.mono _)
      | (with_reducible exact marlineref01_Equal.mono _ _ _)
      | (with_reducible exact proto_Get.mono _ _ _)
      | (with_reducible exact proto_Put.mono _ _ _)
      | (with_reducible exact LeO.refl _)
      | (with_reducible exact LeO.none _)
      | (with_reducible refine LeO.ite ?_ ?_)
      | (with_reducible refine LeO.bind ?_ (fun _ => ?_))
      | exact ih0 _ _ _ _
      | exact ih1 _ _ _ _
      | exact marlinelaw09_speaks.mono _
      | exact marlineref01_Equal.mono _ _ _
      | exact proto_Get.mono _ _ _
      | exact proto_Put.mono _ _ _
      | exact LeO.none _
      | refine LeO.ite ?_ ?_
      | refine LeO.bind ?_ (fun _ => ?_)
    · intro y0 y1 y2 y3
      unfold marlinelaw09_ProtoTells.j1
      repeat' first
      | (with_reducible exact ih0 _ _ _ _)
      | (with_reducible exact ih1 _ _ _ _)
      | (with_reducible exact marlinelaw09_speaks.mono _)
      | (with_reducible exact marlineref01_Equal.mono _ _ _)
      | (with_reducible exact proto_Get.mono _ _ _)
      | (with_reducible exact proto_Put.mono _ _ _)
      | (with_reducible exact LeO.refl _)
      | (with_reducible exact LeO.none _)
      | (with_reducible refine LeO.ite ?_ ?_)
      | (with_reducible refine LeO.bind ?_ (fun _ => ?_))
      | exact ih0 _ _ _ _
      | exact ih1 _ _ _ _
      | exact marlinelaw09_speaks.mono _
      | exact marlineref01_Equal.mono _ _ _
      | exact proto_Get.mono _ _ _
      | exact proto_Put.mono _ _ _
      | exact LeO.none _
      | refine LeO.ite ?_ ?_
      | refine LeO.bind ?_ (fun _ => ?_)
theorem marlinelaw09_ProtoTells.mono : ∀ a0 a1 a2 k, LeO (marlinelaw09_ProtoTells.f k a0 a1 a2) (marlinelaw09_ProtoTells.f (k + 1) a0 a1 a2) := by
  intro a0 a1 a2 k
  obtain ⟨ih0, ih1⟩ := marlinelaw09_ProtoTells.mono_l k
  unfold marlinelaw09_ProtoTells.f
  repeat' first
      | (with_reducible exact ih0 _ _ _ _)
      | (with_reducible exact ih1 _ _ _ _)
      | (with_reducible exact marlinelaw09_speaks.mono _)
      | (with_reducible exact marlineref01_Equal.mono _ _ _)
      | (with_reducible exact proto_Get.mono _ _ _)
      | (with_reducible exact proto_Put.mono _ _ _)
      | (with_reducible exact LeO.refl _)
      | (with_reducible exact LeO.none _)
      | (with_reducible refine LeO.ite ?_ ?_)
      | (with_reducible refine LeO.bind ?_ (fun _ => ?_))
      | exact ih0 _ _ _ _
      | exact ih1 _ _ _ _
      | exact marlinelaw09_speaks.mono _
      | exact marlineref01_Equal.mono _ _ _
      | exact proto_Get.mono _ _ _
      | exact proto_Put.mono _ _ _
      | exact LeO.none _
      | refine LeO.ite ?_ ?_
      | refine LeO.bind ?_ (fun _ => ?_)
set_option maxHeartbeats 8000000 in
set_option maxRecDepth 100000 in
theorem marlinelaw09_ProtoTells.calls (k : Nat) (a0 : Int) (A1 : Option Addr) (c1 : Nat) (l1 : List Int) (a2 : Bool) (r : Bool) (w : World) (hr1 : Kd.C (Kd.int .u8) w A1 l1.length l1) (hc1 : l1.length ≤ c1) (h : marlinelaw09_ProtoTells.f k a0 l1 a2 = some r) :
    Calls Try.prog 7 #[.int .u16 a0, .slice A1 l1.length c1, .bool a2] w fun e w' => e = .returned (.bool r) ∧ Below w.heap.size w w' := by
  have HR1 := Aside0.mk hr1
  have HC1 := Aside0.mk hc1
  clear hr1 hc1
  have HB := Aside0.mk (Below.refl w.heap.size w)
  have H : ((marlinelaw09_speaks.f k).bind fun t154 => (if t154 = true then (marlinelaw09_ProtoTells.j0 k a0 l1 a2 (decide ((l1.length : Int) > 100))) else (marlinelaw09_ProtoTells.j0 k a0 l1 a2 true))) = some r := h
  clear h
  have HC4 := Aside0.mk H
  clear H
  go_enter Try.func7, Try.ntmps7
  go_upto_region 1 with (fail)
  go_cut [20] (fun v20 wc => ∃ (kq : Nat) (x20_3 : Bool), v20 = .bool x20_3 ∧ Aside0 (marlinelaw09_ProtoTells.j0 kq a0 l1 a2 x20_3 = some r) ∧ Aside0 (kq ≤ k) ∧ Aside0 (Below w.heap.size w wc))
  case first =>
    have H := HC4.out
    clear HC4
    replace H := Option.bind_eq_some_iff.mp H
    obtain ⟨t154, A50, H⟩ := H
    replace H : (if t154 = true then (marlinelaw09_ProtoTells.j0 k a0 l1 a2 (decide ((l1.length : Int) > 100))) else (marlinelaw09_ProtoTells.j0 k a0 l1 a2 true)) = some r := H
    have A5 := Aside0.mk A50
    clear A50
    by_cases c6 : t154 = true
    · subst c6
      have H1 : (marlinelaw09_ProtoTells.j0 k a0 l1 a2 (decide ((l1.length : Int) > 100))) = some r := by rw [if_pos rfl] at H; exact H
      clear H
      have H := H1
      clear H1
      have H' := Aside0.mk H
      clear H
      go_wp2_with (first | ((with_reducible refine gate_callee (f := 9) rfl ?_); refine goesL_ (some 14) rfl rfl Try.func9 (by kernel_rfl) rfl #[] rfl (by (try simp only [List.map_toArray, List.map_cons, List.map_nil]); first | done | rfl | (simp only [List.length_drop, List.length_take]; rfl)) ?_; (with_reducible refine (marlinelaw09_speaks.calls k  true _ A5.out).mono ?_); rintro e w7 ⟨rfl, hb⟩; refine ⟨_, rfl, ?_⟩; have n0_ := Aside0.mk (below_step (by repeat (first | (with_reducible first | exact HB.out | apply below_alloc | apply pw_below_drewN | apply below_drew1) | exact HB.out)) hb); clear HB; have HB := n0_; clear n0_; (try clear hb); (try clear hb2); (try clear hk); (try clear hi)))
      go_meet
      case rel => exact ⟨_, (decide ((l1.length : Int) > 100)), (by first | rfl | (simp; done) | (simp [*]; done)), H', ⟨by first | omega | exact Nat.le_refl _⟩, ⟨by repeat (first | (with_reducible first | exact HB.out | apply below_alloc | apply pw_below_drewN | apply below_drew1) | exact HB.out)⟩⟩
    · replace c6 := Bool.eq_false_iff.mpr c6
      subst c6
      have H1 : (marlinelaw09_ProtoTells.j0 k a0 l1 a2 true) = some r := by rw [if_neg (show ¬ (false = true) by decide)] at H; exact H
      clear H
      have H := H1
      clear H1
      have H' := Aside0.mk H
      clear H
      go_wp2_with (first | ((with_reducible refine gate_callee (f := 9) rfl ?_); refine goesL_ (some 14) rfl rfl Try.func9 (by kernel_rfl) rfl #[] rfl (by (try simp only [List.map_toArray, List.map_cons, List.map_nil]); first | done | rfl | (simp only [List.length_drop, List.length_take]; rfl)) ?_; (with_reducible refine (marlinelaw09_speaks.calls k  false _ A5.out).mono ?_); rintro e w8 ⟨rfl, hb⟩; refine ⟨_, rfl, ?_⟩; have n0_ := Aside0.mk (below_step (by repeat (first | (with_reducible first | exact HB.out | apply below_alloc | apply pw_below_drewN | apply below_drew1) | exact HB.out)) hb); clear HB; have HB := n0_; clear n0_; (try clear hb); (try clear hb2); (try clear hk); (try clear hi)))
      go_meet
      case rel => exact ⟨_, (true), (by first | rfl | (simp; done) | (simp [*]; done)), H', ⟨by first | omega | exact Nat.le_refl _⟩, ⟨by repeat (first | (with_reducible first | exact HB.out | apply below_alloc | apply pw_below_drewN | apply below_drew1) | exact HB.out)⟩⟩
  case rest =>
    clear HC4
    try clear c1
    try clear p2
    try clear c6
    try clear c7
    obtain ⟨kq, x20_3, rfl, HA, HJ3, HB⟩ := hcut
    cases kq with
    | zero => exact absurd HA.out (by simp [marlinelaw09_ProtoTells.j0])
    | succ kj3 =>
      have H := HA.out
      clear HA
      simp only [marlinelaw09_ProtoTells.j0] at H
      by_cases c9 : x20_3 = true
      · subst c9
        have H1 : ((marlinelaw09_speaks.f kj3).bind fun t155 => (some t155)) = some r := by rw [if_pos rfl] at H; exact H
        clear H
        have H := H1
        clear H1
        replace H := Option.bind_eq_some_iff.mp H
        obtain ⟨t155, A100, H⟩ := H
        replace H : (some t155) = some r := H
        have A10 := Aside0.mk A100
        clear A100
        obtain rfl := Option.some.inj H
        go_wp2_with (first | ((with_reducible refine gate_callee (f := 9) rfl ?_); refine goesL_ (some 21) rfl rfl Try.func9 (by kernel_rfl) rfl #[] rfl (by (try simp only [List.map_toArray, List.map_cons, List.map_nil]); first | done | rfl | (simp only [List.length_drop, List.length_take]; rfl)) ?_; (with_reducible refine (marlinelaw09_speaks.calls kj3  t155 _ A10.out).mono ?_); rintro e w11 ⟨rfl, hb⟩; refine ⟨_, rfl, ?_⟩; have n0_ := Aside0.mk (below_step (by repeat (first | (with_reducible first | exact HB.out | apply below_alloc | apply pw_below_drewN | apply below_drew1) | exact HB.out)) hb); clear HB; have HB := n0_; clear n0_; (try clear hb); (try clear hb2); (try clear hk); (try clear hi)))
        go_ret
        exact ⟨by first | rfl | (simp [errW_none, errW_some] <;> rfl) | (simp [*, errW_none, errW_some] <;> rfl), by repeat (first | (with_reducible first | exact HB.out | apply below_alloc | apply pw_below_drewN | apply below_drew1) | exact HB.out)⟩
      · replace c9 := Bool.eq_false_iff.mpr c9
        subst c9
        have H1 : ((proto_Get.f kj3 l1 a2).bind fun bt156 => ((marlineref09_Get.f l1 a2).bind fun bt159 => (if (wrap64 (bt156.1)) = bt159.1 then (if bt156.2.1 = bt159.2.1 then (marlinelaw09_ProtoTells.j1 kj3 a0 a2 (wrap64 (a0)) (bt156.2.2 != bt159.2.2)) else (marlinelaw09_ProtoTells.j1 kj3 a0 a2 (wrap64 (a0)) true)) else (marlinelaw09_ProtoTells.j1 kj3 a0 a2 (wrap64 (a0)) true)))) = some r := by rw [if_neg (show ¬ (false = true) by decide)] at H; exact H
        clear H
        have H := H1
        clear H1
        replace H := Option.bind_eq_some_iff.mp H
        obtain ⟨⟨t156, t157, t158⟩, A120, H⟩ := H
        replace H : ((marlineref09_Get.f l1 a2).bind fun bt159 => (if (wrap64 (t156)) = bt159.1 then (if t157 = bt159.2.1 then (marlinelaw09_ProtoTells.j1 kj3 a0 a2 (wrap64 (a0)) (t158 != bt159.2.2)) else (marlinelaw09_ProtoTells.j1 kj3 a0 a2 (wrap64 (a0)) true)) else (marlinelaw09_ProtoTells.j1 kj3 a0 a2 (wrap64 (a0)) true))) = some r := H
        have A12 := Aside0.mk A120
        clear A120
        replace H := Option.bind_eq_some_iff.mp H
        obtain ⟨⟨t159, t160, t161⟩, A130, H⟩ := H
        replace H : (if (wrap64 (t156)) = t159 then (if t157 = t160 then (marlinelaw09_ProtoTells.j1 kj3 a0 a2 (wrap64 (a0)) (t158 != t161)) else (marlinelaw09_ProtoTells.j1 kj3 a0 a2 (wrap64 (a0)) true)) else (marlinelaw09_ProtoTells.j1 kj3 a0 a2 (wrap64 (a0)) true)) = some r := H
        have A13 := Aside0.mk A130
        clear A130
        have HC14 := Aside0.mk H
        clear H
        go_upto_region 6 with (first | ((with_reducible refine gate_callee (f := 15) rfl ?_); refine goesL_ (some 27) rfl rfl Try.func15 (by kernel_rfl) rfl #[.slice A1 l1.length c1, .bool a2] rfl (by (try simp only [List.map_toArray, List.map_cons, List.map_nil]); first | done | rfl | (simp only [List.length_drop, List.length_take]; rfl)) ?_; (with_reducible refine (proto_Get.calls kj3 _ _ l1 a2 t156 t157 t158 _ ?side1 ?side2 A12.out).mono ?_); (case side1 => repeat (first | exact (Kd.C_below HR1.out HB.out) | (with_reducible refine Kd.C_alloc ?_ _) | (with_reducible refine Kd.C_drewN ?_ _) | (with_reducible refine Kd.C_drew ?_))); (case side2 => exact HC1.out); rintro e w' ⟨rfl, ⟨nd, rfl⟩⟩; refine ⟨_, rfl, ?_⟩) | ((with_reducible refine gate_callee (f := 22) rfl ?_); refine goesL_ (some 34) rfl rfl Try.func22 (by kernel_rfl) rfl #[.slice A1 l1.length c1, .bool a2] rfl (by (try simp only [List.map_toArray, List.map_cons, List.map_nil]); first | done | rfl | (simp only [List.length_drop, List.length_take]; rfl)) ?_; (with_reducible refine (marlineref09_Get.calls _ _ l1 a2 t159 t160 t161 _ ?side1 ?side2 A13.out).mono ?_); (case side1 => repeat (first | exact (Kd.C_below HR1.out (by repeat (first | (with_reducible first | exact HB.out | apply below_alloc | apply pw_below_drewN | apply below_drew1) | exact HB.out))) | (with_reducible refine Kd.C_alloc ?_ _) | (with_reducible refine Kd.C_drewN ?_ _) | (with_reducible refine Kd.C_drew ?_))); (case side2 => exact HC1.out); rintro e w' ⟨rfl, ⟨nd, rfl⟩⟩; refine ⟨_, rfl, ?_⟩))
        (try simp only [Act.put, List.setIfInBounds_toArray, List.set_cons_zero, List.set_cons_succ])
        go_cut [51] (fun v51 wc => ∃ (kq : Nat) (x51_13 : Bool), v51 = .bool x51_13 ∧ Aside0 (marlinelaw09_ProtoTells.j1 kq a0 a2 (wrap64 (a0)) x51_13 = some r) ∧ Aside0 (kq ≤ kj3) ∧ Aside0 (Below w.heap.size w wc))
        case first =>
          have H := HC14.out
          clear HC14
          by_cases c15 : (wrap64 (t156)) = t159
          · rw [if_pos c15] at H
            have c15b0 : ((wrap64 (t156)) == t159) = true := beq_iff_eq.mpr c15
            have c15b1 : ((wrap64 (t156)) != t159) = false := bne_eq_false_iff_eq.mpr c15
            clear c15
            (first | rw [c15b0] | (simp only [i64_w, i32_w]; rw [c15b0]) | skip)
            by_cases c16 : t157 = t160
            · rw [if_pos c16] at H
              have c16b0 : (t157 == t160) = true := beq_iff_eq.mpr c16
              have c16b1 : (t157 != t160) = false := bne_eq_false_iff_eq.mpr c16
              clear c16
              have H' := Aside0.mk H
              clear H
              go_wp2
              go_meet
              case rel => exact ⟨_, ((t158 != t161)), (by first | rfl | (simp; done) | (simp [*]; done)), H', ⟨by have := HJ3.out; first | omega | exact Nat.le_refl _⟩, ⟨by repeat (first | (with_reducible first | exact HB.out | apply below_alloc | apply pw_below_drewN | apply below_drew1) | exact HB.out)⟩⟩
            · rw [if_neg c16] at H
              have c16b0 : (t157 == t160) = false := beq_eq_false_iff_ne.mpr c16
              have c16b1 : (t157 != t160) = true := bne_iff_ne.mpr c16
              have H' := Aside0.mk H
              clear H
              go_wp2
              go_meet
              case rel => exact ⟨_, (true), (by first | rfl | (simp; done) | (simp [*]; done)), H', ⟨by have := HJ3.out; first | omega | exact Nat.le_refl _⟩, ⟨by repeat (first | (with_reducible first | exact HB.out | apply below_alloc | apply pw_below_drewN | apply below_drew1) | exact HB.out)⟩⟩
          · rw [if_neg c15] at H
            have c15b0 : ((wrap64 (t156)) == t159) = false := beq_eq_false_iff_ne.mpr c15
            have c15b1 : ((wrap64 (t156)) != t159) = true := bne_iff_ne.mpr c15
            (first | rw [c15b0] | (simp only [i64_w, i32_w]; rw [c15b0]) | skip)
            have H' := Aside0.mk H
            clear H
            go_wp2
            go_meet
            case rel => exact ⟨_, (true), (by first | rfl | (simp; done) | (simp [*]; done)), H', ⟨by have := HJ3.out; first | omega | exact Nat.le_refl _⟩, ⟨by repeat (first | (with_reducible first | exact HB.out | apply below_alloc | apply pw_below_drewN | apply below_drew1) | exact HB.out)⟩⟩
        case rest =>
          clear HC14
          try clear c1
          try clear c2
          try clear p2
          try clear c6
          try clear p6
          try clear c7
          try clear c9
          try clear c15
          try clear c15b0
          try clear c15b1
          try clear c16
          try clear c16b0
          try clear c16b1
          try clear p2
          obtain ⟨kq, x51_13, rfl, HA, HJ13, HB⟩ := hcut
          cases kq with
          | zero => exact absurd HA.out (by simp [marlinelaw09_ProtoTells.j1])
          | succ kj13 =>
            have H := HA.out
            clear HA
            simp only [marlinelaw09_ProtoTells.j1] at H
            by_cases c17 : x51_13 = true
            · subst c17
              have H1 : (some false) = some r := by rw [if_pos rfl] at H; exact H
              clear H
              have H := H1
              clear H1
              obtain rfl := Option.some.inj H
              go_wp2
              go_ret
              exact ⟨by first | rfl | (simp [errW_none, errW_some] <;> rfl) | (simp [*, errW_none, errW_some] <;> rfl), by repeat (first | (with_reducible first | exact HB.out | apply below_alloc | apply pw_below_drewN | apply below_drew1) | exact HB.out)⟩
            · replace c17 := Bool.eq_false_iff.mpr c17
              subst c17
              have H1 : ((proto_Right.f a0).bind fun t162 => ((marlineref09_Right.f (wrap64 (a0))).bind fun t163 => (if (t162 == t163) = true then ((proto_Short.f a0).bind fun t164 => (if (t164 == ((wrap64 (Int.tdiv (wrap64 (a0)) 256)) == 0)) = true then ((proto_Group.f a0).bind fun t165 => (if t165 = (wrap64 (Int.tdiv (wrap64 (a0)) 16384)) then ((proto_Put.f kj13 a0 a2).bind fun t166 => ((marlineref09_Put.f (wrap64 (a0)) a2).bind fun t169 => ((marlineref01_Equal.f kj13 t166 t169).bind fun t172 => (some t172)))) else (some false))) else (some false))) else (some false)))) = some r := by rw [if_neg (show ¬ (false = true) by decide)] at H; exact H
              clear H
              have H := H1
              clear H1
              replace H := Option.bind_eq_some_iff.mp H
              obtain ⟨t162, A180, H⟩ := H
              replace H : ((marlineref09_Right.f (wrap64 (a0))).bind fun t163 => (if (t162 == t163) = true then ((proto_Short.f a0).bind fun t164 => (if (t164 == ((wrap64 (Int.tdiv (wrap64 (a0)) 256)) == 0)) = true then ((proto_Group.f a0).bind fun t165 => (if t165 = (wrap64 (Int.tdiv (wrap64 (a0)) 16384)) then ((proto_Put.f kj13 a0 a2).bind fun t166 => ((marlineref09_Put.f (wrap64 (a0)) a2).bind fun t169 => ((marlineref01_Equal.f kj13 t166 t169).bind fun t172 => (some t172)))) else (some false))) else (some false))) else (some false))) = some r := H
              have A18 := Aside0.mk A180
              clear A180
              replace H := Option.bind_eq_some_iff.mp H
              obtain ⟨t163, A190, H⟩ := H
              replace H : (if (t162 == t163) = true then ((proto_Short.f a0).bind fun t164 => (if (t164 == ((wrap64 (Int.tdiv (wrap64 (a0)) 256)) == 0)) = true then ((proto_Group.f a0).bind fun t165 => (if t165 = (wrap64 (Int.tdiv (wrap64 (a0)) 16384)) then ((proto_Put.f kj13 a0 a2).bind fun t166 => ((marlineref09_Put.f (wrap64 (a0)) a2).bind fun t169 => ((marlineref01_Equal.f kj13 t166 t169).bind fun t172 => (some t172)))) else (some false))) else (some false))) else (some false)) = some r := H
              have A19 := Aside0.mk A190
              clear A190
              by_cases c20 : (t162 == t163) = true
              · rw [if_pos c20] at H
                have c20b0 : (t162 == t163) = true := c20
                (try (have c20b1 : decide (t162 = t163) = true := by simpa using c20))
                (try (have c20b2 : (t162 == t163) = true := by simpa using c20))
                clear c20
                replace H := Option.bind_eq_some_iff.mp H
                obtain ⟨t164, A210, H⟩ := H
                replace H : (if (t164 == ((wrap64 (Int.tdiv (wrap64 (a0)) 256)) == 0)) = true then ((proto_Group.f a0).bind fun t165 => (if t165 = (wrap64 (Int.tdiv (wrap64 (a0)) 16384)) then ((proto_Put.f kj13 a0 a2).bind fun t166 => ((marlineref09_Put.f (wrap64 (a0)) a2).bind fun t169 => ((marlineref01_Equal.f kj13 t166 t169).bind fun t172 => (some t172)))) else (some false))) else (some false)) = some r := H
                have A21 := Aside0.mk A210
                clear A210
                by_cases c22 : (t164 == ((wrap64 (Int.tdiv (wrap64 (a0)) 256)) == 0)) = true
                · rw [if_pos c22] at H
                  have c22b0 : (t164 == ((wrap64 (Int.tdiv (wrap64 (a0)) 256)) == 0)) = true := c22
                  (try (have c22b1 : decide (t164 = ((wrap64 (Int.tdiv (wrap64 (a0)) 256)) == 0)) = true := by simpa using c22))
                  (try (have c22b2 : (t164 == ((wrap64 (Int.tdiv (wrap64 (a0)) 256)) == 0)) = true := by simpa using c22))
                  clear c22
                  replace H := Option.bind_eq_some_iff.mp H
                  obtain ⟨t165, A230, H⟩ := H
                  replace H : (if t165 = (wrap64 (Int.tdiv (wrap64 (a0)) 16384)) then ((proto_Put.f kj13 a0 a2).bind fun t166 => ((marlineref09_Put.f (wrap64 (a0)) a2).bind fun t169 => ((marlineref01_Equal.f kj13 t166 t169).bind fun t172 => (some t172)))) else (some false)) = some r := H
                  have A23 := Aside0.mk A230
                  clear A230
                  by_cases c24 : t165 = (wrap64 (Int.tdiv (wrap64 (a0)) 16384))
                  · rw [if_pos c24] at H
                    have c24b0 : (t165 == (wrap64 (Int.tdiv (wrap64 (a0)) 16384))) = true := beq_iff_eq.mpr c24
                    have c24b1 : (t165 != (wrap64 (Int.tdiv (wrap64 (a0)) 16384))) = false := bne_eq_false_iff_eq.mpr c24
                    clear c24
                    replace H := Option.bind_eq_some_iff.mp H
                    obtain ⟨t166, A250, H⟩ := H
                    replace H : ((marlineref09_Put.f (wrap64 (a0)) a2).bind fun t169 => ((marlineref01_Equal.f kj13 t166 t169).bind fun t172 => (some t172))) = some r := H
                    have A25 := Aside0.mk A250
                    clear A250
                    replace H := Option.bind_eq_some_iff.mp H
                    obtain ⟨t169, A260, H⟩ := H
                    replace H : ((marlineref01_Equal.f kj13 t166 t169).bind fun t172 => (some t172)) = some r := H
                    have A26 := Aside0.mk A260
                    clear A260
                    replace H := Option.bind_eq_some_iff.mp H
                    obtain ⟨t172, A270, H⟩ := H
                    replace H : (some t172) = some r := H
                    have A27 := Aside0.mk A270
                    clear A270
                    obtain rfl := Option.some.inj H
                    go_wp2_with (first | ((with_reducible refine gate_callee (f := 12) rfl ?_); refine goesL_ (some 53) rfl rfl Try.func12 (by kernel_rfl) rfl #[.int .u16 a0] rfl (by (try simp only [List.map_toArray, List.map_cons, List.map_nil]); first | done | rfl | (simp only [List.length_drop, List.length_take]; rfl)) ?_; (with_reducible refine (proto_Right.calls a0 t162 _ A18.out).mono ?_); rintro e w' ⟨rfl, ⟨nd, rfl⟩⟩; refine ⟨_, rfl, ?_⟩) | ((with_reducible refine gate_callee (f := 11) rfl ?_); refine goesL_ (some 55) rfl rfl Try.func11 (by kernel_rfl) rfl #[.int .i64 (wrap64 (a0))] rfl (by (try simp only [List.map_toArray, List.map_cons, List.map_nil]); first | done | rfl | (simp only [List.length_drop, List.length_take]; rfl)) ?_; (with_reducible refine (marlineref09_Right.calls (wrap64 (a0)) t163 _ A19.out).mono ?_); rintro e w' ⟨rfl, ⟨nd, rfl⟩⟩; refine ⟨_, rfl, ?_⟩) | (go_at_call 23; (with_reducible refine (proto_Short.calls a0 t164 _ A21.out).mono ?_); rintro e w' ⟨rfl, ⟨nd, rfl⟩⟩) | (go_at_call 24; (with_reducible refine (proto_Group.calls a0 t165 _ A23.out).mono ?_); rintro e w' ⟨rfl, ⟨nd, rfl⟩⟩) | (go_at_call 10; (with_reducible refine (proto_Put.calls kj13 a0 a2 t166 _ A25.out).mono ?_); rintro e w28 ⟨v167, rfl, ho0, hb⟩; have n0_ := Aside0.mk (Kd.Q_lower ho0 (below_size (by repeat (first | (with_reducible first | exact HB.out | apply below_alloc | apply pw_below_drewN | apply below_drew1) | exact HB.out)))); have n1_ := Aside0.mk (below_step (by repeat (first | (with_reducible first | exact HB.out | apply below_alloc | apply pw_below_drewN | apply below_drew1) | exact HB.out)) hb); clear HB; have HO168 := n0_; have HB := n1_; clear n0_ n1_; (try clear hb); (try clear hb2); (try clear hk); (try clear hi); (try clear ho0)) | (go_at_call 25; (with_reducible refine (marlineref09_Put.calls (wrap64 (a0)) a2 t169 _ A26.out).mono ?_); rintro e w29 ⟨v170, rfl, ho0, hb⟩; have n0_ := Aside0.mk (Kd.Q_elder' (by (with_reducible repeat (first | apply Kd.Q_alloc | apply Kd.Q_drewN | apply Kd.Q_drew)); exact HO168.out) (Kd.R_base ho0) hb); have n1_ := Aside0.mk (Kd.R_lower (Kd.R_new' ho0 (Kd.Q_lt (by (with_reducible repeat (first | apply Kd.Q_alloc | apply Kd.Q_drewN | apply Kd.Q_drew)); exact HO168.out))) (below_size (by repeat (first | (with_reducible first | exact HB.out | apply below_alloc | apply pw_below_drewN | apply below_drew1) | exact HB.out)))); have n2_ := Aside0.mk (below_step (by repeat (first | (with_reducible first | exact HB.out | apply below_alloc | apply pw_below_drewN | apply below_drew1) | exact HB.out)) hb); clear HO168; clear HB; have HO168 := n0_; have HO171 := n1_; have HB := n2_; clear n0_ n1_ n2_; (try clear hb); (try clear hb2); (try clear hk); (try clear hi); (try clear ho0); obtain ⟨Ao30, co30, eo30, _⟩ := Kd.Q_slice HO168.out; subst eo30; obtain ⟨Ao31, co31, eo31⟩ := Kd.R_slice HO171.out; subst eo31) | (go_at_call 16; (with_reducible refine (marlineref01_Equal.calls kj13 _ _ t166 _ _ t169 t172 _ ?side1 ?side2 ?side3 ?side4 A27.out).mono ?_); (case side1 => repeat (first | exact (Kd.Q_reads' HO168.out).2.2 | (with_reducible refine Kd.C_alloc ?_ _) | (with_reducible refine Kd.C_drewN ?_ _) | (with_reducible refine Kd.C_drew ?_))); (case side2 => exact (Kd.Q_reads' HO168.out).2.1); (case side3 => repeat (first | exact (Kd.R_reads' HO171.out).2.2 | (with_reducible refine Kd.C_alloc ?_ _) | (with_reducible refine Kd.C_drewN ?_ _) | (with_reducible refine Kd.C_drew ?_))); (case side4 => exact (Kd.R_reads' HO171.out).2.1); rintro e w' ⟨rfl, ⟨nd, rfl⟩⟩))
                    go_ret
                    exact ⟨by first | rfl | (simp [errW_none, errW_some] <;> rfl) | (simp [*, errW_none, errW_some] <;> rfl), by repeat (first | (with_reducible first | exact HB.out | apply below_alloc | apply pw_below_drewN | apply below_drew1) | exact HB.out)⟩
                  · rw [if_neg c24] at H
                    have c24b0 : (t165 == (wrap64 (Int.tdiv (wrap64 (a0)) 16384))) = false := beq_eq_false_iff_ne.mpr c24
                    have c24b1 : (t165 != (wrap64 (Int.tdiv (wrap64 (a0)) 16384))) = true := bne_iff_ne.mpr c24
                    obtain rfl := Option.some.inj H
                    go_wp2_with (first | ((with_reducible refine gate_callee (f := 12) rfl ?_); refine goesL_ (some 53) rfl rfl Try.func12 (by kernel_rfl) rfl #[.int .u16 a0] rfl (by (try simp only [List.map_toArray, List.map_cons, List.map_nil]); first | done | rfl | (simp only [List.length_drop, List.length_take]; rfl)) ?_; (with_reducible refine (proto_Right.calls a0 t162 _ A18.out).mono ?_); rintro e w' ⟨rfl, ⟨nd, rfl⟩⟩; refine ⟨_, rfl, ?_⟩) | ((with_reducible refine gate_callee (f := 11) rfl ?_); refine goesL_ (some 55) rfl rfl Try.func11 (by kernel_rfl) rfl #[.int .i64 (wrap64 (a0))] rfl (by (try simp only [List.map_toArray, List.map_cons, List.map_nil]); first | done | rfl | (simp only [List.length_drop, List.length_take]; rfl)) ?_; (with_reducible refine (marlineref09_Right.calls (wrap64 (a0)) t163 _ A19.out).mono ?_); rintro e w' ⟨rfl, ⟨nd, rfl⟩⟩; refine ⟨_, rfl, ?_⟩) | (go_at_call 23; (with_reducible refine (proto_Short.calls a0 t164 _ A21.out).mono ?_); rintro e w' ⟨rfl, ⟨nd, rfl⟩⟩) | (go_at_call 24; (with_reducible refine (proto_Group.calls a0 t165 _ A23.out).mono ?_); rintro e w' ⟨rfl, ⟨nd, rfl⟩⟩))
                    go_ret
                    exact ⟨by first | rfl | (simp [errW_none, errW_some] <;> rfl) | (simp [*, errW_none, errW_some] <;> rfl), by repeat (first | (with_reducible first | exact HB.out | apply below_alloc | apply pw_below_drewN | apply below_drew1) | exact HB.out)⟩
                · rw [if_neg c22] at H
                  have c22b0 : (t164 == ((wrap64 (Int.tdiv (wrap64 (a0)) 256)) == 0)) = false := by simpa using c22
                  (try (have c22b1 : decide (t164 = ((wrap64 (Int.tdiv (wrap64 (a0)) 256)) == 0)) = false := by simpa using c22))
                  (try (have c22b2 : (t164 == ((wrap64 (Int.tdiv (wrap64 (a0)) 256)) == 0)) = false := by simpa using c22))
                  (try (have c22b3 : ¬ (t164 = ((wrap64 (Int.tdiv (wrap64 (a0)) 256)) == 0)) := by simpa using c22))
                  clear c22
                  obtain rfl := Option.some.inj H
                  go_wp2_with (first | ((with_reducible refine gate_callee (f := 12) rfl ?_); refine goesL_ (some 53) rfl rfl Try.func12 (by kernel_rfl) rfl #[.int .u16 a0] rfl (by (try simp only [List.map_toArray, List.map_cons, List.map_nil]); first | done | rfl | (simp only [List.length_drop, List.length_take]; rfl)) ?_; (with_reducible refine (proto_Right.calls a0 t162 _ A18.out).mono ?_); rintro e w' ⟨rfl, ⟨nd, rfl⟩⟩; refine ⟨_, rfl, ?_⟩) | ((with_reducible refine gate_callee (f := 11) rfl ?_); refine goesL_ (some 55) rfl rfl Try.func11 (by kernel_rfl) rfl #[.int .i64 (wrap64 (a0))] rfl (by (try simp only [List.map_toArray, List.map_cons, List.map_nil]); first | done | rfl | (simp only [List.length_drop, List.length_take]; rfl)) ?_; (with_reducible refine (marlineref09_Right.calls (wrap64 (a0)) t163 _ A19.out).mono ?_); rintro e w' ⟨rfl, ⟨nd, rfl⟩⟩; refine ⟨_, rfl, ?_⟩) | (go_at_call 23; (with_reducible refine (proto_Short.calls a0 t164 _ A21.out).mono ?_); rintro e w' ⟨rfl, ⟨nd, rfl⟩⟩))
                  go_ret
                  exact ⟨by first | rfl | (simp [errW_none, errW_some] <;> rfl) | (simp [*, errW_none, errW_some] <;> rfl), by repeat (first | (with_reducible first | exact HB.out | apply below_alloc | apply pw_below_drewN | apply below_drew1) | exact HB.out)⟩
              · rw [if_neg c20] at H
                have c20b0 : (t162 == t163) = false := by simpa using c20
                (try (have c20b1 : decide (t162 = t163) = false := by simpa using c20))
                (try (have c20b2 : (t162 == t163) = false := by simpa using c20))
                (try (have c20b3 : ¬ (t162 = t163) := by simpa using c20))
                clear c20
                obtain rfl := Option.some.inj H
                go_wp2_with (first | ((with_reducible refine gate_callee (f := 12) rfl ?_); refine goesL_ (some 53) rfl rfl Try.func12 (by kernel_rfl) rfl #[.int .u16 a0] rfl (by (try simp only [List.map_toArray, List.map_cons, List.map_nil]); first | done | rfl | (simp only [List.length_drop, List.length_take]; rfl)) ?_; (with_reducible refine (proto_Right.calls a0 t162 _ A18.out).mono ?_); rintro e w' ⟨rfl, ⟨nd, rfl⟩⟩; refine ⟨_, rfl, ?_⟩) | ((with_reducible refine gate_callee (f := 11) rfl ?_); refine goesL_ (some 55) rfl rfl Try.func11 (by kernel_rfl) rfl #[.int .i64 (wrap64 (a0))] rfl (by (try simp only [List.map_toArray, List.map_cons, List.map_nil]); first | done | rfl | (simp only [List.length_drop, List.length_take]; rfl)) ?_; (with_reducible refine (marlineref09_Right.calls (wrap64 (a0)) t163 _ A19.out).mono ?_); rintro e w' ⟨rfl, ⟨nd, rfl⟩⟩; refine ⟨_, rfl, ?_⟩))
                go_ret
                exact ⟨by first | rfl | (simp [errW_none, errW_some] <;> rfl) | (simp [*, errW_none, errW_some] <;> rfl), by repeat (first | (with_reducible first | exact HB.out | apply below_alloc | apply pw_below_drewN | apply below_drew1) | exact HB.out)⟩

/-- THE ONE PURE STATEMENT of marlinelaw09_ProtoTells: yours. -/
def marlinelaw09_ProtoTells.Pure : Prop := ∀ (a0 : Int) (l1 : List Int) (a2 : Bool), (Lit.int .u16 a0).wf = true → l1.length ≤ maxLen → l1.length * 1 ≤ 140737488351232 → (∀ x ∈ l1, (Lit.int .u8 x).wf = true) → ∃ k, marlinelaw09_ProtoTells.f k a0 l1 a2 = some true
theorem marlinelaw09_ProtoTells.walk (P : marlinelaw09_ProtoTells.Pure) (a0 : Int) (a1 : Option Addr) (len1 cap1 : Nat) (z1 : List Int) (a2 : Bool) (w : World) (w0 : (Lit.int .u16 a0).wf = true) (w1 : (a1 = none ∧ len1 = 0 ∧ cap1 = 0 ∧ z1 = []) ∨ ∃ x, a1 = some x ∧ len1 ≤ cap1 ∧ cap1 ≤ maxLen ∧ z1.length = cap1 ∧ (∀ i, i < z1.length → w.cell? (x.add i) = some (.int .u8 (z1.getD i 0))) ∧ ∀ n ∈ z1, (Lit.int .u8 n).wf = true) (y1 : len1 * 1 ≤ 140737488351232) :
    Calls Try.prog 7 #[.int .u16 a0, .slice a1 len1 cap1, .bool a2] w fun e w' => e = .returned (.bool true) ∧ Below w.heap.size w w' := by
  obtain ⟨l1, rfl, hr1, hm1, hw1, hc1⟩ := ReadsInt.ofRowC w1
  obtain ⟨k, h⟩ := P a0 l1 a2 w0 hm1 y1 hw1
  refine (marlinelaw09_ProtoTells.calls k a0 _ _ l1 a2 true w (Kd.C_of_reads (d := (0 : Int)) (h1 := fun _ => rfl) hr1) hc1 h).mono ?_
  rintro e w' ⟨rfl, hd⟩
  exact ⟨rfl, hd⟩

end Go.Proofs.Ytelmlkcoeihhjaa.Fa
