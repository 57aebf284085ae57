/- The reference's word that two lists of pieces are the same: printed, and mended at the strings. -/
import Derived.Test.YtgopklnfdlnojaaDoorGa0
import Derived.Test.YtgopklnfdlnojaaDoorMy
namespace Go.Proofs.YtgopklnfdlnojaaDoor.Ga
open Go.RowKit Go.Proofs.YtgopklnfdlnojaaDoor.My Go.Proofs.YtgopklnfdlnojaaDoorW.PrintWords Go.Proofs.YtgopklnfdlnojaaDoorW.PrintLast Go.Proofs.YtgopklnfdlnojaaDoorW.PrintMore
set_option linter.unusedVariables false
set_option linter.unusedSimpArgs false

/-! ### marlineref23_Same: function 18 -/
def marlineref23_Same.l0 : Nat → List (S24) → List (S24) → Int → Option (Bool)
  | 0, _, _, _ => none
  | k + 1, x0, x1, x5 => if x5 < (x0.length : Int) then (if 0 ≤ x5 then (if x5 < (x1.length : Int) then (if (((rd_T24 x0 x5).f0) != ((rd_T24 x1 x5).f0)) = true then (some false) else (if (((rd_T24 x0 x5).f1) != ((rd_T24 x1 x5).f1)) = true then (some false) else (if ((rd_T24 x0 x5).f2) = ((rd_T24 x1 x5).f2) then (if (strOfNums ((rd_T24 x0 x5).f3)).toList = (strOfNums ((rd_T24 x1 x5).f3)).toList then (marlineref23_Same.l0 k x0 x1 (wrap64 (x5 + 1))) else (some false)) else (some false)))) else (none)) else (none)) else (some true)
def marlineref23_Same.f (k : Nat) (l0 : List (S24)) (l1 : List (S24)) : Option (Bool) := if (l0.length : Int) = (l1.length : Int) then (marlineref23_Same.l0 k l0 l1 0) else (some false)
theorem marlineref23_Same.mono_l : ∀ k, (∀ y0 y1 y2, LeO (marlineref23_Same.l0 k y0 y1 y2) (marlineref23_Same.l0 (k + 1) y0 y1 y2))
  | 0 => fun _ _ _ r h => by simp [marlineref23_Same.l0] at h
  | k + 1 => by
    have ih0 := marlineref23_Same.mono_l k
    · intro y0 y1 y2
      unfold marlineref23_Same.l0
      repeat' first
      | (with_reducible exact ih0 _ _ _)
      | (with_reducible exact LeO.refl _)
      | (with_reducible exact LeO.none _)
      | (with_reducible refine LeO.ite ?_ ?_)
      | (with_reducible refine LeO.bind ?_ (fun _ => ?_))
      | exact ih0 _ _ _
      | exact LeO.none _
      | refine LeO.ite ?_ ?_
      | refine LeO.bind ?_ (fun _ => ?_)
theorem marlineref23_Same.mono : ∀ a0 a1 k, LeO (marlineref23_Same.f k a0 a1) (marlineref23_Same.f (k + 1) a0 a1) := by
  intro a0 a1 k
  have ih0 := marlineref23_Same.mono_l k
  unfold marlineref23_Same.f
  repeat' first
      | (with_reducible exact ih0 _ _ _)
      | (with_reducible exact LeO.refl _)
      | (with_reducible exact LeO.none _)
      | (with_reducible refine LeO.ite ?_ ?_)
      | (with_reducible refine LeO.bind ?_ (fun _ => ?_))
      | exact ih0 _ _ _
      | exact LeO.none _
      | refine LeO.ite ?_ ?_
      | refine LeO.bind ?_ (fun _ => ?_)
set_option maxHeartbeats 8000000 in
set_option maxRecDepth 100000 in
theorem marlineref23_Same.calls (k : Nat) (A0 : Option Addr) (c0 : Nat) (l0 : List (S24)) (A1 : Option Addr) (c1 : Nat) (l1 : List (S24)) (r : Bool) (w : World) (hr0 : Kd.C k24 w A0 l0.length l0) (hc0 : l0.length ≤ c0) (hr1 : Kd.C k24 w A1 l1.length l1) (hc1 : l1.length ≤ c1) (h : marlineref23_Same.f k l0 l1 = some r) :
    Calls Tryd.prog 18 #[.slice A0 l0.length c0, .slice A1 l1.length c1] w fun e w' => e = .returned (.bool r) ∧ Drawn0 w w' := by
  have HR0 := Aside0.mk hr0
  have HC0 := Aside0.mk hc0
  clear hr0 hc0
  have HR1 := Aside0.mk hr1
  have HC1 := Aside0.mk hc1
  clear hr1 hc1
  have H : (if (l0.length : Int) = (l1.length : Int) then (marlineref23_Same.l0 k l0 l1 0) else (some false)) = some r := h
  clear h
  by_cases c3 : (l0.length : Int) = (l1.length : Int)
  · rw [if_pos c3] at H
    have c3b0 : ((l0.length : Int) == (l1.length : Int)) = true := beq_iff_eq.mpr c3
    have c3b1 : ((l0.length : Int) != (l1.length : Int)) = false := bne_eq_false_iff_eq.mpr c3
    have c3b2 : (l0.length == l1.length) = true := by first | simpa using c3 | (simp at c3 ⊢; omega)
    clear c3
    have H' := Aside0.mk H
    clear H
    go_enter Tryd.func18, Tryd.ntmps18
    go_wp2
    repeat (go_quiet (fail); try go_wp2)
    go_loopg [5] k (fun kq v5 w' => ∃ (x5_1 : Int), v5 = .int .i64 x5_1 ∧ Aside0 (marlineref23_Same.l0 kq l0 l1 x5_1 = some r) ∧ Aside0 (kq ≤ k) ∧ Drawn0 w w')
    case atStart => exact ⟨(0), (by first | rfl | (simp; done) | (simp [*]; done)), H', ⟨Nat.le_refl _⟩, by repeat (first | exact Drawn0.refl _ | apply Drawn0.step)⟩
    case round =>
      clear H'
      try clear c1
      try clear p2
      try clear c3
      try clear c3b0
      try clear c3b1
      try clear c3b2
      obtain ⟨x5_1, rfl, HA, HK1, ⟨m1, rfl⟩⟩ := hrel
      cases gk with
      | zero => exact absurd HA.out (by simp [marlineref23_Same.l0])
      | succ k1 =>
        have H := HA.out
        clear HA
        simp only [marlineref23_Same.l0] at H
        by_cases c4 : x5_1 < (l0.length : Int)
        · rw [if_pos c4] at H
          have c4b0 : decide (x5_1 < (l0.length : Int)) = true := decide_eq_true c4
          clear c4
          by_cases c5 : 0 ≤ x5_1
          · rw [if_pos c5] at H
            have c5b0 : decide (0 ≤ x5_1) = true := decide_eq_true c5
            clear c5
            by_cases c6 : x5_1 < (l1.length : Int)
            · rw [if_pos c6] at H
              have c6b0 : decide (x5_1 < (l1.length : Int)) = true := decide_eq_true c6
              clear c6
              by_cases c7 : (((rd_T24 l0 x5_1).f0) != ((rd_T24 l1 x5_1).f0)) = true
              · rw [if_pos c7] at H
                have c7b0 : (((rd_T24 l0 x5_1).f0) != ((rd_T24 l1 x5_1).f0)) = true := c7
                (try (have c7b1 : decide (((rd_T24 l0 x5_1).f0) = ((rd_T24 l1 x5_1).f0)) = false := by simpa using c7))
                (try (have c7b2 : (((rd_T24 l0 x5_1).f0) == ((rd_T24 l1 x5_1).f0)) = false := by simpa using c7))
                (try (have c7b3 : ¬ (((rd_T24 l0 x5_1).f0) = ((rd_T24 l1 x5_1).f0)) := by simpa using c7))
                clear c7
                obtain rfl := Option.some.inj H
                have p143 : 0 ≤ (x5_1 : Int) := of_decide_eq_true (by first | (with_reducible assumption) | assumption)
                have q143 : x5_1 < (l0.length : Int) := of_decide_eq_true (by first | (with_reducible assumption) | assumption)
                obtain ⟨ad143, A143_3, c143_3, e143, hx143_0, hx143_1, hx143_2, hx143_3, hl143_3, hi143_3⟩ := at_T24 HR0.out x5_1 p143 q143
                cases e143
                have HR143_3 := Aside0.mk hi143_3
                have HC143_3 := Aside0.mk hl143_3
                clear hi143_3 hl143_3
                replace p143 := eq_true p143
                replace q143 := eq_true q143
                have p144 : 0 ≤ (x5_1 : Int) := of_decide_eq_true (by first | (with_reducible assumption) | assumption)
                have q144 : x5_1 < (l1.length : Int) := of_decide_eq_true (by first | (with_reducible assumption) | assumption)
                obtain ⟨ad144, A144_3, c144_3, e144, hx144_0, hx144_1, hx144_2, hx144_3, hl144_3, hi144_3⟩ := at_T24 HR1.out x5_1 p144 q144
                cases e144
                have HR144_3 := Aside0.mk hi144_3
                have HC144_3 := Aside0.mk hl144_3
                clear hi144_3 hl144_3
                replace p144 := eq_true p144
                replace q144 := eq_true q144
                go_wp2
                repeat (go_quiet (fail); try go_wp2)
                go_ret
                exact ⟨by first | rfl | (simp; done) | (simp [*]; done), by repeat (first | exact Drawn0.refl _ | apply Drawn0.step)⟩
              · rw [if_neg c7] at H
                have c7b0 : (((rd_T24 l0 x5_1).f0) != ((rd_T24 l1 x5_1).f0)) = false := by simpa using c7
                (try (have c7b1 : decide (((rd_T24 l0 x5_1).f0) = ((rd_T24 l1 x5_1).f0)) = true := by simpa using c7))
                (try (have c7b2 : (((rd_T24 l0 x5_1).f0) == ((rd_T24 l1 x5_1).f0)) = true := by simpa using c7))
                clear c7
                by_cases c8 : (((rd_T24 l0 x5_1).f1) != ((rd_T24 l1 x5_1).f1)) = true
                · rw [if_pos c8] at H
                  have c8b0 : (((rd_T24 l0 x5_1).f1) != ((rd_T24 l1 x5_1).f1)) = true := c8
                  (try (have c8b1 : decide (((rd_T24 l0 x5_1).f1) = ((rd_T24 l1 x5_1).f1)) = false := by simpa using c8))
                  (try (have c8b2 : (((rd_T24 l0 x5_1).f1) == ((rd_T24 l1 x5_1).f1)) = false := by simpa using c8))
                  (try (have c8b3 : ¬ (((rd_T24 l0 x5_1).f1) = ((rd_T24 l1 x5_1).f1)) := by simpa using c8))
                  clear c8
                  obtain rfl := Option.some.inj H
                  have p143 : 0 ≤ (x5_1 : Int) := of_decide_eq_true (by first | (with_reducible assumption) | assumption)
                  have q143 : x5_1 < (l0.length : Int) := of_decide_eq_true (by first | (with_reducible assumption) | assumption)
                  obtain ⟨ad143, A143_3, c143_3, e143, hx143_0, hx143_1, hx143_2, hx143_3, hl143_3, hi143_3⟩ := at_T24 HR0.out x5_1 p143 q143
                  cases e143
                  have HR143_3 := Aside0.mk hi143_3
                  have HC143_3 := Aside0.mk hl143_3
                  clear hi143_3 hl143_3
                  replace p143 := eq_true p143
                  replace q143 := eq_true q143
                  have p144 : 0 ≤ (x5_1 : Int) := of_decide_eq_true (by first | (with_reducible assumption) | assumption)
                  have q144 : x5_1 < (l1.length : Int) := of_decide_eq_true (by first | (with_reducible assumption) | assumption)
                  obtain ⟨ad144, A144_3, c144_3, e144, hx144_0, hx144_1, hx144_2, hx144_3, hl144_3, hi144_3⟩ := at_T24 HR1.out x5_1 p144 q144
                  cases e144
                  have HR144_3 := Aside0.mk hi144_3
                  have HC144_3 := Aside0.mk hl144_3
                  clear hi144_3 hl144_3
                  replace p144 := eq_true p144
                  replace q144 := eq_true q144
                  have p145 : 0 ≤ (x5_1 : Int) := of_decide_eq_true (by first | (with_reducible assumption) | assumption)
                  have q145 : x5_1 < (l0.length : Int) := of_decide_eq_true (by first | (with_reducible assumption) | assumption)
                  obtain ⟨ad145, A145_3, c145_3, e145, hx145_0, hx145_1, hx145_2, hx145_3, hl145_3, hi145_3⟩ := at_T24 HR0.out x5_1 p145 q145
                  obtain rfl : ad143 = ad145 := (by injection e145)
                  have HR145_3 := Aside0.mk hi145_3
                  have HC145_3 := Aside0.mk hl145_3
                  clear hi145_3 hl145_3
                  replace p145 := eq_true p145
                  replace q145 := eq_true q145
                  have ea_ := Option.some.inj (hx143_3.symm.trans hx145_3)
                  injection ea_ with ea_ en_ ec_
                  subst ea_
                  subst ec_
                  clear en_
                  have p146 : 0 ≤ (x5_1 : Int) := of_decide_eq_true (by first | (with_reducible assumption) | assumption)
                  have q146 : x5_1 < (l1.length : Int) := of_decide_eq_true (by first | (with_reducible assumption) | assumption)
                  obtain ⟨ad146, A146_3, c146_3, e146, hx146_0, hx146_1, hx146_2, hx146_3, hl146_3, hi146_3⟩ := at_T24 HR1.out x5_1 p146 q146
                  obtain rfl : ad144 = ad146 := (by injection e146)
                  have HR146_3 := Aside0.mk hi146_3
                  have HC146_3 := Aside0.mk hl146_3
                  clear hi146_3 hl146_3
                  replace p146 := eq_true p146
                  replace q146 := eq_true q146
                  have ea_ := Option.some.inj (hx144_3.symm.trans hx146_3)
                  injection ea_ with ea_ en_ ec_
                  subst ea_
                  subst ec_
                  clear en_
                  go_wp2
                  repeat (go_quiet (fail); try go_wp2)
                  go_ret
                  exact ⟨by first | rfl | (simp; done) | (simp [*]; done), by repeat (first | exact Drawn0.refl _ | apply Drawn0.step)⟩
                · rw [if_neg c8] at H
                  have c8b0 : (((rd_T24 l0 x5_1).f1) != ((rd_T24 l1 x5_1).f1)) = false := by simpa using c8
                  (try (have c8b1 : decide (((rd_T24 l0 x5_1).f1) = ((rd_T24 l1 x5_1).f1)) = true := by simpa using c8))
                  (try (have c8b2 : (((rd_T24 l0 x5_1).f1) == ((rd_T24 l1 x5_1).f1)) = true := by simpa using c8))
                  clear c8
                  by_cases c9 : ((rd_T24 l0 x5_1).f2) = ((rd_T24 l1 x5_1).f2)
                  · rw [if_pos c9] at H
                    have c9b0 : (((rd_T24 l0 x5_1).f2) == ((rd_T24 l1 x5_1).f2)) = true := beq_iff_eq.mpr c9
                    have c9b1 : (((rd_T24 l0 x5_1).f2) != ((rd_T24 l1 x5_1).f2)) = false := bne_eq_false_iff_eq.mpr c9
                    clear c9
                    by_cases c10 : (strOfNums ((rd_T24 l0 x5_1).f3)).toList = (strOfNums ((rd_T24 l1 x5_1).f3)).toList
                    · rw [if_pos c10] at H
                      have c10b0 : ((strOfNums ((rd_T24 l0 x5_1).f3)).toList == (strOfNums ((rd_T24 l1 x5_1).f3)).toList) = true := beq_iff_eq.mpr c10
                      have c10b1 : ((strOfNums ((rd_T24 l0 x5_1).f3)).toList != (strOfNums ((rd_T24 l1 x5_1).f3)).toList) = false := bne_eq_false_iff_eq.mpr c10
                      clear c10
                      have H' := Aside0.mk H
                      clear H
                      have p143 : 0 ≤ (x5_1 : Int) := of_decide_eq_true (by first | (with_reducible assumption) | assumption)
                      have q143 : x5_1 < (l0.length : Int) := of_decide_eq_true (by first | (with_reducible assumption) | assumption)
                      obtain ⟨ad143, A143_3, c143_3, e143, hx143_0, hx143_1, hx143_2, hx143_3, hl143_3, hi143_3⟩ := at_T24 HR0.out x5_1 p143 q143
                      cases e143
                      have HR143_3 := Aside0.mk hi143_3
                      have HC143_3 := Aside0.mk hl143_3
                      clear hi143_3 hl143_3
                      replace p143 := eq_true p143
                      replace q143 := eq_true q143
                      have p144 : 0 ≤ (x5_1 : Int) := of_decide_eq_true (by first | (with_reducible assumption) | assumption)
                      have q144 : x5_1 < (l1.length : Int) := of_decide_eq_true (by first | (with_reducible assumption) | assumption)
                      obtain ⟨ad144, A144_3, c144_3, e144, hx144_0, hx144_1, hx144_2, hx144_3, hl144_3, hi144_3⟩ := at_T24 HR1.out x5_1 p144 q144
                      cases e144
                      have HR144_3 := Aside0.mk hi144_3
                      have HC144_3 := Aside0.mk hl144_3
                      clear hi144_3 hl144_3
                      replace p144 := eq_true p144
                      replace q144 := eq_true q144
                      have p145 : 0 ≤ (x5_1 : Int) := of_decide_eq_true (by first | (with_reducible assumption) | assumption)
                      have q145 : x5_1 < (l0.length : Int) := of_decide_eq_true (by first | (with_reducible assumption) | assumption)
                      obtain ⟨ad145, A145_3, c145_3, e145, hx145_0, hx145_1, hx145_2, hx145_3, hl145_3, hi145_3⟩ := at_T24 HR0.out x5_1 p145 q145
                      obtain rfl : ad143 = ad145 := (by injection e145)
                      have HR145_3 := Aside0.mk hi145_3
                      have HC145_3 := Aside0.mk hl145_3
                      clear hi145_3 hl145_3
                      replace p145 := eq_true p145
                      replace q145 := eq_true q145
                      have ea_ := Option.some.inj (hx143_3.symm.trans hx145_3)
                      injection ea_ with ea_ en_ ec_
                      subst ea_
                      subst ec_
                      clear en_
                      have p146 : 0 ≤ (x5_1 : Int) := of_decide_eq_true (by first | (with_reducible assumption) | assumption)
                      have q146 : x5_1 < (l1.length : Int) := of_decide_eq_true (by first | (with_reducible assumption) | assumption)
                      obtain ⟨ad146, A146_3, c146_3, e146, hx146_0, hx146_1, hx146_2, hx146_3, hl146_3, hi146_3⟩ := at_T24 HR1.out x5_1 p146 q146
                      obtain rfl : ad144 = ad146 := (by injection e146)
                      have HR146_3 := Aside0.mk hi146_3
                      have HC146_3 := Aside0.mk hl146_3
                      clear hi146_3 hl146_3
                      replace p146 := eq_true p146
                      replace q146 := eq_true q146
                      have ea_ := Option.some.inj (hx144_3.symm.trans hx146_3)
                      injection ea_ with ea_ en_ ec_
                      subst ea_
                      subst ec_
                      clear en_
                      have p147 : 0 ≤ (x5_1 : Int) := of_decide_eq_true (by first | (with_reducible assumption) | assumption)
                      have q147 : x5_1 < (l0.length : Int) := of_decide_eq_true (by first | (with_reducible assumption) | assumption)
                      obtain ⟨ad147, A147_3, c147_3, e147, hx147_0, hx147_1, hx147_2, hx147_3, hl147_3, hi147_3⟩ := at_T24 HR0.out x5_1 p147 q147
                      obtain rfl : ad143 = ad147 := (by injection e147)
                      have HR147_3 := Aside0.mk hi147_3
                      have HC147_3 := Aside0.mk hl147_3
                      clear hi147_3 hl147_3
                      replace p147 := eq_true p147
                      replace q147 := eq_true q147
                      have ea_ := Option.some.inj (hx143_3.symm.trans hx147_3)
                      injection ea_ with ea_ en_ ec_
                      subst ea_
                      subst ec_
                      clear en_
                      have p148 : 0 ≤ (x5_1 : Int) := of_decide_eq_true (by first | (with_reducible assumption) | assumption)
                      have q148 : x5_1 < (l1.length : Int) := of_decide_eq_true (by first | (with_reducible assumption) | assumption)
                      obtain ⟨ad148, A148_3, c148_3, e148, hx148_0, hx148_1, hx148_2, hx148_3, hl148_3, hi148_3⟩ := at_T24 HR1.out x5_1 p148 q148
                      obtain rfl : ad144 = ad148 := (by injection e148)
                      have HR148_3 := Aside0.mk hi148_3
                      have HC148_3 := Aside0.mk hl148_3
                      clear hi148_3 hl148_3
                      replace p148 := eq_true p148
                      replace q148 := eq_true q148
                      have ea_ := Option.some.inj (hx144_3.symm.trans hx148_3)
                      injection ea_ with ea_ en_ ec_
                      subst ea_
                      subst ec_
                      clear en_
                      have p149 : 0 ≤ (x5_1 : Int) := of_decide_eq_true (by first | (with_reducible assumption) | assumption)
                      have q149 : x5_1 < (l0.length : Int) := of_decide_eq_true (by first | (with_reducible assumption) | assumption)
                      obtain ⟨ad149, A149_3, c149_3, e149, hx149_0, hx149_1, hx149_2, hx149_3, hl149_3, hi149_3⟩ := at_T24 HR0.out x5_1 p149 q149
                      obtain rfl : ad143 = ad149 := (by injection e149)
                      have HR149_3 := Aside0.mk hi149_3
                      have HC149_3 := Aside0.mk hl149_3
                      clear hi149_3 hl149_3
                      replace p149 := eq_true p149
                      replace q149 := eq_true q149
                      have ea_ := Option.some.inj (hx143_3.symm.trans hx149_3)
                      injection ea_ with ea_ en_ ec_
                      subst ea_
                      subst ec_
                      clear en_
                      have hcv11 := fun m => Kd.C_string (P := Tryd.prog) (A := A143_3) (c := c143_3) Tryd.underlying22 Tryd.underlying5 Tryd.underlying9 (Kd.C_below HR149_3.out (pw_below_drewN (Below.refl _ w) m))
                      have p150 : 0 ≤ (x5_1 : Int) := of_decide_eq_true (by first | (with_reducible assumption) | assumption)
                      have q150 : x5_1 < (l1.length : Int) := of_decide_eq_true (by first | (with_reducible assumption) | assumption)
                      obtain ⟨ad150, A150_3, c150_3, e150, hx150_0, hx150_1, hx150_2, hx150_3, hl150_3, hi150_3⟩ := at_T24 HR1.out x5_1 p150 q150
                      obtain rfl : ad144 = ad150 := (by injection e150)
                      have HR150_3 := Aside0.mk hi150_3
                      have HC150_3 := Aside0.mk hl150_3
                      clear hi150_3 hl150_3
                      replace p150 := eq_true p150
                      replace q150 := eq_true q150
                      have ea_ := Option.some.inj (hx144_3.symm.trans hx150_3)
                      injection ea_ with ea_ en_ ec_
                      subst ea_
                      subst ec_
                      clear en_
                      have hcv12 := fun m => Kd.C_string (P := Tryd.prog) (A := A144_3) (c := c144_3) Tryd.underlying22 Tryd.underlying5 Tryd.underlying9 (Kd.C_below HR150_3.out (pw_below_drewN (Below.refl _ w) m))
                      go_wp2
                      repeat (go_quiet (fail); try go_wp2)
                      go_roundg k1
                      case measure => have := HK1.out; omega
                      case rel => exact ⟨(wrap64 (x5_1 + 1)), (by first | rfl | (simp; done) | (simp [*]; done)), H', ⟨by have := HK1.out; omega⟩, by repeat (first | exact Drawn0.refl _ | apply Drawn0.step)⟩
                    · rw [if_neg c10] at H
                      have c10b0 : ((strOfNums ((rd_T24 l0 x5_1).f3)).toList == (strOfNums ((rd_T24 l1 x5_1).f3)).toList) = false := beq_eq_false_iff_ne.mpr c10
                      have c10b1 : ((strOfNums ((rd_T24 l0 x5_1).f3)).toList != (strOfNums ((rd_T24 l1 x5_1).f3)).toList) = true := bne_iff_ne.mpr c10
                      obtain rfl := Option.some.inj H
                      have p143 : 0 ≤ (x5_1 : Int) := of_decide_eq_true (by first | (with_reducible assumption) | assumption)
                      have q143 : x5_1 < (l0.length : Int) := of_decide_eq_true (by first | (with_reducible assumption) | assumption)
                      obtain ⟨ad143, A143_3, c143_3, e143, hx143_0, hx143_1, hx143_2, hx143_3, hl143_3, hi143_3⟩ := at_T24 HR0.out x5_1 p143 q143
                      cases e143
                      have HR143_3 := Aside0.mk hi143_3
                      have HC143_3 := Aside0.mk hl143_3
                      clear hi143_3 hl143_3
                      replace p143 := eq_true p143
                      replace q143 := eq_true q143
                      have p144 : 0 ≤ (x5_1 : Int) := of_decide_eq_true (by first | (with_reducible assumption) | assumption)
                      have q144 : x5_1 < (l1.length : Int) := of_decide_eq_true (by first | (with_reducible assumption) | assumption)
                      obtain ⟨ad144, A144_3, c144_3, e144, hx144_0, hx144_1, hx144_2, hx144_3, hl144_3, hi144_3⟩ := at_T24 HR1.out x5_1 p144 q144
                      cases e144
                      have HR144_3 := Aside0.mk hi144_3
                      have HC144_3 := Aside0.mk hl144_3
                      clear hi144_3 hl144_3
                      replace p144 := eq_true p144
                      replace q144 := eq_true q144
                      have p145 : 0 ≤ (x5_1 : Int) := of_decide_eq_true (by first | (with_reducible assumption) | assumption)
                      have q145 : x5_1 < (l0.length : Int) := of_decide_eq_true (by first | (with_reducible assumption) | assumption)
                      obtain ⟨ad145, A145_3, c145_3, e145, hx145_0, hx145_1, hx145_2, hx145_3, hl145_3, hi145_3⟩ := at_T24 HR0.out x5_1 p145 q145
                      obtain rfl : ad143 = ad145 := (by injection e145)
                      have HR145_3 := Aside0.mk hi145_3
                      have HC145_3 := Aside0.mk hl145_3
                      clear hi145_3 hl145_3
                      replace p145 := eq_true p145
                      replace q145 := eq_true q145
                      have ea_ := Option.some.inj (hx143_3.symm.trans hx145_3)
                      injection ea_ with ea_ en_ ec_
                      subst ea_
                      subst ec_
                      clear en_
                      have p146 : 0 ≤ (x5_1 : Int) := of_decide_eq_true (by first | (with_reducible assumption) | assumption)
                      have q146 : x5_1 < (l1.length : Int) := of_decide_eq_true (by first | (with_reducible assumption) | assumption)
                      obtain ⟨ad146, A146_3, c146_3, e146, hx146_0, hx146_1, hx146_2, hx146_3, hl146_3, hi146_3⟩ := at_T24 HR1.out x5_1 p146 q146
                      obtain rfl : ad144 = ad146 := (by injection e146)
                      have HR146_3 := Aside0.mk hi146_3
                      have HC146_3 := Aside0.mk hl146_3
                      clear hi146_3 hl146_3
                      replace p146 := eq_true p146
                      replace q146 := eq_true q146
                      have ea_ := Option.some.inj (hx144_3.symm.trans hx146_3)
                      injection ea_ with ea_ en_ ec_
                      subst ea_
                      subst ec_
                      clear en_
                      have p147 : 0 ≤ (x5_1 : Int) := of_decide_eq_true (by first | (with_reducible assumption) | assumption)
                      have q147 : x5_1 < (l0.length : Int) := of_decide_eq_true (by first | (with_reducible assumption) | assumption)
                      obtain ⟨ad147, A147_3, c147_3, e147, hx147_0, hx147_1, hx147_2, hx147_3, hl147_3, hi147_3⟩ := at_T24 HR0.out x5_1 p147 q147
                      obtain rfl : ad143 = ad147 := (by injection e147)
                      have HR147_3 := Aside0.mk hi147_3
                      have HC147_3 := Aside0.mk hl147_3
                      clear hi147_3 hl147_3
                      replace p147 := eq_true p147
                      replace q147 := eq_true q147
                      have ea_ := Option.some.inj (hx143_3.symm.trans hx147_3)
                      injection ea_ with ea_ en_ ec_
                      subst ea_
                      subst ec_
                      clear en_
                      have p148 : 0 ≤ (x5_1 : Int) := of_decide_eq_true (by first | (with_reducible assumption) | assumption)
                      have q148 : x5_1 < (l1.length : Int) := of_decide_eq_true (by first | (with_reducible assumption) | assumption)
                      obtain ⟨ad148, A148_3, c148_3, e148, hx148_0, hx148_1, hx148_2, hx148_3, hl148_3, hi148_3⟩ := at_T24 HR1.out x5_1 p148 q148
                      obtain rfl : ad144 = ad148 := (by injection e148)
                      have HR148_3 := Aside0.mk hi148_3
                      have HC148_3 := Aside0.mk hl148_3
                      clear hi148_3 hl148_3
                      replace p148 := eq_true p148
                      replace q148 := eq_true q148
                      have ea_ := Option.some.inj (hx144_3.symm.trans hx148_3)
                      injection ea_ with ea_ en_ ec_
                      subst ea_
                      subst ec_
                      clear en_
                      have p149 : 0 ≤ (x5_1 : Int) := of_decide_eq_true (by first | (with_reducible assumption) | assumption)
                      have q149 : x5_1 < (l0.length : Int) := of_decide_eq_true (by first | (with_reducible assumption) | assumption)
                      obtain ⟨ad149, A149_3, c149_3, e149, hx149_0, hx149_1, hx149_2, hx149_3, hl149_3, hi149_3⟩ := at_T24 HR0.out x5_1 p149 q149
                      obtain rfl : ad143 = ad149 := (by injection e149)
                      have HR149_3 := Aside0.mk hi149_3
                      have HC149_3 := Aside0.mk hl149_3
                      clear hi149_3 hl149_3
                      replace p149 := eq_true p149
                      replace q149 := eq_true q149
                      have ea_ := Option.some.inj (hx143_3.symm.trans hx149_3)
                      injection ea_ with ea_ en_ ec_
                      subst ea_
                      subst ec_
                      clear en_
                      have hcv13 := fun m => Kd.C_string (P := Tryd.prog) (A := A143_3) (c := c143_3) Tryd.underlying22 Tryd.underlying5 Tryd.underlying9 (Kd.C_below HR149_3.out (pw_below_drewN (Below.refl _ w) m))
                      have p150 : 0 ≤ (x5_1 : Int) := of_decide_eq_true (by first | (with_reducible assumption) | assumption)
                      have q150 : x5_1 < (l1.length : Int) := of_decide_eq_true (by first | (with_reducible assumption) | assumption)
                      obtain ⟨ad150, A150_3, c150_3, e150, hx150_0, hx150_1, hx150_2, hx150_3, hl150_3, hi150_3⟩ := at_T24 HR1.out x5_1 p150 q150
                      obtain rfl : ad144 = ad150 := (by injection e150)
                      have HR150_3 := Aside0.mk hi150_3
                      have HC150_3 := Aside0.mk hl150_3
                      clear hi150_3 hl150_3
                      replace p150 := eq_true p150
                      replace q150 := eq_true q150
                      have ea_ := Option.some.inj (hx144_3.symm.trans hx150_3)
                      injection ea_ with ea_ en_ ec_
                      subst ea_
                      subst ec_
                      clear en_
                      have hcv14 := fun m => Kd.C_string (P := Tryd.prog) (A := A144_3) (c := c144_3) Tryd.underlying22 Tryd.underlying5 Tryd.underlying9 (Kd.C_below HR150_3.out (pw_below_drewN (Below.refl _ w) m))
                      go_wp2
                      repeat (go_quiet (fail); try go_wp2)
                      go_ret
                      exact ⟨by first | rfl | (simp; done) | (simp [*]; done), by repeat (first | exact Drawn0.refl _ | apply Drawn0.step)⟩
                  · rw [if_neg c9] at H
                    have c9b0 : (((rd_T24 l0 x5_1).f2) == ((rd_T24 l1 x5_1).f2)) = false := beq_eq_false_iff_ne.mpr c9
                    have c9b1 : (((rd_T24 l0 x5_1).f2) != ((rd_T24 l1 x5_1).f2)) = true := bne_iff_ne.mpr c9
                    obtain rfl := Option.some.inj H
                    have p143 : 0 ≤ (x5_1 : Int) := of_decide_eq_true (by first | (with_reducible assumption) | assumption)
                    have q143 : x5_1 < (l0.length : Int) := of_decide_eq_true (by first | (with_reducible assumption) | assumption)
                    obtain ⟨ad143, A143_3, c143_3, e143, hx143_0, hx143_1, hx143_2, hx143_3, hl143_3, hi143_3⟩ := at_T24 HR0.out x5_1 p143 q143
                    cases e143
                    have HR143_3 := Aside0.mk hi143_3
                    have HC143_3 := Aside0.mk hl143_3
                    clear hi143_3 hl143_3
                    replace p143 := eq_true p143
                    replace q143 := eq_true q143
                    have p144 : 0 ≤ (x5_1 : Int) := of_decide_eq_true (by first | (with_reducible assumption) | assumption)
                    have q144 : x5_1 < (l1.length : Int) := of_decide_eq_true (by first | (with_reducible assumption) | assumption)
                    obtain ⟨ad144, A144_3, c144_3, e144, hx144_0, hx144_1, hx144_2, hx144_3, hl144_3, hi144_3⟩ := at_T24 HR1.out x5_1 p144 q144
                    cases e144
                    have HR144_3 := Aside0.mk hi144_3
                    have HC144_3 := Aside0.mk hl144_3
                    clear hi144_3 hl144_3
                    replace p144 := eq_true p144
                    replace q144 := eq_true q144
                    have p145 : 0 ≤ (x5_1 : Int) := of_decide_eq_true (by first | (with_reducible assumption) | assumption)
                    have q145 : x5_1 < (l0.length : Int) := of_decide_eq_true (by first | (with_reducible assumption) | assumption)
                    obtain ⟨ad145, A145_3, c145_3, e145, hx145_0, hx145_1, hx145_2, hx145_3, hl145_3, hi145_3⟩ := at_T24 HR0.out x5_1 p145 q145
                    obtain rfl : ad143 = ad145 := (by injection e145)
                    have HR145_3 := Aside0.mk hi145_3
                    have HC145_3 := Aside0.mk hl145_3
                    clear hi145_3 hl145_3
                    replace p145 := eq_true p145
                    replace q145 := eq_true q145
                    have ea_ := Option.some.inj (hx143_3.symm.trans hx145_3)
                    injection ea_ with ea_ en_ ec_
                    subst ea_
                    subst ec_
                    clear en_
                    have p146 : 0 ≤ (x5_1 : Int) := of_decide_eq_true (by first | (with_reducible assumption) | assumption)
                    have q146 : x5_1 < (l1.length : Int) := of_decide_eq_true (by first | (with_reducible assumption) | assumption)
                    obtain ⟨ad146, A146_3, c146_3, e146, hx146_0, hx146_1, hx146_2, hx146_3, hl146_3, hi146_3⟩ := at_T24 HR1.out x5_1 p146 q146
                    obtain rfl : ad144 = ad146 := (by injection e146)
                    have HR146_3 := Aside0.mk hi146_3
                    have HC146_3 := Aside0.mk hl146_3
                    clear hi146_3 hl146_3
                    replace p146 := eq_true p146
                    replace q146 := eq_true q146
                    have ea_ := Option.some.inj (hx144_3.symm.trans hx146_3)
                    injection ea_ with ea_ en_ ec_
                    subst ea_
                    subst ec_
                    clear en_
                    have p147 : 0 ≤ (x5_1 : Int) := of_decide_eq_true (by first | (with_reducible assumption) | assumption)
                    have q147 : x5_1 < (l0.length : Int) := of_decide_eq_true (by first | (with_reducible assumption) | assumption)
                    obtain ⟨ad147, A147_3, c147_3, e147, hx147_0, hx147_1, hx147_2, hx147_3, hl147_3, hi147_3⟩ := at_T24 HR0.out x5_1 p147 q147
                    obtain rfl : ad143 = ad147 := (by injection e147)
                    have HR147_3 := Aside0.mk hi147_3
                    have HC147_3 := Aside0.mk hl147_3
                    clear hi147_3 hl147_3
                    replace p147 := eq_true p147
                    replace q147 := eq_true q147
                    have ea_ := Option.some.inj (hx143_3.symm.trans hx147_3)
                    injection ea_ with ea_ en_ ec_
                    subst ea_
                    subst ec_
                    clear en_
                    have p148 : 0 ≤ (x5_1 : Int) := of_decide_eq_true (by first | (with_reducible assumption) | assumption)
                    have q148 : x5_1 < (l1.length : Int) := of_decide_eq_true (by first | (with_reducible assumption) | assumption)
                    obtain ⟨ad148, A148_3, c148_3, e148, hx148_0, hx148_1, hx148_2, hx148_3, hl148_3, hi148_3⟩ := at_T24 HR1.out x5_1 p148 q148
                    obtain rfl : ad144 = ad148 := (by injection e148)
                    have HR148_3 := Aside0.mk hi148_3
                    have HC148_3 := Aside0.mk hl148_3
                    clear hi148_3 hl148_3
                    replace p148 := eq_true p148
                    replace q148 := eq_true q148
                    have ea_ := Option.some.inj (hx144_3.symm.trans hx148_3)
                    injection ea_ with ea_ en_ ec_
                    subst ea_
                    subst ec_
                    clear en_
                    go_wp2
                    repeat (go_quiet (fail); try go_wp2)
                    go_ret
                    exact ⟨by first | rfl | (simp; done) | (simp [*]; done), by repeat (first | exact Drawn0.refl _ | apply Drawn0.step)⟩
            · rw [if_neg c6] at H
              exact absurd H (by simp)
          · rw [if_neg c5] at H
            exact absurd H (by simp)
        · rw [if_neg c4] at H
          have c4b0 : decide (x5_1 < (l0.length : Int)) = false := decide_eq_false c4
          clear c4
          obtain rfl := Option.some.inj H
          go_wp2
          repeat (go_quiet (fail); try go_wp2)
          go_ret
          exact ⟨by first | rfl | (simp; done) | (simp [*]; done), by repeat (first | exact Drawn0.refl _ | apply Drawn0.step)⟩
  · rw [if_neg c3] at H
    have c3b0 : ((l0.length : Int) == (l1.length : Int)) = false := beq_eq_false_iff_ne.mpr c3
    have c3b1 : ((l0.length : Int) != (l1.length : Int)) = true := bne_iff_ne.mpr c3
    have c3b2 : (l0.length == l1.length) = false := by first | simpa using c3 | (simp at c3 ⊢; omega)
    obtain rfl := Option.some.inj H
    go_enter Tryd.func18, Tryd.ntmps18
    go_wp2
    repeat (go_quiet (fail); try go_wp2)
    go_ret
    exact ⟨by first | rfl | (simp; done) | (simp [*]; done), by repeat (first | exact Drawn0.refl _ | apply Drawn0.step)⟩

-- NOT PRINTED: function 3 (marlinelaw23_FragTells)

end Go.Proofs.YtgopklnfdlnojaaDoor.Ga
