import Derived.Test.YtgopklnfdlnojaaDoorGa0
import Derived.Test.YtgopklnfdlnojaaDoorGa1
namespace Go.Proofs.YtgopklnfdlnojaaDoor.Ga
open Go.RowKit Go.Proofs.YtgopklnfdlnojaaDoorW.PrintWords Go.Proofs.YtgopklnfdlnojaaDoorW.PrintLast Go.Proofs.YtgopklnfdlnojaaDoorW.PrintMore
attribute [local go_sem] max2_int min2_int max_two min_two max_three min_three max_four min_four   -- for this text's walks alone
set_option linter.unusedVariables false
set_option linter.unusedSimpArgs false

/-! ### marlineref23_Split: function 21 -/
mutual
def marlineref23_Split.j0 : Nat → Bool → Int → Int → List Int → Bool → Option ((List (S24)) × Int × Int)
  | 0, _, _, _, _, _ => none
  | k + 1, x0, x1, x2, x3, x25 => if x25 = true then (some (([] : List (S24)), 0, 5)) else (marlineref23_Split.l0 k x0 x2 (([] : List (S24))) x1 x3 true)
def marlineref23_Split.l0 : Nat → Bool → Int → List (S24) → Int → List Int → Bool → Option ((List (S24)) × Int × Int)
  | 0, _, _, _, _, _, _ => none
  | k + 1, x0, x2, x11, x12, x13, x14 => if x14 = true then (marlineref23_Split.j2 k x0 x2 x11 x12 x13 x14 true) else (marlineref23_Split.j2 k x0 x2 x11 x12 x13 x14 (decide ((x13.length : Int) > 0)))
def marlineref23_Split.j2 : Nat → Bool → Int → List (S24) → Int → List Int → Bool → Bool → Option ((List (S24)) × Int × Int)
  | 0, _, _, _, _, _, _, _ => none
  | k + 1, x0, x2, x11, x12, x13, x14, x34 => if x34 = true then (if (x13.length : Int) > x2 then (marlineref23_Split.j3 k x0 x2 x11 x12 x13 x14 x2) else (marlineref23_Split.j3 k x0 x2 x11 x12 x13 x14 (x13.length : Int))) else (if 0 ≤ (wrap64 ((x11.length : Int) - 1)) then (if (wrap64 ((x11.length : Int) - 1)) < (x11.length : Int) then (some ((x11.set ((wrap64 ((x11.length : Int) - 1)) : Int).toNat (⟨(rd_T24 x11 (wrap64 ((x11.length : Int) - 1))).f0, true, (rd_T24 x11 (wrap64 ((x11.length : Int) - 1))).f2, (rd_T24 x11 (wrap64 ((x11.length : Int) - 1))).f3⟩ : S24)), x12, 0)) else (none)) else (none))
def marlineref23_Split.j3 : Nat → Bool → Int → List (S24) → Int → List Int → Bool → Int → Option ((List (S24)) × Int × Int)
  | 0, _, _, _, _, _, _, _ => none
  | k + 1, x0, x2, x11, x12, x13, x14, x15 => if 0 ≤ x15 then (if x15 ≤ (x13.length : Int) then (if x11.length < 3518437208883 then ((some (x11 ++ [(⟨x14, false, x12, (x13.take (x15 : Int).toNat)⟩ : S24)] : List (S24))).bind fun y126 => ((marlineref23_Mod.f x0).bind fun t134 => (if t134 = 0 then (none) else ((marlineref23_Mod.f x0).bind fun t135 => (if (y126.length : Int) > (wrap64 (Int.tdiv t135 2)) then (some (([] : List (S24)), 0, 3)) else (marlineref23_Split.l0 k x0 x2 y126 (Int.tmod (wrap64 (x12 + 1)) t134) (x13.drop (x15 : Int).toNat) false)))))) else (none)) else (none)) else (none)
end
def marlineref23_Split.f (k : Nat) (a0 : Bool) (a1 : Int) (a2 : Int) (l3 : List Int) : Option ((List (S24)) × Int × Int) := if a2 < 1 then (some (([] : List (S24)), 0, 1)) else (if a1 < 0 then (marlineref23_Split.j0 k a0 a1 a2 l3 true) else ((marlineref23_Mod.f a0).bind fun t116 => (marlineref23_Split.j0 k a0 a1 a2 l3 (decide (a1 ≥ t116)))))
theorem marlineref23_Split.mono_l : ∀ k, (∀ y0 y1 y2 y3 y4, LeO (marlineref23_Split.j0 k y0 y1 y2 y3 y4) (marlineref23_Split.j0 (k + 1) y0 y1 y2 y3 y4)) ∧ (∀ y0 y1 y2 y3 y4 y5, LeO (marlineref23_Split.l0 k y0 y1 y2 y3 y4 y5) (marlineref23_Split.l0 (k + 1) y0 y1 y2 y3 y4 y5)) ∧ (∀ y0 y1 y2 y3 y4 y5 y6, LeO (marlineref23_Split.j2 k y0 y1 y2 y3 y4 y5 y6) (marlineref23_Split.j2 (k + 1) y0 y1 y2 y3 y4 y5 y6)) ∧ (∀ y0 y1 y2 y3 y4 y5 y6, LeO (marlineref23_Split.j3 k y0 y1 y2 y3 y4 y5 y6) (marlineref23_Split.j3 (k + 1) y0 y1 y2 y3 y4 y5 y6))
  | 0 => ⟨fun _ _ _ _ _ r h => by simp [marlineref23_Split.j0] at h, fun _ _ _ _ _ _ r h => by simp [marlineref23_Split.l0] at h, fun _ _ _ _ _ _ _ r h => by simp [marlineref23_Split.j2] at h, fun _ _ _ _ _ _ _ r h => by simp [marlineref23_Split.j3] at h⟩
  | k + 1 => by
    obtain ⟨ih0, ih1, ih2, ih3⟩ := marlineref23_Split.mono_l k
    refine ⟨?_, ?_, ?_, ?_⟩
    · intro y0 y1 y2 y3 y4
      unfold marlineref23_Split.j0
      repeat' first
      | (with_reducible exact ih0 _ _ _ _ _)
      | (with_reducible exact ih1 _ _ _ _ _ _)
      | (with_reducible exact ih2 _ _ _ _ _ _ _)
      | (with_reducible exact ih3 _ _ _ _ _ _ _)
      | (with_reducible exact LeO.refl _)
      | (with_reducible exact LeO.none _)
      | (with_reducible refine LeO.ite ?_ ?_)
      | (with_reducible refine LeO.bind ?_ (fun _ => ?_))
      | exact ih0 _ _ _ _ _
      | exact ih1 _ _ _ _ _ _
      | exact ih2 _ _ _ _ _ _ _
      | exact ih3 _ _ _ _ _ _ _
      | exact LeO.none _
      | refine LeO.ite ?_ ?_
      | refine LeO.bind ?_ (fun _ => ?_)
    · intro y0 y1 y2 y3 y4 y5
      unfold marlineref23_Split.l0
      repeat' first
      | (with_reducible exact ih0 _ _ _ _ _)
      | (with_reducible exact ih1 _ _ _ _ _ _)
      | (with_reducible exact ih2 _ _ _ _ _ _ _)
      | (with_reducible exact ih3 _ _ _ _ _ _ _)
      | (with_reducible exact LeO.refl _)
      | (with_reducible exact LeO.none _)
      | (with_reducible refine LeO.ite ?_ ?_)
      | (with_reducible refine LeO.bind ?_ (fun _ => ?_))
      | exact ih0 _ _ _ _ _
      | exact ih1 _ _ _ _ _ _
      | exact ih2 _ _ _ _ _ _ _
      | exact ih3 _ _ _ _ _ _ _
      | exact LeO.none _
      | refine LeO.ite ?_ ?_
      | refine LeO.bind ?_ (fun _ => ?_)
    · intro y0 y1 y2 y3 y4 y5 y6
      unfold marlineref23_Split.j2
      repeat' first
      | (with_reducible exact ih0 _ _ _ _ _)
      | (with_reducible exact ih1 _ _ _ _ _ _)
      | (with_reducible exact ih2 _ _ _ _ _ _ _)
      | (with_reducible exact ih3 _ _ _ _ _ _ _)
      | (with_reducible exact LeO.refl _)
      | (with_reducible exact LeO.none _)
      | (with_reducible refine LeO.ite ?_ ?_)
      | (with_reducible refine LeO.bind ?_ (fun _ => ?_))
      | exact ih0 _ _ _ _ _
      | exact ih1 _ _ _ _ _ _
      | exact ih2 _ _ _ _ _ _ _
      | exact ih3 _ _ _ _ _ _ _
      | exact LeO.none _
      | refine LeO.ite ?_ ?_
      | refine LeO.bind ?_ (fun _ => ?_)
    · intro y0 y1 y2 y3 y4 y5 y6
      unfold marlineref23_Split.j3
      repeat' first
      | (with_reducible exact ih0 _ _ _ _ _)
      | (with_reducible exact ih1 _ _ _ _ _ _)
      | (with_reducible exact ih2 _ _ _ _ _ _ _)
      | (with_reducible exact ih3 _ _ _ _ _ _ _)
      | (with_reducible exact LeO.refl _)
      | (with_reducible exact LeO.none _)
      | (with_reducible refine LeO.ite ?_ ?_)
      | (with_reducible refine LeO.bind ?_ (fun _ => ?_))
      | exact ih0 _ _ _ _ _
      | exact ih1 _ _ _ _ _ _
      | exact ih2 _ _ _ _ _ _ _
      | exact ih3 _ _ _ _ _ _ _
      | exact LeO.none _
      | refine LeO.ite ?_ ?_
      | refine LeO.bind ?_ (fun _ => ?_)
theorem marlineref23_Split.mono : ∀ a0 a1 a2 a3 k, LeO (marlineref23_Split.f k a0 a1 a2 a3) (marlineref23_Split.f (k + 1) a0 a1 a2 a3) := by
  intro a0 a1 a2 a3 k
  obtain ⟨ih0, ih1, ih2, ih3⟩ := marlineref23_Split.mono_l k
  unfold marlineref23_Split.f
  repeat' first
      | (with_reducible exact ih0 _ _ _ _ _)
      | (with_reducible exact ih1 _ _ _ _ _ _)
      | (with_reducible exact ih2 _ _ _ _ _ _ _)
      | (with_reducible exact ih3 _ _ _ _ _ _ _)
      | (with_reducible exact LeO.refl _)
      | (with_reducible exact LeO.none _)
      | (with_reducible refine LeO.ite ?_ ?_)
      | (with_reducible refine LeO.bind ?_ (fun _ => ?_))
      | exact ih0 _ _ _ _ _
      | exact ih1 _ _ _ _ _ _
      | exact ih2 _ _ _ _ _ _ _
      | exact ih3 _ _ _ _ _ _ _
      | exact LeO.none _
      | refine LeO.ite ?_ ?_
      | refine LeO.bind ?_ (fun _ => ?_)
set_option maxHeartbeats 8000000 in
set_option maxRecDepth 100000 in
theorem marlineref23_Split.calls (k : Nat) (a0 : Bool) (a1 : Int) (a2 : Int) (P3_ : Nat → Prop) (A3 : Option Addr) (c3 : Nat) (l3 : List Int) (r1 : List (S24)) (r2 : Int) (r3 : Int) (w : World) (hs3 : Kd.V (Kd.int .u8) 5 w w.heap.size (fun k_ => P3_ k_) (.slice A3 l3.length c3) l3) (h : marlineref23_Split.f k a0 a1 a2 l3 = some (r1, r2, r3)) :
    Calls Tryd.prog 21 #[.bool a0, .int .i64 a1, .int .i64 a2, .slice A3 l3.length c3] w fun e w' => ∃ v0_ : Value, e = .returned (.tuple #[v0_, .int .i64 r2, .int .i64 r3]) ∧ Kd.N k24 24 w' w.heap.size (fun k_ => (P3_ k_ ∨ w.heap.size ≤ k_)) v0_ r1 ∧ Below w.heap.size w w' := by
  have hu24 := Tryd.underlying24
  have HO3 := Aside0.mk (show Kd.V (Kd.int .u8) 5 w w.heap.size (fun k_ => (P3_ k_ ∨ w.heap.size ≤ k_)) (.slice A3 l3.length c3) l3 from Kd.V_mono hs3 (fun k_ hk => .inl hk))
  have HB := Aside0.mk (Below.refl w.heap.size w)
  have H : (if a2 < 1 then (some (([] : List (S24)), 0, 1)) else (if a1 < 0 then (marlineref23_Split.j0 k a0 a1 a2 l3 true) else ((marlineref23_Mod.f a0).bind fun t116 => (marlineref23_Split.j0 k a0 a1 a2 l3 (decide (a1 ≥ t116)))))) = some (r1, r2, r3) := h
  clear h
  by_cases c5 : a2 < 1
  · rw [if_pos c5] at H
    have c5b0 : decide (a2 < 1) = true := decide_eq_true c5
    clear c5
    simp only [Option.some.injEq, Prod.mk.injEq] at H
    obtain ⟨rfl, rfl, rfl⟩ := H
    go_enter Tryd.func21, Tryd.ntmps21
    go_wp2
    go_ret3
    exact ⟨_, by first | rfl | (simp [errW_none, errW_some] <;> rfl) | (simp [*, errW_none, errW_some] <;> rfl), by first | exact Kd.S_nil _ _ _ _ _ | exact Kd.N_nil _ _ _ _ _ | exact Kd.V_nil _ _ _ _ _ | exact Kd.Q_nil _ _ _ _ _ | exact Kd.R_nil _ _ _ _ _, by repeat (first | (with_reducible first | exact HB.out | apply below_alloc | apply pw_below_drewN | apply below_drew1) | exact HB.out)⟩
  · rw [if_neg c5] at H
    have c5b0 : decide (a2 < 1) = false := decide_eq_false c5
    clear c5
    have HC6 := Aside0.mk H
    clear H
    go_enter Tryd.func21, Tryd.ntmps21
    go_upto_region 3 with (fail)
    go_cut [25] (fun v25 wc => ∃ (kq : Nat) (x25_5 : Bool), v25 = .bool x25_5 ∧ Aside0 (marlineref23_Split.j0 kq a0 a1 a2 l3 x25_5 = some (r1, r2, r3)) ∧ Aside0 (kq ≤ k) ∧ Aside0 (Kd.V (Kd.int .u8) 5 wc w.heap.size (fun k_ => (P3_ k_ ∨ w.heap.size ≤ k_)) (.slice A3 l3.length c3) l3) ∧ Aside0 (Below w.heap.size w wc))
    case first =>
      have H := HC6.out
      clear HC6
      by_cases c7 : a1 < 0
      · rw [if_pos c7] at H
        have c7b0 : decide (a1 < 0) = true := decide_eq_true c7
        clear c7
        (first | rw [c7b0] | (simp only [i64_w, i32_w]; rw [c7b0]) | skip)
        have H' := Aside0.mk H
        clear H
        go_wp2
        go_meet
        case rel => exact ⟨_, (true), (by first | rfl | (simp; done) | (simp [*]; done)), H', ⟨by first | omega | exact Nat.le_refl _⟩, ⟨by (with_reducible repeat (first | apply Kd.V_alloc | apply Kd.V_drewN | apply Kd.V_drew)); exact HO3.out⟩, ⟨by repeat (first | (with_reducible first | exact HB.out | apply below_alloc | apply pw_below_drewN | apply below_drew1) | exact HB.out)⟩⟩
      · rw [if_neg c7] at H
        have c7b0 : decide (a1 < 0) = false := decide_eq_false c7
        clear c7
        (first | rw [c7b0] | (simp only [i64_w, i32_w]; rw [c7b0]) | skip)
        replace H := Option.bind_eq_some_iff.mp H
        obtain ⟨t116, A80, H⟩ := H
        replace H : (marlineref23_Split.j0 k a0 a1 a2 l3 (decide (a1 ≥ t116))) = some (r1, r2, r3) := H
        have A8 := Aside0.mk A80
        clear A80
        have H' := Aside0.mk H
        clear H
        go_wp2_with (first | (go_at_call 40; (with_reducible refine (marlineref23_Mod.calls a0 t116 _ A8.out).mono ?_); rintro e w' ⟨rfl, ⟨nd, rfl⟩⟩))
        go_meet
        case rel => exact ⟨_, (decide (a1 ≥ t116)), (by first | rfl | (simp; done) | (simp [*]; done)), H', ⟨by first | omega | exact Nat.le_refl _⟩, ⟨by (with_reducible repeat (first | apply Kd.V_alloc | apply Kd.V_drewN | apply Kd.V_drew)); exact HO3.out⟩, ⟨by repeat (first | (with_reducible first | exact HB.out | apply below_alloc | apply pw_below_drewN | apply below_drew1) | exact HB.out)⟩⟩
    case rest =>
      clear HC6
      try clear c2
      try clear p2
      try clear c3
      try clear c5
      try clear c5b0
      try clear c7
      try clear c7b0
      obtain ⟨kq, x25_5, rfl, HA, HJ5, HO_3, HB⟩ := hcut
      cases kq with
      | zero => exact absurd HA.out (by simp [marlineref23_Split.j0])
      | succ kj5 =>
        have H := HA.out
        clear HA
        simp only [marlineref23_Split.j0] at H
        by_cases c9 : x25_5 = true
        · subst c9
          have H1 : (some (([] : List (S24)), 0, 5)) = some (r1, r2, r3) := by rw [if_pos rfl] at H; exact H
          clear H
          have H := H1
          clear H1
          simp only [Option.some.injEq, Prod.mk.injEq] at H
          obtain ⟨rfl, rfl, rfl⟩ := H
          go_wp2
          go_ret3
          exact ⟨_, by first | rfl | (simp [errW_none, errW_some] <;> rfl) | (simp [*, errW_none, errW_some] <;> rfl), by first | exact Kd.S_nil _ _ _ _ _ | exact Kd.N_nil _ _ _ _ _ | exact Kd.V_nil _ _ _ _ _ | exact Kd.Q_nil _ _ _ _ _ | exact Kd.R_nil _ _ _ _ _, by repeat (first | (with_reducible first | exact HB.out | apply below_alloc | apply pw_below_drewN | apply below_drew1) | exact HB.out)⟩
        · replace c9 := Bool.eq_false_iff.mpr c9
          subst c9
          have H1 : (marlineref23_Split.l0 kj5 a0 a2 (([] : List (S24))) a1 l3 true) = some (r1, r2, r3) := by rw [if_neg (show ¬ (false = true) by decide)] at H; exact H
          clear H
          have H := H1
          clear H1
          obtain ⟨y117, hy117⟩ : ∃ y_ : List (S24), y_ = (([] : List (S24))) := ⟨_, rfl⟩
          replace H : (marlineref23_Split.l0 kj5 a0 a2 y117 a1 l3 true) = some (r1, r2, r3) := by first | (rw [hy117]; with_reducible exact H) | (have H2_ := (Option.bind_some _ _).symm.trans H; rw [hy117]; with_reducible exact H2_) | (have H2_ := (Option.bind_some _ _).symm.trans H; with_reducible exact H2_) | with_reducible exact H | (rw [hy117]; exact H) | exact H
          have Ny117 := Aside0.mk hy117
          clear hy117
          have H' := Aside0.mk H
          clear H
          go_wp2_with (first | ((with_reducible refine gate_dst (N := 26) rfl ?_); (try (refine gate_guard (by rfl) ?_; dsimp only)); refine Kd.N_lit k24 _ 24 ?hg (N' := 26) ?hd (xs := ([] : List (S24))) (inner := []) (ok := (fun k_ => (P3_ k_ ∨ w.heap.size ≤ k_))) (okp := (fun k_ => (P3_ k_ ∨ w.heap.size ≤ k_))) ?hr ?hp (fun _ hk => hk) ((show ∀ k_, wc.heap.size ≤ k_ → (fun k_ => (P3_ k_ ∨ w.heap.size ≤ k_)) k_ from fun k_ hk => (.inr (Nat.le_trans (below_size (by repeat (first | (with_reducible first | exact HB.out | apply below_alloc | apply pw_below_drewN | apply below_drew1) | exact HB.out))) hk))) _ (Nat.le_refl _)) (Below.refl _ _) (Nat.le_refl _) (by simp) ?_; (case hd => rfl); (case hg => rfl); (case hr => first | (go_simp; done) | (go_simp; rfl)); (case hp => exact (Reps.none _ _)); intro v118 w10 ho11 hb hg_ hnew_; clear hg_ hnew_; (first | rw [← Ny117.out] at ho11 | (simp only [Int.reduceToNat] at ho11; rw [← Ny117.out] at ho11)); have n0_ := Aside0.mk (Kd.V_elder' (by (with_reducible repeat (first | apply Kd.V_alloc | apply Kd.V_drewN | apply Kd.V_drew)); exact HO_3.out) (Kd.N_base ho11) hb); have n1_ := Aside0.mk (Kd.N_lower ho11 (below_size (by repeat (first | (with_reducible first | exact HB.out | apply below_alloc | apply pw_below_drewN | apply below_drew1) | exact HB.out)))); have n2_ := Aside0.mk (below_step (by repeat (first | (with_reducible first | exact HB.out | apply below_alloc | apply pw_below_drewN | apply below_drew1) | exact HB.out)) hb); clear HO_3; clear HB; have HO_3 := n0_; have HO119 := n1_; have HB := n2_; clear n0_ n1_ n2_; clear hb ho11))
          go_loopg [11, 12, 13, 14] kj5 (fun kq v11 v12 v13 v14 w' => ∃ (x11_2 : List (S24)) (x12_2 : Int) (x13_2 : List Int) (x14_2 : Bool), v12 = .int .i64 x12_2 ∧ v14 = .bool x14_2 ∧ Aside0 (marlineref23_Split.l0 kq a0 a2 x11_2 x12_2 x13_2 x14_2 = some (r1, r2, r3)) ∧ Aside0 (kq ≤ kj5) ∧ Aside0 (Kd.N k24 24 w' w.heap.size (fun k_ => (P3_ k_ ∨ w.heap.size ≤ k_)) v11 x11_2) ∧ Aside0 (Kd.V (Kd.int .u8) 5 w' w.heap.size (fun k_ => (P3_ k_ ∨ w.heap.size ≤ k_) ∧ some k_ ≠ (v11 : Value).ownBlock) v13 x13_2) ∧ Aside0 (Below w.heap.size w w'))
          case atStart => exact ⟨(y117), (a1), (l3), (true), (by first | rfl | (simp; done) | (simp [*]; done)), (by first | rfl | (simp; done) | (simp [*]; done)), H', ⟨Nat.le_refl _⟩, ⟨by (with_reducible repeat (first | apply Kd.N_alloc | apply Kd.N_drewN | apply Kd.N_drew)); exact HO119.out⟩, ⟨by (with_reducible repeat (first | apply Kd.V_alloc | apply Kd.V_drewN | apply Kd.V_drew)); exact HO_3.out⟩, ⟨by repeat (first | (with_reducible first | exact HB.out | apply below_alloc | apply pw_below_drewN | apply below_drew1) | exact HB.out)⟩⟩
          case round =>
            clear H'
            try clear c2
            try clear p2
            try clear c3
            try clear c5
            try clear c5b0
            try clear c7
            try clear c7b0
            try clear c9
            try clear p2
            obtain ⟨x11_2, x12_2, x13_2, x14_2, rfl, rfl, HA, HK2, HO_11, HO_13, HB⟩ := hrel
            cases gk with
            | zero => exact absurd HA.out (by simp [marlineref23_Split.l0])
            | succ k2 =>
              have H := HA.out
              clear HA
              simp only [marlineref23_Split.l0] at H
              have HC12 := Aside0.mk H
              clear H
              go_upto_region 9 with (fail)
              go_cut [34] (fun v34 wc => ∃ (kq : Nat) (x34_11 : Bool), v34 = .bool x34_11 ∧ Aside0 (marlineref23_Split.j2 kq a0 a2 x11_2 x12_2 x13_2 x14_2 x34_11 = some (r1, r2, r3)) ∧ Aside0 (kq ≤ k2) ∧ Aside0 (Kd.N k24 24 wc w.heap.size (fun k_ => (P3_ k_ ∨ w.heap.size ≤ k_)) u11 x11_2) ∧ Aside0 (Kd.V (Kd.int .u8) 5 wc w.heap.size (fun k_ => (P3_ k_ ∨ w.heap.size ≤ k_) ∧ some k_ ≠ (u11 : Value).ownBlock) u13 x13_2) ∧ Aside0 (Below w.heap.size w wc))
              case first =>
                have H := HC12.out
                clear HC12
                by_cases c13 : x14_2 = true
                · subst c13
                  have H1 : (marlineref23_Split.j2 k2 a0 a2 x11_2 x12_2 x13_2 true true) = some (r1, r2, r3) := by rw [if_pos rfl] at H; exact H
                  clear H
                  have H := H1
                  clear H1
                  have H' := Aside0.mk H
                  clear H
                  go_wp2
                  go_meet
                  case rel => exact ⟨_, (true), (by first | rfl | (simp; done) | (simp [*]; done)), H', ⟨by have := HJ5.out; have := HK2.out; first | omega | exact Nat.le_refl _⟩, ⟨by (with_reducible repeat (first | apply Kd.N_alloc | apply Kd.N_drewN | apply Kd.N_drew)); exact HO_11.out⟩, ⟨by (with_reducible repeat (first | apply Kd.V_alloc | apply Kd.V_drewN | apply Kd.V_drew)); exact HO_13.out⟩, ⟨by repeat (first | (with_reducible first | exact HB.out | apply below_alloc | apply pw_below_drewN | apply below_drew1) | exact HB.out)⟩⟩
                · replace c13 := Bool.eq_false_iff.mpr c13
                  subst c13
                  have H1 : (marlineref23_Split.j2 k2 a0 a2 x11_2 x12_2 x13_2 false (decide ((x13_2.length : Int) > 0))) = some (r1, r2, r3) := by rw [if_neg (show ¬ (false = true) by decide)] at H; exact H
                  clear H
                  have H := H1
                  clear H1
                  have H' := Aside0.mk H
                  clear H
                  obtain ⟨Ao14, co14, eo14⟩ := Kd.V_slice HO_13.out
                  subst eo14
                  go_wp2
                  go_meet
                  case rel => exact ⟨_, (decide ((x13_2.length : Int) > 0)), (by first | rfl | (simp; done) | (simp [*]; done)), H', ⟨by have := HJ5.out; have := HK2.out; first | omega | exact Nat.le_refl _⟩, ⟨by (with_reducible repeat (first | apply Kd.N_alloc | apply Kd.N_drewN | apply Kd.N_drew)); exact HO_11.out⟩, ⟨by (with_reducible repeat (first | apply Kd.V_alloc | apply Kd.V_drewN | apply Kd.V_drew)); exact HO_13.out⟩, ⟨by repeat (first | (with_reducible first | exact HB.out | apply below_alloc | apply pw_below_drewN | apply below_drew1) | exact HB.out)⟩⟩
              case rest =>
                clear HC12
                try clear c1
                try clear c2
                try clear p2
                try clear c3
                try clear c5
                try clear c5b0
                try clear c7
                try clear c7b0
                try clear c9
                try clear c13
                try clear p2
                obtain ⟨kq, x34_11, rfl, HA, HJ11, HO_11, HO_13, HB⟩ := hcut
                cases kq with
                | zero => exact absurd HA.out (by simp [marlineref23_Split.j2])
                | succ kj11 =>
                  have H := HA.out
                  clear HA
                  simp only [marlineref23_Split.j2] at H
                  by_cases c15 : x34_11 = true
                  · subst c15
                    have H1 : (if (x13_2.length : Int) > a2 then (marlineref23_Split.j3 kj11 a0 a2 x11_2 x12_2 x13_2 x14_2 a2) else (marlineref23_Split.j3 kj11 a0 a2 x11_2 x12_2 x13_2 x14_2 (x13_2.length : Int))) = some (r1, r2, r3) := by rw [if_pos rfl] at H; exact H
                    clear H
                    have H := H1
                    clear H1
                    have HC16 := Aside0.mk H
                    clear H
                    obtain ⟨Ao17, co17, eo17⟩ := Kd.V_slice HO_13.out
                    subst eo17
                    go_upto_if 39 with (fail)
                    go_cut [15] (fun v15 wc => ∃ (kq : Nat) (x15_15 : Int), v15 = .int .i64 x15_15 ∧ Aside0 (marlineref23_Split.j3 kq a0 a2 x11_2 x12_2 x13_2 x14_2 x15_15 = some (r1, r2, r3)) ∧ Aside0 (kq ≤ kj11) ∧ Aside0 (Kd.N k24 24 wc w.heap.size (fun k_ => (P3_ k_ ∨ w.heap.size ≤ k_)) u11 x11_2) ∧ Aside0 (Kd.V (Kd.int .u8) 5 wc w.heap.size (fun k_ => (P3_ k_ ∨ w.heap.size ≤ k_) ∧ some k_ ≠ (u11 : Value).ownBlock) (.slice Ao17 x13_2.length co17) x13_2) ∧ Aside0 (Below w.heap.size w wc))
                    case first =>
                      have H := HC16.out
                      clear HC16
                      by_cases c18 : (x13_2.length : Int) > a2
                      · rw [if_pos c18] at H
                        have c18b0 : decide (a2 < (x13_2.length : Int)) = true := decide_eq_true c18
                        clear c18
                        (first | rw [c18b0] | (simp only [i64_w, i32_w]; rw [c18b0]) | skip)
                        have H' := Aside0.mk H
                        clear H
                        go_wp2
                        go_meet
                        case rel => exact ⟨_, (a2), (by first | rfl | (simp; done) | (simp [*]; done)), H', ⟨by have := HJ5.out; have := HK2.out; have := HJ11.out; first | omega | exact Nat.le_refl _⟩, ⟨by (with_reducible repeat (first | apply Kd.N_alloc | apply Kd.N_drewN | apply Kd.N_drew)); exact HO_11.out⟩, ⟨by (with_reducible repeat (first | apply Kd.V_alloc | apply Kd.V_drewN | apply Kd.V_drew)); exact HO_13.out⟩, ⟨by repeat (first | (with_reducible first | exact HB.out | apply below_alloc | apply pw_below_drewN | apply below_drew1) | exact HB.out)⟩⟩
                      · rw [if_neg c18] at H
                        have c18b0 : decide (a2 < (x13_2.length : Int)) = false := decide_eq_false c18
                        clear c18
                        (first | rw [c18b0] | (simp only [i64_w, i32_w]; rw [c18b0]) | skip)
                        have H' := Aside0.mk H
                        clear H
                        go_wp2
                        go_meet
                        case rel => exact ⟨_, ((x13_2.length : Int)), (by first | rfl | (simp; done) | (simp [*]; done)), H', ⟨by have := HJ5.out; have := HK2.out; have := HJ11.out; first | omega | exact Nat.le_refl _⟩, ⟨by (with_reducible repeat (first | apply Kd.N_alloc | apply Kd.N_drewN | apply Kd.N_drew)); exact HO_11.out⟩, ⟨by (with_reducible repeat (first | apply Kd.V_alloc | apply Kd.V_drewN | apply Kd.V_drew)); exact HO_13.out⟩, ⟨by repeat (first | (with_reducible first | exact HB.out | apply below_alloc | apply pw_below_drewN | apply below_drew1) | exact HB.out)⟩⟩
                    case rest =>
                      clear HC16
                      try clear c1
                      try clear c2
                      try clear p2
                      try clear c3
                      try clear c5
                      try clear c5b0
                      try clear c7
                      try clear c7b0
                      try clear c9
                      try clear c13
                      try clear c15
                      try clear c18
                      try clear c18b0
                      try clear p2
                      obtain ⟨kq, x15_15, rfl, HA, HJ15, HO_11, HO_13, HB⟩ := hcut
                      cases kq with
                      | zero => exact absurd HA.out (by simp [marlineref23_Split.j3])
                      | succ kj15 =>
                        have H := HA.out
                        clear HA
                        simp only [marlineref23_Split.j3] at H
                        by_cases c19 : 0 ≤ x15_15
                        · rw [if_pos c19] at H
                          have c19b0 := eq_true c19
                          have c19b1 : decide (0 ≤ x15_15) = true := decide_eq_true c19
                          clear c19
                          by_cases c20 : x15_15 ≤ (x13_2.length : Int)
                          · rw [if_pos c20] at H
                            have c20b0 := eq_true c20
                            have c20b1 : decide (x15_15 ≤ (x13_2.length : Int)) = true := decide_eq_true c20
                            clear c20
                            obtain ⟨y121, hy121⟩ : ∃ y_ : List Int, y_ = (x13_2.take (x15_15 : Int).toNat) := ⟨_, rfl⟩
                            replace H : (if x11_2.length < 3518437208883 then ((some (x11_2 ++ [(⟨x14_2, false, x12_2, y121⟩ : S24)] : List (S24))).bind fun y126 => ((marlineref23_Mod.f a0).bind fun t134 => (if t134 = 0 then (none) else ((marlineref23_Mod.f a0).bind fun t135 => (if (y126.length : Int) > (wrap64 (Int.tdiv t135 2)) then (some (([] : List (S24)), 0, 3)) else (marlineref23_Split.l0 kj15 a0 a2 y126 (Int.tmod (wrap64 (x12_2 + 1)) t134) (x13_2.drop (x15_15 : Int).toNat) false)))))) else (none)) = some (r1, r2, r3) := by first | (rw [hy121]; with_reducible exact H) | (have H2_ := (Option.bind_some _ _).symm.trans H; rw [hy121]; with_reducible exact H2_) | (have H2_ := (Option.bind_some _ _).symm.trans H; with_reducible exact H2_) | with_reducible exact H | (rw [hy121]; exact H) | exact H
                            have Ny121 := Aside0.mk hy121
                            clear hy121
                            by_cases c21 : x11_2.length < 3518437208883
                            · rw [if_pos c21] at H
                              have LMc21 := Aside0.mk c21
                              clear c21
                              obtain ⟨y126, hy126⟩ : ∃ y_ : List (S24), y_ = (x11_2 ++ [(⟨x14_2, false, x12_2, y121⟩ : S24)]) := ⟨_, rfl⟩
                              replace H : ((marlineref23_Mod.f a0).bind fun t134 => (if t134 = 0 then (none) else ((marlineref23_Mod.f a0).bind fun t135 => (if (y126.length : Int) > (wrap64 (Int.tdiv t135 2)) then (some (([] : List (S24)), 0, 3)) else (marlineref23_Split.l0 kj15 a0 a2 y126 (Int.tmod (wrap64 (x12_2 + 1)) t134) (x13_2.drop (x15_15 : Int).toNat) false))))) = some (r1, r2, r3) := by first | (rw [hy126]; with_reducible exact H) | (have H2_ := (Option.bind_some _ _).symm.trans H; rw [hy126]; with_reducible exact H2_) | (have H2_ := (Option.bind_some _ _).symm.trans H; with_reducible exact H2_) | with_reducible exact H | (rw [hy126]; exact H) | exact H
                              have Ny126 := Aside0.mk hy126
                              clear hy126
                              have c22b0 := eq_true (of_decide_eq_true (by first | (with_reducible assumption) | assumption) : 0 ≤ x15_15)
                              have c23b0 := eq_true (of_decide_eq_true (by first | (with_reducible assumption) | assumption) : x15_15 ≤ (x13_2.length : Int))
                              obtain ⟨y129, hy129⟩ : ∃ y_ : List Int, y_ = (x13_2.drop (x15_15 : Int).toNat) := ⟨_, rfl⟩
                              replace H : ((marlineref23_Mod.f a0).bind fun t134 => (if t134 = 0 then (none) else ((marlineref23_Mod.f a0).bind fun t135 => (if (y126.length : Int) > (wrap64 (Int.tdiv t135 2)) then (some (([] : List (S24)), 0, 3)) else (marlineref23_Split.l0 kj15 a0 a2 y126 (Int.tmod (wrap64 (x12_2 + 1)) t134) y129 false))))) = some (r1, r2, r3) := by first | (rw [hy129]; with_reducible exact H) | (have H2_ := (Option.bind_some _ _).symm.trans H; rw [hy129]; with_reducible exact H2_) | (have H2_ := (Option.bind_some _ _).symm.trans H; with_reducible exact H2_) | with_reducible exact H | (rw [hy129]; exact H) | exact H
                              have Ny129 := Aside0.mk hy129
                              clear hy129
                              replace H := Option.bind_eq_some_iff.mp H
                              obtain ⟨t134, A240, H⟩ := H
                              replace H : (if t134 = 0 then (none) else ((marlineref23_Mod.f a0).bind fun t135 => (if (y126.length : Int) > (wrap64 (Int.tdiv t135 2)) then (some (([] : List (S24)), 0, 3)) else (marlineref23_Split.l0 kj15 a0 a2 y126 (Int.tmod (wrap64 (x12_2 + 1)) t134) y129 false)))) = some (r1, r2, r3) := H
                              have A24 := Aside0.mk A240
                              clear A240
                              by_cases c25 : t134 = 0
                              · rw [if_pos c25] at H
                                exact absurd H (by simp)
                              · rw [if_neg c25] at H
                                have c25b0 : (t134 == 0) = false := beq_eq_false_iff_ne.mpr c25
                                have c25b1 : (t134 != 0) = true := bne_iff_ne.mpr c25
                                replace H := Option.bind_eq_some_iff.mp H
                                obtain ⟨t135, A260, H⟩ := H
                                replace H : (if (y126.length : Int) > (wrap64 (Int.tdiv t135 2)) then (some (([] : List (S24)), 0, 3)) else (marlineref23_Split.l0 kj15 a0 a2 y126 (Int.tmod (wrap64 (x12_2 + 1)) t134) y129 false)) = some (r1, r2, r3) := H
                                have A26 := Aside0.mk A260
                                clear A260
                                by_cases c27 : (y126.length : Int) > (wrap64 (Int.tdiv t135 2))
                                · rw [if_pos c27] at H
                                  have c27b0 : decide ((wrap64 (Int.tdiv t135 2)) < (y126.length : Int)) = true := decide_eq_true c27
                                  clear c27
                                  simp only [Option.some.injEq, Prod.mk.injEq] at H
                                  obtain ⟨rfl, rfl, rfl⟩ := H
                                  have q28 : (x15_15 : Int) ≤ ((x13_2.length : Int) : Int) := of_decide_eq_true (by first | (with_reducible assumption) | assumption)
                                  obtain ⟨i028, hi028, _, hsz28, _⟩ := info_parts info5
                                  have hroom28 : x13_2.length ≤ co17 := (Kd.V_reads' HO_13.out).2.1
                                  have hC28 : Kd.F (Kd.int .u8) _ _ Ao17 x13_2.length x13_2 := (Kd.V_at (base := w.heap.size) HO_13.out).2.2
                                  have hcut28 := cut_to (P := Tryd.prog) 22 5 .i64 Tryd.underlying22 hi028 Ao17 x13_2.length co17 x15_15 (of_decide_eq_true (by first | (with_reducible assumption) | assumption)) q28 hroom28
                                  have hr28 := Kd.F_take (m := (x15_15 : Int).toNat) hC28 (by omega)
                                  have hy28 : y121.length = (x15_15 : Int).toNat := (by rw [Ny121.out, List.length_take]; omega)
                                  rw [← Ny121.out] at hr28
                                  rw [← hy28] at hcut28
                                  have HO125 := Aside0.mk (show Kd.V (Kd.int .u8) 5 _ w.heap.size _ (.slice Ao17 y121.length co17) y121 from Kd.V_mk (by omega) hr28)
                                  have HC125 := Aside0.mk (show y121.length ≤ co17 from by omega)
                                  clear hr28 hC28 hroom28 hi028 hsz28
                                  have KY28 := Aside0.mk hy28
                                  clear hy28
                                  replace q28 := eq_true q28
                                  go_wp2_with (first | ((with_reducible refine gate_builtin (b := .append) (xs := #[.tmp 41, .tmp 48]) rfl ?_); (try (refine gate_guard (by rfl) ?_; dsimp only)); at_builtin; refine Kd.N_append k24 (w0 := w) w.heap.size rfl (.tmp 41) (.tmp 48) 38 24 (.agg #[(.bool false), (.bool false), (.int .i64 0), (.slice none 0 0)]) 40 rfl Tryd.underlying38 info24 rfl (by decide) (by omega) u11 x11_2 (⟨x14_2, false, x12_2, y121⟩ : S24) [.bool x14_2, .bool false, .int .i64 x12_2, .slice Ao17 y121.length co17] (fun k_ => (P3_ k_ ∨ w.heap.size ≤ k_)) (fun k_ => ((fun k_ => (P3_ k_ ∨ w.heap.size ≤ k_))) k_ ∧ some k_ ≠ (u11 : Value).ownBlock) rfl rfl ?aP (fun _ hk => hk) ?aF ?aO ?aB ?aS ?aL ?_; (case aP => exact (k24_mkF _ _ (⟨x14_2, false, x12_2, y121⟩ : S24) (Kd.V_reads' (Kd.V_mono (ok' := (fun k_ => ((fun k_ => (P3_ k_ ∨ w.heap.size ≤ k_))) k_ ∧ some k_ ≠ (u11 : Value).ownBlock)) (HO125.out) (fun k_ hk => ⟨hk.1, hk.2⟩))).2.1 (Kd.V_F (Kd.V_mono (ok' := (fun k_ => ((fun k_ => (P3_ k_ ∨ w.heap.size ≤ k_))) k_ ∧ some k_ ≠ (u11 : Value).ownBlock)) (HO125.out) (fun k_ hk => ⟨hk.1, hk.2⟩))))); (case aB => exact (by repeat (first | (with_reducible first | exact HB.out | apply below_alloc | apply pw_below_drewN | apply below_drew1) | exact HB.out))); (case aF => exact (fun k_ hk => (.inr (Nat.le_trans (below_size (by repeat (first | (with_reducible first | exact HB.out | apply below_alloc | apply pw_below_drewN | apply below_drew1) | exact HB.out))) hk)))); (case aO => exact (by (with_reducible repeat (first | apply Kd.N_alloc | apply Kd.N_drewN | apply Kd.N_drew)); exact HO_11.out)); (case aS => exact (below_size (by repeat (first | (with_reducible first | exact HB.out | apply below_alloc | apply pw_below_drewN | apply below_drew1) | exact HB.out)))); (case aL => have := LMc21.out; omega); intro v127 w29 ho hb hg hat; rw [← Ny126.out] at ho; have n0_ := Aside0.mk (Kd.V_afterv (ok := (fun k_ => (P3_ k_ ∨ w.heap.size ≤ k_))) (by (with_reducible repeat (first | apply Kd.V_alloc | apply Kd.V_drewN | apply Kd.V_drew)); exact HO_13.out) hg hat); have n1_ := Aside0.mk (Kd.V_afterv (ok := (fun k_ => (P3_ k_ ∨ w.heap.size ≤ k_))) (by (with_reducible repeat (first | apply Kd.V_alloc | apply Kd.V_drewN | apply Kd.V_drew)); exact HO125.out) hg hat); have n2_ := Aside0.mk (hb); have n3_ := Aside0.mk (ho); clear HO_13; clear HO125; clear HB; clear HO_11; have HO_13 := n0_; have HO125 := n1_; have HB := n2_; have HO128 := n3_; clear n0_ n1_ n2_ n3_; clear ho hb hg hat; have q30 : (x15_15 : Int) ≤ ((x13_2.length : Int) : Int) := of_decide_eq_true (by first | (with_reducible assumption) | assumption); obtain ⟨i030, hi030, _, hsz30, _⟩ := info_parts info5; have hroom30 : x13_2.length ≤ co17 := (Kd.V_reads' HO_13.out).2.1; have hC30 : Kd.F (Kd.int .u8) _ _ Ao17 x13_2.length x13_2 := (Kd.V_at (base := w.heap.size) HO_13.out).2.2; have q030 : (0 : Int) ≤ (x15_15 : Int) := of_decide_eq_true (by first | (with_reducible assumption) | assumption); have hcut30 := cut_from (P := Tryd.prog) 22 5 .i64 Tryd.underlying22 hi030 1 hsz30 Ao17 x13_2.length co17 x15_15 q030 q30; have hr30 := Kd.F_cut (m := (x15_15 : Int).toNat) (c := co17) hC30 (by omega) hroom30; obtain ⟨A30, hA30⟩ : ∃ A1, A1 = (if co17 = (x15_15 : Int).toNat then Ao17 else (Ao17 : Option Addr).map (·.add ((x15_15 : Int).toNat * 1))) := ⟨_, rfl⟩; obtain ⟨c30, hc30⟩ : ∃ c1, c1 = co17 - (x15_15 : Int).toNat := ⟨_, rfl⟩; have hy30 : y129.length = x13_2.length - (x15_15 : Int).toNat := (by rw [Ny129.out, List.length_drop] <;> omega); rw [show (x13_2).drop (x15_15 : Int).toNat = y129 from Ny129.out.symm] at hr30; replace hr30 : Kd.F (Kd.int .u8) _ _ A30 y129.length y129 := (by rw [hA30]; exact hr30); rw [← hy30, ← hA30, ← hc30] at hcut30; have HO133 := Aside0.mk (show Kd.V (Kd.int .u8) 5 _ w.heap.size _ (.slice A30 y129.length c30) y129 from Kd.V_mk (by rw [hy30, hc30]; exact Nat.sub_le_sub_right hroom30 _) hr30); have HC133 := Aside0.mk (show y129.length ≤ c30 from by rw [hy30, hc30]; exact Nat.sub_le_sub_right hroom30 _); clear hr30 hC30 hroom30 hi030 hsz30 hc30; have KY30 := Aside0.mk hy30; have KA30 := Aside0.mk hA30; clear hy30 hA30; replace q30 := eq_true q30) | ((with_reducible refine gate_callee (f := 40) rfl ?_); refine goesL_ (some 56) rfl rfl Tryd.func40 (by kernel_rfl) rfl #[.bool a0] rfl (by (try simp only [List.map_toArray, List.map_cons, List.map_nil]); first | done | rfl | (simp only [List.length_drop, List.length_take]; rfl)) ?_; (with_reducible refine (marlineref23_Mod.calls a0 t134 _ A24.out).mono ?_); rintro e w' ⟨rfl, ⟨nd, rfl⟩⟩; refine ⟨_, rfl, ?_⟩; obtain ⟨Ao31, co31, eo31⟩ := Kd.N_slice HO128.out; subst eo31) | ((with_reducible refine gate_callee (f := 40) rfl ?_); refine goesL_ (some 61) rfl rfl Tryd.func40 (by kernel_rfl) rfl #[.bool a0] rfl (by (try simp only [List.map_toArray, List.map_cons, List.map_nil]); first | done | rfl | (simp only [List.length_drop, List.length_take]; rfl)) ?_; (with_reducible refine (marlineref23_Mod.calls a0 t135 _ A26.out).mono ?_); rintro e w' ⟨rfl, ⟨nd, rfl⟩⟩; refine ⟨_, rfl, ?_⟩))
                                  go_ret3
                                  exact ⟨_, by first | rfl | (simp [errW_none, errW_some] <;> rfl) | (simp [*, errW_none, errW_some] <;> rfl), by first | exact Kd.S_nil _ _ _ _ _ | exact Kd.N_nil _ _ _ _ _ | exact Kd.V_nil _ _ _ _ _ | exact Kd.Q_nil _ _ _ _ _ | exact Kd.R_nil _ _ _ _ _, by repeat (first | (with_reducible first | exact HB.out | apply below_alloc | apply pw_below_drewN | apply below_drew1) | exact HB.out)⟩
                                · rw [if_neg c27] at H
                                  have c27b0 : decide ((wrap64 (Int.tdiv t135 2)) < (y126.length : Int)) = false := decide_eq_false c27
                                  clear c27
                                  have H' := Aside0.mk H
                                  clear H
                                  have q32 : (x15_15 : Int) ≤ ((x13_2.length : Int) : Int) := of_decide_eq_true (by first | (with_reducible assumption) | assumption)
                                  obtain ⟨i032, hi032, _, hsz32, _⟩ := info_parts info5
                                  have hroom32 : x13_2.length ≤ co17 := (Kd.V_reads' HO_13.out).2.1
                                  have hC32 : Kd.F (Kd.int .u8) _ _ Ao17 x13_2.length x13_2 := (Kd.V_at (base := w.heap.size) HO_13.out).2.2
                                  have hcut32 := cut_to (P := Tryd.prog) 22 5 .i64 Tryd.underlying22 hi032 Ao17 x13_2.length co17 x15_15 (of_decide_eq_true (by first | (with_reducible assumption) | assumption)) q32 hroom32
                                  have hr32 := Kd.F_take (m := (x15_15 : Int).toNat) hC32 (by omega)
                                  have hy32 : y121.length = (x15_15 : Int).toNat := (by rw [Ny121.out, List.length_take]; omega)
                                  rw [← Ny121.out] at hr32
                                  rw [← hy32] at hcut32
                                  have HO125 := Aside0.mk (show Kd.V (Kd.int .u8) 5 _ w.heap.size _ (.slice Ao17 y121.length co17) y121 from Kd.V_mk (by omega) hr32)
                                  have HC125 := Aside0.mk (show y121.length ≤ co17 from by omega)
                                  clear hr32 hC32 hroom32 hi032 hsz32
                                  have KY32 := Aside0.mk hy32
                                  clear hy32
                                  replace q32 := eq_true q32
                                  go_wp2_with (first | ((with_reducible refine gate_builtin (b := .append) (xs := #[.tmp 41, .tmp 48]) rfl ?_); (try (refine gate_guard (by rfl) ?_; dsimp only)); at_builtin; refine Kd.N_append k24 (w0 := w) w.heap.size rfl (.tmp 41) (.tmp 48) 38 24 (.agg #[(.bool false), (.bool false), (.int .i64 0), (.slice none 0 0)]) 40 rfl Tryd.underlying38 info24 rfl (by decide) (by omega) u11 x11_2 (⟨x14_2, false, x12_2, y121⟩ : S24) [.bool x14_2, .bool false, .int .i64 x12_2, .slice Ao17 y121.length co17] (fun k_ => (P3_ k_ ∨ w.heap.size ≤ k_)) (fun k_ => ((fun k_ => (P3_ k_ ∨ w.heap.size ≤ k_))) k_ ∧ some k_ ≠ (u11 : Value).ownBlock) rfl rfl ?aP (fun _ hk => hk) ?aF ?aO ?aB ?aS ?aL ?_; (case aP => exact (k24_mkF _ _ (⟨x14_2, false, x12_2, y121⟩ : S24) (Kd.V_reads' (Kd.V_mono (ok' := (fun k_ => ((fun k_ => (P3_ k_ ∨ w.heap.size ≤ k_))) k_ ∧ some k_ ≠ (u11 : Value).ownBlock)) (HO125.out) (fun k_ hk => ⟨hk.1, hk.2⟩))).2.1 (Kd.V_F (Kd.V_mono (ok' := (fun k_ => ((fun k_ => (P3_ k_ ∨ w.heap.size ≤ k_))) k_ ∧ some k_ ≠ (u11 : Value).ownBlock)) (HO125.out) (fun k_ hk => ⟨hk.1, hk.2⟩))))); (case aB => exact (by repeat (first | (with_reducible first | exact HB.out | apply below_alloc | apply pw_below_drewN | apply below_drew1) | exact HB.out))); (case aF => exact (fun k_ hk => (.inr (Nat.le_trans (below_size (by repeat (first | (with_reducible first | exact HB.out | apply below_alloc | apply pw_below_drewN | apply below_drew1) | exact HB.out))) hk)))); (case aO => exact (by (with_reducible repeat (first | apply Kd.N_alloc | apply Kd.N_drewN | apply Kd.N_drew)); exact HO_11.out)); (case aS => exact (below_size (by repeat (first | (with_reducible first | exact HB.out | apply below_alloc | apply pw_below_drewN | apply below_drew1) | exact HB.out)))); (case aL => have := LMc21.out; omega); intro v127 w33 ho hb hg hat; rw [← Ny126.out] at ho; have n0_ := Aside0.mk (Kd.V_afterv (ok := (fun k_ => (P3_ k_ ∨ w.heap.size ≤ k_))) (by (with_reducible repeat (first | apply Kd.V_alloc | apply Kd.V_drewN | apply Kd.V_drew)); exact HO_13.out) hg hat); have n1_ := Aside0.mk (Kd.V_afterv (ok := (fun k_ => (P3_ k_ ∨ w.heap.size ≤ k_))) (by (with_reducible repeat (first | apply Kd.V_alloc | apply Kd.V_drewN | apply Kd.V_drew)); exact HO125.out) hg hat); have n2_ := Aside0.mk (hb); have n3_ := Aside0.mk (ho); clear HO_13; clear HO125; clear HB; clear HO_11; have HO_13 := n0_; have HO125 := n1_; have HB := n2_; have HO128 := n3_; clear n0_ n1_ n2_ n3_; clear ho hb hg hat; have q34 : (x15_15 : Int) ≤ ((x13_2.length : Int) : Int) := of_decide_eq_true (by first | (with_reducible assumption) | assumption); obtain ⟨i034, hi034, _, hsz34, _⟩ := info_parts info5; have hroom34 : x13_2.length ≤ co17 := (Kd.V_reads' HO_13.out).2.1; have hC34 : Kd.F (Kd.int .u8) _ _ Ao17 x13_2.length x13_2 := (Kd.V_at (base := w.heap.size) HO_13.out).2.2; have q034 : (0 : Int) ≤ (x15_15 : Int) := of_decide_eq_true (by first | (with_reducible assumption) | assumption); have hcut34 := cut_from (P := Tryd.prog) 22 5 .i64 Tryd.underlying22 hi034 1 hsz34 Ao17 x13_2.length co17 x15_15 q034 q34; have hr34 := Kd.F_cut (m := (x15_15 : Int).toNat) (c := co17) hC34 (by omega) hroom34; obtain ⟨A34, hA34⟩ : ∃ A1, A1 = (if co17 = (x15_15 : Int).toNat then Ao17 else (Ao17 : Option Addr).map (·.add ((x15_15 : Int).toNat * 1))) := ⟨_, rfl⟩; obtain ⟨c34, hc34⟩ : ∃ c1, c1 = co17 - (x15_15 : Int).toNat := ⟨_, rfl⟩; have hy34 : y129.length = x13_2.length - (x15_15 : Int).toNat := (by rw [Ny129.out, List.length_drop] <;> omega); rw [show (x13_2).drop (x15_15 : Int).toNat = y129 from Ny129.out.symm] at hr34; replace hr34 : Kd.F (Kd.int .u8) _ _ A34 y129.length y129 := (by rw [hA34]; exact hr34); rw [← hy34, ← hA34, ← hc34] at hcut34; have HO133 := Aside0.mk (show Kd.V (Kd.int .u8) 5 _ w.heap.size _ (.slice A34 y129.length c34) y129 from Kd.V_mk (by rw [hy34, hc34]; exact Nat.sub_le_sub_right hroom34 _) hr34); have HC133 := Aside0.mk (show y129.length ≤ c34 from by rw [hy34, hc34]; exact Nat.sub_le_sub_right hroom34 _); clear hr34 hC34 hroom34 hi034 hsz34 hc34; have KY34 := Aside0.mk hy34; have KA34 := Aside0.mk hA34; clear hy34 hA34; replace q34 := eq_true q34) | ((with_reducible refine gate_callee (f := 40) rfl ?_); refine goesL_ (some 56) rfl rfl Tryd.func40 (by kernel_rfl) rfl #[.bool a0] rfl (by (try simp only [List.map_toArray, List.map_cons, List.map_nil]); first | done | rfl | (simp only [List.length_drop, List.length_take]; rfl)) ?_; (with_reducible refine (marlineref23_Mod.calls a0 t134 _ A24.out).mono ?_); rintro e w' ⟨rfl, ⟨nd, rfl⟩⟩; refine ⟨_, rfl, ?_⟩; obtain ⟨Ao35, co35, eo35⟩ := Kd.N_slice HO128.out; subst eo35) | ((with_reducible refine gate_callee (f := 40) rfl ?_); refine goesL_ (some 61) rfl rfl Tryd.func40 (by kernel_rfl) rfl #[.bool a0] rfl (by (try simp only [List.map_toArray, List.map_cons, List.map_nil]); first | done | rfl | (simp only [List.length_drop, List.length_take]; rfl)) ?_; (with_reducible refine (marlineref23_Mod.calls a0 t135 _ A26.out).mono ?_); rintro e w' ⟨rfl, ⟨nd, rfl⟩⟩; refine ⟨_, rfl, ?_⟩))
                                  go_roundg kj15
                                  case measure => have := HJ5.out; have := HK2.out; have := HJ11.out; have := HJ15.out; omega
                                  case rel => exact ⟨(y126), (Int.tmod (wrap64 (x12_2 + 1)) t134), (y129), (false), (by first | rfl | (simp; done) | (simp [*]; done)), (by first | rfl | (simp; done) | (simp [*]; done)), H', ⟨by have := HJ5.out; have := HK2.out; have := HJ11.out; have := HJ15.out; omega⟩, ⟨by (with_reducible repeat (first | apply Kd.N_alloc | apply Kd.N_drewN | apply Kd.N_drew)); exact HO128.out⟩, ⟨by (with_reducible repeat (first | apply Kd.V_alloc | apply Kd.V_drewN | apply Kd.V_drew)); exact HO133.out⟩, ⟨by repeat (first | (with_reducible first | exact HB.out | apply below_alloc | apply pw_below_drewN | apply below_drew1) | exact HB.out)⟩⟩
                            · rw [if_neg c21] at H
                              exact absurd H (by simp)
                          · rw [if_neg c20] at H
                            exact absurd H (by simp)
                        · rw [if_neg c19] at H
                          exact absurd H (by simp)
                  · replace c15 := Bool.eq_false_iff.mpr c15
                    subst c15
                    have H1 : (if 0 ≤ (wrap64 ((x11_2.length : Int) - 1)) then (if (wrap64 ((x11_2.length : Int) - 1)) < (x11_2.length : Int) then (some ((x11_2.set ((wrap64 ((x11_2.length : Int) - 1)) : Int).toNat (⟨(rd_T24 x11_2 (wrap64 ((x11_2.length : Int) - 1))).f0, true, (rd_T24 x11_2 (wrap64 ((x11_2.length : Int) - 1))).f2, (rd_T24 x11_2 (wrap64 ((x11_2.length : Int) - 1))).f3⟩ : S24)), x12_2, 0)) else (none)) else (none)) = some (r1, r2, r3) := by rw [if_neg (show ¬ (false = true) by decide)] at H; exact H
                    clear H
                    have H := H1
                    clear H1
                    obtain ⟨ji36, hji36⟩ : ∃ j_ : Int, (wrap64 ((x11_2.length : Int) - 1)) = j_ := ⟨_, rfl⟩
                    replace H : (if 0 ≤ (ji36) then (if (ji36) < (x11_2.length : Int) then (some ((x11_2.set ((ji36) : Int).toNat (⟨(rd_T24 x11_2 (ji36)).f0, true, (rd_T24 x11_2 (ji36)).f2, (rd_T24 x11_2 (ji36)).f3⟩ : S24)), x12_2, 0)) else (none)) else (none)) = some (r1, r2, r3) := by first | (rw [hji36] at H; exact H) | (simp only [hji36] at H ⊢; exact H)
                    have hji36w : (IntKind.i64.wrap ((x11_2.length : Int) - 1)) = ji36 := (i64_w _).trans hji36
                    by_cases c37 : 0 ≤ (ji36)
                    · rw [if_pos c37] at H
                      have c37b0 : decide (0 ≤ (ji36)) = true := decide_eq_true c37
                      clear c37
                      by_cases c38 : (ji36) < (x11_2.length : Int)
                      · rw [if_pos c38] at H
                        have c38b0 : decide ((ji36) < (x11_2.length : Int)) = true := decide_eq_true c38
                        clear c38
                        obtain ⟨y120, hy120⟩ : ∃ y_ : List (S24), y_ = (x11_2.set ((ji36) : Int).toNat (⟨(rd_T24 x11_2 (ji36)).f0, true, (rd_T24 x11_2 (ji36)).f2, (rd_T24 x11_2 (ji36)).f3⟩ : S24)) := ⟨_, rfl⟩
                        replace H : (some (y120, x12_2, 0)) = some (r1, r2, r3) := by first | (rw [hy120]; with_reducible exact H) | (have H2_ := (Option.bind_some _ _).symm.trans H; rw [hy120]; with_reducible exact H2_) | (have H2_ := (Option.bind_some _ _).symm.trans H; with_reducible exact H2_) | with_reducible exact H | (rw [hy120]; exact H) | exact H
                        have Ny120 := Aside0.mk hy120
                        clear hy120
                        simp only [Option.some.injEq, Prod.mk.injEq] at H
                        obtain ⟨rfl, rfl, rfl⟩ := H
                        obtain ⟨Ao40, co40, eo40⟩ := Kd.N_slice HO_11.out
                        subst eo40
                        have p39 : 0 ≤ ((ji36) : Int) := of_decide_eq_true (by first | (with_reducible assumption) | assumption)
                        have q39 : ((ji36) : Int) < ((x11_2.length : Int) : Int) := of_decide_eq_true (by first | (with_reducible assumption) | assumption)
                        obtain ⟨go39, co39, eo39, gb39, gl39, cl39, HG39⟩ := Kd.N_form HO_11.out (by omega)
                        (first | cases eo39 | (injection eo39 with ea_ en_ ec_; (first | subst ea_ | (injection ea_ with ea_; subst ea_)); subst ec_; clear en_))
                        have GB39 := Aside0.mk gb39
                        have GG39 := Aside0.mk HG39
                        clear gb39 gl39 HG39
                        obtain ⟨ce39, hcl39, hM39, hcc39, hfr39⟩ := Kd.N_elem HO_11.out z24 ((ji36) : Int) p39 q39
                        obtain ⟨ua39_3, uc39_3, rfl, ul39_3, ge39_3⟩ := k24_openF hM39
                        have hx39_0 : wc.cell? ⟨go39, ((ji36) : Int).toNat * 4, none⟩ = some (.bool ((rd_T24 x11_2 (ji36)).f0)) := hcc39 0 _ rfl
                        have hx39_1 : wc.cell? ⟨go39, ((ji36) : Int).toNat * 4 + 1, none⟩ = some (.bool ((rd_T24 x11_2 (ji36)).f1)) := hcc39 1 _ rfl
                        have hx39_2 : wc.cell? ⟨go39, ((ji36) : Int).toNat * 4 + 2, none⟩ = some (.int .i64 ((rd_T24 x11_2 (ji36)).f2)) := hcc39 2 _ rfl
                        have hx39_3 : wc.cell? ⟨go39, ((ji36) : Int).toNat * 4 + 3, none⟩ = some (.slice ua39_3 ((rd_T24 x11_2 (ji36)).f3).length uc39_3) := hcc39 3 _ rfl
                        have hf39_0 : wc.frozen? ⟨go39, ((ji36) : Int).toNat * 4, none⟩ = false := hfr39 0
                        have hf39_1 : wc.frozen? ⟨go39, ((ji36) : Int).toNat * 4 + 1, none⟩ = false := hfr39 1
                        have hf39_2 : wc.frozen? ⟨go39, ((ji36) : Int).toNat * 4 + 2, none⟩ = false := hfr39 2
                        have hf39_3 : wc.frozen? ⟨go39, ((ji36) : Int).toNat * 4 + 3, none⟩ = false := hfr39 3
                        clear hcl39 hcc39 hfr39 hM39
                        replace p39 := eq_true p39
                        replace q39 := eq_true q39
                        have HX41 := Aside0.mk (show Kd.N k24 24 wc w.heap.size (fun k_ => (P3_ k_ ∨ w.heap.size ≤ k_)) (.slice (some ⟨go39, 0, none⟩) x11_2.length co40) x11_2 from (by (with_reducible repeat (first | apply Kd.N_alloc | apply Kd.N_drewN | apply Kd.N_drew)); exact HO_11.out))
                        obtain ⟨ce41, hcl41, hM41, hcc41, hfr41⟩ := Kd.N_elem HX41.out z24 ((ji36) : Int) (of_decide_eq_true (by first | (with_reducible assumption) | assumption)) (by have h_ : ((ji36) : Int) < ((x11_2.length : Int) : Int) := of_decide_eq_true (by first | (with_reducible assumption) | assumption); first | exact h_ | (have e_ := (Kd.N_reads' HO_11.out).1; omega) | simpa using h_)
                        obtain ⟨ua41_3, uc41_3, rfl, ul41_3, ge41_3⟩ := k24_openF hM41
                        have HP41 := Kd.N_seg HX41.out ((ji36) : Int) (of_decide_eq_true (by first | (with_reducible assumption) | assumption)) (by have h_ : ((ji36) : Int) < ((x11_2.length : Int) : Int) := of_decide_eq_true (by first | (with_reducible assumption) | assumption); first | exact h_ | (have e_ := (Kd.N_reads' HO_11.out).1; omega) | simpa using h_) (seg := [.bool true]) (j := 1) hcl41 hcc41 (show 2 ≤ 4 from by decide) (x' := (⟨(rd_T24 x11_2 (ji36)).f0, true, (rd_T24 x11_2 (ji36)).f2, (rd_T24 x11_2 (ji36)).f3⟩ : S24)) (k24_mkF _ _ (⟨(rd_T24 x11_2 (ji36)).f0, true, (rd_T24 x11_2 (ji36)).f2, (rd_T24 x11_2 (ji36)).f3⟩ : S24) ul41_3 ge41_3) (fun _ hk => hk)
                        have hx41_1 := hcc41 1 _ rfl
                        (try simp only [show (k24).sz = 4 from rfl, Nat.mul_one, Nat.add_zero] at hx41_1)
                        have hf41_1 := hfr41 1
                        (try simp only [show (k24).sz = 4 from rfl, Nat.mul_one, Nat.add_zero] at hf41_1)
                        clear hcl41 hcc41 hfr41 hM41
                        go_wp2_with (first | ((with_reducible refine gate_store (t := 4) (p := 69) rfl ?_); refine store_event (t := 4) (p := 69) (v := ?vo_w42) (w1 := (wc.setCell ⟨go39, ((ji36) : Int).toNat * 4 + 1, none⟩ (.bool true))) ?hg ?ho ?hn ?hr ?_; (case ho => rfl); (case hg => rfl); (case hn => rfl); (case hr => first | (go_simp; done) | (go_simp; rfl)); intro w42 hw; have hg : wc.grownBy w42 (some go39) := (by rw [hw]; exact HP41.2); have hp_ : Kd.N k24 24 w42 w.heap.size (fun k_ => (P3_ k_ ∨ w.heap.size ≤ k_)) (.slice (some ⟨go39, 0, none⟩) x11_2.length co40) y120 := (by rw [hw, Ny120.out]; exact HP41.1); clear HP41; have n0_ := Aside0.mk (hp_); have n1_ := Aside0.mk (Kd.V_afterv (v := (.slice (some ⟨go39, 0, none⟩) x11_2.length co40)) (v1 := (.slice (some ⟨go39, 0, none⟩) x11_2.length co40)) (ok := (fun k_ => (P3_ k_ ∨ w.heap.size ≤ k_))) (by (with_reducible repeat (first | apply Kd.V_alloc | apply Kd.V_drewN | apply Kd.V_drew)); exact HO_13.out) hg (.inl rfl)); have n2_ := Aside0.mk ((by rw [hw]; exact below_set (HB.out) GB39.out : Below w.heap.size w w42)); clear HO_11; clear HO_13; clear HB; have HO_11 := n0_; have HO_13 := n1_; have HB := n2_; clear n0_ n1_ n2_; clear hg hw hp_))
                        go_ret3
                        exact ⟨_, by first | rfl | (simp [errW_none, errW_some] <;> rfl) | (simp only [← hji36]; first | rfl | (simp [errW_none, errW_some] <;> rfl)) | (simp [*, errW_none, errW_some] <;> rfl), by (with_reducible repeat (first | apply Kd.N_alloc | apply Kd.N_drewN | apply Kd.N_drew)); exact HO_11.out, by repeat (first | (with_reducible first | exact HB.out | apply below_alloc | apply pw_below_drewN | apply below_drew1) | exact HB.out)⟩
                      · rw [if_neg c38] at H
                        exact absurd H (by simp)
                    · rw [if_neg c37] at H
                      exact absurd H (by simp)

-- NOT PRINTED: function 22 (frag_Glue)

end Go.Proofs.YtgopklnfdlnojaaDoor.Ga
