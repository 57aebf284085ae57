import Derived.Test.YtelmlkcoeihhjaaFl0
namespace Go.Proofs.Ytelmlkcoeihhjaa.Fl
open Go.RowKit Go.Proofs.YtelmlkcoeihhjaaW.PrintWords Go.Proofs.YtelmlkcoeihhjaaW.PrintLast Go.Proofs.YtelmlkcoeihhjaaW.PrintMore
attribute [local go_sem] max2_int min2_int max_two min_two max_three min_three max_four min_four   -- for this text's walks alone
set_option linter.unusedVariables false
set_option linter.unusedSimpArgs false

/-! ### marlinelaw12_Few: function 36 -/
def marlinelaw12_Few.l0 : Nat → List (S79) → Int → List (S79) → Int → Int → Option (Bool)
  | 0, _, _, _, _, _ => none
  | k + 1, x0, x3, x6, x7, x8 => if x8 < x7 then (if 0 ≤ x8 then (if x8 < (x6.length : Int) then (marlinelaw12_Few.l0 k x0 (wrap64 (x3 + (((rd_T79 x6 x8).f1).length : Int))) x6 x7 (wrap64 (x8 + 1))) else (none)) else (none)) else (if (x0.length : Int) ≤ 60 then (some (decide (x3 ≤ 1000))) else (some false))
def marlinelaw12_Few.f (k : Nat) (l0 : List (S79)) : Option (Bool) := marlinelaw12_Few.l0 k l0 0 l0 (l0.length : Int) 0
theorem marlinelaw12_Few.mono_l : ∀ k, (∀ y0 y1 y2 y3 y4, LeO (marlinelaw12_Few.l0 k y0 y1 y2 y3 y4) (marlinelaw12_Few.l0 (k + 1) y0 y1 y2 y3 y4))
  | 0 => fun _ _ _ _ _ r h => by simp [marlinelaw12_Few.l0] at h
  | k + 1 => by
    have ih0 := marlinelaw12_Few.mono_l k
    · intro y0 y1 y2 y3 y4
      unfold marlinelaw12_Few.l0
      repeat' first
      | (with_reducible exact ih0 _ _ _ _ _)
      | (with_reducible exact LeO.refl _)
      | (with_reducible exact LeO.none _)
      | (with_reducible refine LeO.ite ?_ ?_)
      | (with_reducible refine LeO.bind ?_ (fun _ => ?_))
      | exact ih0 _ _ _ _ _
      | exact LeO.none _
      | refine LeO.ite ?_ ?_
      | refine LeO.bind ?_ (fun _ => ?_)
theorem marlinelaw12_Few.mono : ∀ a0 k, LeO (marlinelaw12_Few.f k a0) (marlinelaw12_Few.f (k + 1) a0) := by
  intro a0 k
  have ih0 := marlinelaw12_Few.mono_l k
  unfold marlinelaw12_Few.f
  repeat' first
      | (with_reducible exact ih0 _ _ _ _ _)
      | (with_reducible exact LeO.refl _)
      | (with_reducible exact LeO.none _)
      | (with_reducible refine LeO.ite ?_ ?_)
      | (with_reducible refine LeO.bind ?_ (fun _ => ?_))
      | exact ih0 _ _ _ _ _
      | exact LeO.none _
      | refine LeO.ite ?_ ?_
      | refine LeO.bind ?_ (fun _ => ?_)
set_option maxHeartbeats 8000000 in
set_option maxRecDepth 100000 in
theorem marlinelaw12_Few.calls (k : Nat) (A0 : Option Addr) (c0 : Nat) (l0 : List (S79)) (r : Bool) (w : World) (hr0 : Kd.C k79 w A0 l0.length l0) (hc0 : l0.length ≤ c0) (h : marlinelaw12_Few.f k l0 = some r) :
    Calls Try.prog 36 #[.slice A0 l0.length c0] w fun e w' => e = .returned (.bool r) ∧ Below w.heap.size w w' := by
  have hu79 := Try.underlying79
  have HR0 := Aside0.mk hr0
  have HC0 := Aside0.mk hc0
  clear hr0 hc0
  have HB := Aside0.mk (Below.refl w.heap.size w)
  have H : (marlinelaw12_Few.l0 k l0 0 l0 (l0.length : Int) 0) = some r := h
  clear h
  have H' := Aside0.mk H
  clear H
  go_enter Try.func36, Try.ntmps36
  go_wp2
  go_loopg [3, 8] k (fun kq v3 v8 w' => ∃ (x3_1 : Int) (x8_1 : Int), v3 = .int .i64 x3_1 ∧ v8 = .int .i64 x8_1 ∧ Aside0 (marlinelaw12_Few.l0 kq l0 x3_1 l0 (l0.length : Int) x8_1 = some r) ∧ Aside0 (kq ≤ k) ∧ Aside0 (Below w.heap.size w w'))
  case atStart => exact ⟨(0), (0), (by first | rfl | (simp; done) | (simp [*]; done)), (by first | rfl | (simp; done) | (simp [*]; done)), H', ⟨Nat.le_refl _⟩, ⟨by repeat (first | (with_reducible first | exact HB.out | apply below_alloc | apply pw_below_drewN | apply below_drew1) | exact HB.out)⟩⟩
  case round =>
    clear H'
    obtain ⟨x3_1, x8_1, rfl, rfl, HA, HK1, HB⟩ := hrel
    cases gk with
    | zero => exact absurd HA.out (by simp [marlinelaw12_Few.l0])
    | succ k1 =>
      have H := HA.out
      clear HA
      simp only [marlinelaw12_Few.l0] at H
      by_cases c2 : x8_1 < (l0.length : Int)
      · rw [if_pos c2] at H
        have c2b0 : decide (x8_1 < (l0.length : Int)) = true := decide_eq_true c2
        clear c2
        by_cases c3 : 0 ≤ x8_1
        · rw [if_pos c3] at H
          have c3b0 : decide (0 ≤ x8_1) = true := decide_eq_true c3
          clear c3
          by_cases c4 : x8_1 < (l0.length : Int)
          · rw [if_pos c4] at H
            have c4b0 : decide (x8_1 < (l0.length : Int)) = true := decide_eq_true c4
            clear c4
            have H' := Aside0.mk H
            clear H
            have p166 : 0 ≤ (x8_1 : Int) := of_decide_eq_true (by first | (with_reducible assumption) | assumption)
            have q166 : x8_1 < (l0.length : Int) := of_decide_eq_true (by first | (with_reducible assumption) | assumption)
            obtain ⟨ad166, A166_1, c166_1, e166, hx166_0, hx166_1, hl166_1, hi166_1⟩ := at_T79 HR0.out x8_1 p166 q166
            cases e166
            replace hx166_0 := (HB.out.cell (World.block_lt_of_cell? w _ hx166_0)).trans hx166_0
            replace hx166_1 := (HB.out.cell (World.block_lt_of_cell? w _ hx166_1)).trans hx166_1
            have HR166_1 := Aside0.mk hi166_1
            have HC166_1 := Aside0.mk hl166_1
            clear hi166_1 hl166_1
            replace p166 := eq_true p166
            replace q166 := eq_true q166
            go_wp2_with (first | ((with_reducible refine gate_dst (N := 5) rfl ?_); refine box_event ?hg (N := 5) ?hd (cs := #[.int .u8 0, .slice none 0 0]) (t := 79) ?hr ?_; (case hd => rfl); (case hg => rfl); (case hr => first | (go_simp; done) | (go_simp; rfl)); intro gb167 hg w5 hbox hb; have n0_ := Aside0.mk (below_step (by repeat (first | (with_reducible first | exact HB.out | apply below_alloc | apply pw_below_drewN | apply below_drew1) | exact HB.out)) hb); have n1_ := Aside0.mk (hbox); have n2_ := Aside0.mk ((by rw [hg]; exact (below_size (by repeat (first | (with_reducible first | exact HB.out | apply below_alloc | apply pw_below_drewN | apply below_drew1) | exact HB.out))) : w.heap.size ≤ gb167)); have n3_ := Aside0.mk ((by rw [hg]; exact (below_size (by repeat (first | (with_reducible first | exact HB.out | apply below_alloc | apply pw_below_drewN | apply below_drew1) | exact HB.out))) : w.heap.size ≤ gb167)); clear HB; have HB := n0_; have BK167 := n1_; have GW167 := n2_; have GE167 := n3_; clear n0_ n1_ n2_ n3_; clear hb hbox hg; have hcz6_0 : w5.cell? ⟨gb167, 0, none⟩ = some (.int .u8 0) := (blk_cell BK167.out 0).trans rfl; have hcz6_1 : w5.cell? ⟨gb167, 1, none⟩ = some (.slice none 0 0) := (blk_cell BK167.out 1).trans rfl; have hfz6_0 := blk_frozen BK167.out 0; have hfz6_1 := blk_frozen BK167.out 1))
            go_roundg k1
            case measure => have := HK1.out; omega
            case rel => exact ⟨(wrap64 (x3_1 + (((rd_T79 l0 x8_1).f1).length : Int))), (wrap64 (x8_1 + 1)), (by first | rfl | (simp; done) | (simp [*]; done)), (by first | rfl | (simp; done) | (simp [*]; done)), H', ⟨by have := HK1.out; omega⟩, ⟨by repeat (first | (with_reducible first | exact HB.out | apply below_alloc | apply pw_below_drewN | apply below_drew1 | refine below_set ?_ GE167.out) | exact HB.out)⟩⟩
          · rw [if_neg c4] at H
            exact absurd H (by simp)
        · rw [if_neg c3] at H
          exact absurd H (by simp)
      · rw [if_neg c2] at H
        have c2b0 : decide (x8_1 < (l0.length : Int)) = false := decide_eq_false c2
        clear c2
        by_cases c7 : (l0.length : Int) ≤ 60
        · rw [if_pos c7] at H
          have c7b0 : decide ((l0.length : Int) ≤ 60) = true := decide_eq_true c7
          have c7b1 : decide (l0.length ≤ 60) = true := decide_eq_true (by omega)
          clear c7
          obtain rfl := Option.some.inj H
          go_wp2
          go_ret
          exact ⟨by first | rfl | (simp [errW_none, errW_some] <;> rfl) | (simp [*, errW_none, errW_some] <;> rfl), by repeat (first | (with_reducible first | exact HB.out | apply below_alloc | apply pw_below_drewN | apply below_drew1) | exact HB.out)⟩
        · rw [if_neg c7] at H
          have c7b0 : decide ((l0.length : Int) ≤ 60) = false := decide_eq_false c7
          have c7b1 : decide (l0.length ≤ 60) = false := decide_eq_false (by omega)
          clear c7
          obtain rfl := Option.some.inj H
          go_wp2
          go_ret
          exact ⟨by first | rfl | (simp [errW_none, errW_some] <;> rfl) | (simp [*, errW_none, errW_some] <;> rfl), by repeat (first | (with_reducible first | exact HB.out | apply below_alloc | apply pw_below_drewN | apply below_drew1) | exact HB.out)⟩

/-! ### marlinelaw15_Few: function 26 -/
def marlinelaw15_Few.f (k : Nat) (a0_0 : Int) (a0_1 : Int) (a0_2 : Int) (l0_3 : List (S79)) (a0_4 : Int) (a0_5 : Int) (l0_6 : List Int) (l0_7 : List Int) (l0_8 : List Int) (l0_9 : List Int) : Option (Bool) := (marlinelaw12_Few.f k l0_3).bind fun t169 => (if t169 = true then (if (l0_6.length : Int) ≤ 600 then (if (l0_7.length : Int) ≤ 600 then (if (l0_8.length : Int) ≤ 600 then (some (decide ((l0_9.length : Int) ≤ 40))) else (some false)) else (some false)) else (some false)) else (some false))
theorem marlinelaw15_Few.mono : ∀ a0 a1 a2 a3 a4 a5 a6 a7 a8 a9 k, LeO (marlinelaw15_Few.f k a0 a1 a2 a3 a4 a5 a6 a7 a8 a9) (marlinelaw15_Few.f (k + 1) a0 a1 a2 a3 a4 a5 a6 a7 a8 a9) := by
  intro a0 a1 a2 a3 a4 a5 a6 a7 a8 a9 k
  unfold marlinelaw15_Few.f
  repeat' first
      | (with_reducible exact marlinelaw12_Few.mono _ _)
      | (with_reducible exact LeO.refl _)
      | (with_reducible exact LeO.none _)
      | (with_reducible refine LeO.ite ?_ ?_)
      | (with_reducible refine LeO.bind ?_ (fun _ => ?_))
      | exact marlinelaw12_Few.mono _ _
      | exact LeO.none _
      | refine LeO.ite ?_ ?_
      | refine LeO.bind ?_ (fun _ => ?_)
set_option maxHeartbeats 8000000 in
set_option maxRecDepth 100000 in
theorem marlinelaw15_Few.calls (k : Nat) (a0_0 : Int) (a0_1 : Int) (a0_2 : Int) (A0_3 : Option Addr) (c0_3 : Nat) (l0_3 : List (S79)) (a0_4 : Int) (a0_5 : Int) (A0_6 : Option Addr) (c0_6 : Nat) (l0_6 : List Int) (A0_7 : Option Addr) (c0_7 : Nat) (l0_7 : List Int) (A0_8 : Option Addr) (c0_8 : Nat) (l0_8 : List Int) (A0_9 : Option Addr) (c0_9 : Nat) (l0_9 : List Int) (r : Bool) (w : World) (hr0_3 : Kd.C k79 w A0_3 l0_3.length l0_3) (hc0_3 : l0_3.length ≤ c0_3) (hr0_6 : Kd.C (Kd.int .u8) w A0_6 l0_6.length l0_6) (hc0_6 : l0_6.length ≤ c0_6) (hr0_7 : Kd.C (Kd.int .u8) w A0_7 l0_7.length l0_7) (hc0_7 : l0_7.length ≤ c0_7) (hr0_8 : Kd.C (Kd.int .u8) w A0_8 l0_8.length l0_8) (hc0_8 : l0_8.length ≤ c0_8) (hr0_9 : Kd.C (Kd.int .u32) w A0_9 l0_9.length l0_9) (hc0_9 : l0_9.length ≤ c0_9) (h : marlinelaw15_Few.f k a0_0 a0_1 a0_2 l0_3 a0_4 a0_5 l0_6 l0_7 l0_8 l0_9 = some r) :
    Calls Try.prog 26 #[.agg #[.int .u16 a0_0, .int .u8 a0_1, .int .u8 a0_2, .slice A0_3 l0_3.length c0_3, .int .u16 a0_4, .int .u32 a0_5, .slice A0_6 l0_6.length c0_6, .slice A0_7 l0_7.length c0_7, .slice A0_8 l0_8.length c0_8, .slice A0_9 l0_9.length c0_9]] w fun e w' => e = .returned (.bool r) ∧ Below w.heap.size w w' := by
  have hu45 := Try.underlying45
  have HR0_3 := Aside0.mk hr0_3
  have HC0_3 := Aside0.mk hc0_3
  clear hr0_3 hc0_3
  have HR0_6 := Aside0.mk hr0_6
  have HC0_6 := Aside0.mk hc0_6
  clear hr0_6 hc0_6
  have HR0_7 := Aside0.mk hr0_7
  have HC0_7 := Aside0.mk hc0_7
  clear hr0_7 hc0_7
  have HR0_8 := Aside0.mk hr0_8
  have HC0_8 := Aside0.mk hc0_8
  clear hr0_8 hc0_8
  have HR0_9 := Aside0.mk hr0_9
  have HC0_9 := Aside0.mk hc0_9
  clear hr0_9 hc0_9
  have HB := Aside0.mk (Below.refl w.heap.size w)
  have H : ((marlinelaw12_Few.f k l0_3).bind fun t169 => (if t169 = true then (if (l0_6.length : Int) ≤ 600 then (if (l0_7.length : Int) ≤ 600 then (if (l0_8.length : Int) ≤ 600 then (some (decide ((l0_9.length : Int) ≤ 40))) else (some false)) else (some false)) else (some false)) else (some false))) = some r := h
  clear h
  replace H := Option.bind_eq_some_iff.mp H
  obtain ⟨t169, A20, H⟩ := H
  replace H : (if t169 = true then (if (l0_6.length : Int) ≤ 600 then (if (l0_7.length : Int) ≤ 600 then (if (l0_8.length : Int) ≤ 600 then (some (decide ((l0_9.length : Int) ≤ 40))) else (some false)) else (some false)) else (some false)) else (some false)) = some r := H
  have A2 := Aside0.mk A20
  clear A20
  by_cases c3 : t169 = true
  · subst c3
    have H1 : (if (l0_6.length : Int) ≤ 600 then (if (l0_7.length : Int) ≤ 600 then (if (l0_8.length : Int) ≤ 600 then (some (decide ((l0_9.length : Int) ≤ 40))) else (some false)) else (some false)) else (some false)) = some r := by rw [if_pos rfl] at H; exact H
    clear H
    have H := H1
    clear H1
    by_cases c4 : (l0_6.length : Int) ≤ 600
    · rw [if_pos c4] at H
      have c4b0 : decide ((l0_6.length : Int) ≤ 600) = true := decide_eq_true c4
      have c4b1 : decide (l0_6.length ≤ 600) = true := decide_eq_true (by omega)
      clear c4
      by_cases c5 : (l0_7.length : Int) ≤ 600
      · rw [if_pos c5] at H
        have c5b0 : decide ((l0_7.length : Int) ≤ 600) = true := decide_eq_true c5
        have c5b1 : decide (l0_7.length ≤ 600) = true := decide_eq_true (by omega)
        clear c5
        by_cases c6 : (l0_8.length : Int) ≤ 600
        · rw [if_pos c6] at H
          have c6b0 : decide ((l0_8.length : Int) ≤ 600) = true := decide_eq_true c6
          have c6b1 : decide (l0_8.length ≤ 600) = true := decide_eq_true (by omega)
          clear c6
          obtain rfl := Option.some.inj H
          go_enter Try.func26, Try.ntmps26
          go_wp2_with (first | ((with_reducible refine gate_dst (N := 1) rfl ?_); (try (refine gate_guard (by rfl) ?_; dsimp only)); refine box_event ?hg (N := 1) ?hd (cs := #[.int .u16 a0_0, .int .u8 a0_1, .int .u8 a0_2, .slice A0_3 l0_3.length c0_3, .int .u16 a0_4, .int .u32 a0_5, .slice A0_6 l0_6.length c0_6, .slice A0_7 l0_7.length c0_7, .slice A0_8 l0_8.length c0_8, .slice A0_9 l0_9.length c0_9]) (t := 45) ?hr ?_; (case hd => rfl); (case hg => rfl); (case hr => first | (go_simp; done) | (go_simp; rfl)); intro gb168 hg w7 hbox hb; have n0_ := Aside0.mk (below_step (by repeat (first | (with_reducible first | exact HB.out | apply below_alloc | apply pw_below_drewN | apply below_drew1) | exact HB.out)) hb); have n1_ := Aside0.mk (hbox); have n2_ := Aside0.mk ((by rw [hg]; exact (below_size (by repeat (first | (with_reducible first | exact HB.out | apply below_alloc | apply pw_below_drewN | apply below_drew1) | exact HB.out))) : w.heap.size ≤ gb168)); have n3_ := Aside0.mk ((by rw [hg]; exact (below_size (by repeat (first | (with_reducible first | exact HB.out | apply below_alloc | apply pw_below_drewN | apply below_drew1) | exact HB.out))) : w.heap.size ≤ gb168)); clear HB; have HB := n0_; have BK168 := n1_; have GW168 := n2_; have GE168 := n3_; clear n0_ n1_ n2_ n3_; clear hb hbox hg; have hcz8_0 : w7.cell? ⟨gb168, 0, none⟩ = some (.int .u16 a0_0) := (blk_cell BK168.out 0).trans rfl; have hcz8_1 : w7.cell? ⟨gb168, 1, none⟩ = some (.int .u8 a0_1) := (blk_cell BK168.out 1).trans rfl; have hcz8_2 : w7.cell? ⟨gb168, 2, none⟩ = some (.int .u8 a0_2) := (blk_cell BK168.out 2).trans rfl; have hcz8_3 : w7.cell? ⟨gb168, 3, none⟩ = some (.slice A0_3 l0_3.length c0_3) := (blk_cell BK168.out 3).trans rfl; have hcz8_4 : w7.cell? ⟨gb168, 4, none⟩ = some (.int .u16 a0_4) := (blk_cell BK168.out 4).trans rfl; have hcz8_5 : w7.cell? ⟨gb168, 5, none⟩ = some (.int .u32 a0_5) := (blk_cell BK168.out 5).trans rfl; have hcz8_6 : w7.cell? ⟨gb168, 6, none⟩ = some (.slice A0_6 l0_6.length c0_6) := (blk_cell BK168.out 6).trans rfl; have hcz8_7 : w7.cell? ⟨gb168, 7, none⟩ = some (.slice A0_7 l0_7.length c0_7) := (blk_cell BK168.out 7).trans rfl; have hcz8_8 : w7.cell? ⟨gb168, 8, none⟩ = some (.slice A0_8 l0_8.length c0_8) := (blk_cell BK168.out 8).trans rfl; have hcz8_9 : w7.cell? ⟨gb168, 9, none⟩ = some (.slice A0_9 l0_9.length c0_9) := (blk_cell BK168.out 9).trans rfl; have hfz8_0 := blk_frozen BK168.out 0; have hfz8_1 := blk_frozen BK168.out 1; have hfz8_2 := blk_frozen BK168.out 2; have hfz8_3 := blk_frozen BK168.out 3; have hfz8_4 := blk_frozen BK168.out 4; have hfz8_5 := blk_frozen BK168.out 5; have hfz8_6 := blk_frozen BK168.out 6; have hfz8_7 := blk_frozen BK168.out 7; have hfz8_8 := blk_frozen BK168.out 8; have hfz8_9 := blk_frozen BK168.out 9) | ((with_reducible refine gate_callee (f := 36) rfl ?_); refine goesL_ (some 5) rfl rfl Try.func36 (by kernel_rfl) rfl #[.slice A0_3 l0_3.length c0_3] rfl (by (try simp only [List.map_toArray, List.map_cons, List.map_nil]); first | done | rfl | (simp only [List.length_drop, List.length_take]; rfl)) ?_; (with_reducible refine (marlinelaw12_Few.calls k _ _ l0_3 true _ ?side1 ?side2 A2.out).mono ?_); (case side1 => repeat (first | exact (Kd.C_below HR0_3.out HB.out) | (with_reducible refine Kd.C_alloc ?_ _) | (with_reducible refine Kd.C_drewN ?_ _) | (with_reducible refine Kd.C_drew ?_))); (case side2 => exact HC0_3.out); rintro e w9 ⟨rfl, hb⟩; refine ⟨_, rfl, ?_⟩; have n0_ := Aside0.mk (blk_below (g := gb168) (o := .cells #[.int .u16 a0_0, .int .u8 a0_1, .int .u8 a0_2, .slice A0_3 l0_3.length c0_3, .int .u16 a0_4, .int .u32 a0_5, .slice A0_6 l0_6.length c0_6, .slice A0_7 l0_7.length c0_7, .slice A0_8 l0_8.length c0_8, .slice A0_9 l0_9.length c0_9] 45 (0, 0)) (by (with_reducible repeat (first | refine blk_drewN ?_ _ | refine blk_drew ?_ | refine blk_alloc ?_ _)); exact BK168.out) hb); have n1_ := Aside0.mk (below_step (by repeat (first | (with_reducible first | exact HB.out | apply below_alloc | apply pw_below_drewN | apply below_drew1 | refine below_set ?_ GE168.out) | exact HB.out)) hb); clear BK168; clear HB; have BK168 := n0_; have HB := n1_; clear n0_ n1_; (try clear hb); (try clear hb2); (try clear hk); (try clear hi); have hcz10_0 : w9.cell? ⟨gb168, 0, none⟩ = some (.int .u16 a0_0) := (blk_cell BK168.out 0).trans rfl; have hcz10_1 : w9.cell? ⟨gb168, 1, none⟩ = some (.int .u8 a0_1) := (blk_cell BK168.out 1).trans rfl; have hcz10_2 : w9.cell? ⟨gb168, 2, none⟩ = some (.int .u8 a0_2) := (blk_cell BK168.out 2).trans rfl; have hcz10_3 : w9.cell? ⟨gb168, 3, none⟩ = some (.slice A0_3 l0_3.length c0_3) := (blk_cell BK168.out 3).trans rfl; have hcz10_4 : w9.cell? ⟨gb168, 4, none⟩ = some (.int .u16 a0_4) := (blk_cell BK168.out 4).trans rfl; have hcz10_5 : w9.cell? ⟨gb168, 5, none⟩ = some (.int .u32 a0_5) := (blk_cell BK168.out 5).trans rfl; have hcz10_6 : w9.cell? ⟨gb168, 6, none⟩ = some (.slice A0_6 l0_6.length c0_6) := (blk_cell BK168.out 6).trans rfl; have hcz10_7 : w9.cell? ⟨gb168, 7, none⟩ = some (.slice A0_7 l0_7.length c0_7) := (blk_cell BK168.out 7).trans rfl; have hcz10_8 : w9.cell? ⟨gb168, 8, none⟩ = some (.slice A0_8 l0_8.length c0_8) := (blk_cell BK168.out 8).trans rfl; have hcz10_9 : w9.cell? ⟨gb168, 9, none⟩ = some (.slice A0_9 l0_9.length c0_9) := (blk_cell BK168.out 9).trans rfl; have hfz10_0 := blk_frozen BK168.out 0; have hfz10_1 := blk_frozen BK168.out 1; have hfz10_2 := blk_frozen BK168.out 2; have hfz10_3 := blk_frozen BK168.out 3; have hfz10_4 := blk_frozen BK168.out 4; have hfz10_5 := blk_frozen BK168.out 5; have hfz10_6 := blk_frozen BK168.out 6; have hfz10_7 := blk_frozen BK168.out 7; have hfz10_8 := blk_frozen BK168.out 8; have hfz10_9 := blk_frozen BK168.out 9))
          go_ret
          exact ⟨by first | rfl | (simp [errW_none, errW_some] <;> rfl) | (simp [*, errW_none, errW_some] <;> rfl), by repeat (first | (with_reducible first | exact HB.out | apply below_alloc | apply pw_below_drewN | apply below_drew1 | refine below_set ?_ GE168.out) | exact HB.out)⟩
        · rw [if_neg c6] at H
          have c6b0 : decide ((l0_8.length : Int) ≤ 600) = false := decide_eq_false c6
          have c6b1 : decide (l0_8.length ≤ 600) = false := decide_eq_false (by omega)
          clear c6
          obtain rfl := Option.some.inj H
          go_enter Try.func26, Try.ntmps26
          go_wp2_with (first | ((with_reducible refine gate_dst (N := 1) rfl ?_); (try (refine gate_guard (by rfl) ?_; dsimp only)); refine box_event ?hg (N := 1) ?hd (cs := #[.int .u16 a0_0, .int .u8 a0_1, .int .u8 a0_2, .slice A0_3 l0_3.length c0_3, .int .u16 a0_4, .int .u32 a0_5, .slice A0_6 l0_6.length c0_6, .slice A0_7 l0_7.length c0_7, .slice A0_8 l0_8.length c0_8, .slice A0_9 l0_9.length c0_9]) (t := 45) ?hr ?_; (case hd => rfl); (case hg => rfl); (case hr => first | (go_simp; done) | (go_simp; rfl)); intro gb168 hg w11 hbox hb; have n0_ := Aside0.mk (below_step (by repeat (first | (with_reducible first | exact HB.out | apply below_alloc | apply pw_below_drewN | apply below_drew1) | exact HB.out)) hb); have n1_ := Aside0.mk (hbox); have n2_ := Aside0.mk ((by rw [hg]; exact (below_size (by repeat (first | (with_reducible first | exact HB.out | apply below_alloc | apply pw_below_drewN | apply below_drew1) | exact HB.out))) : w.heap.size ≤ gb168)); have n3_ := Aside0.mk ((by rw [hg]; exact (below_size (by repeat (first | (with_reducible first | exact HB.out | apply below_alloc | apply pw_below_drewN | apply below_drew1) | exact HB.out))) : w.heap.size ≤ gb168)); clear HB; have HB := n0_; have BK168 := n1_; have GW168 := n2_; have GE168 := n3_; clear n0_ n1_ n2_ n3_; clear hb hbox hg; have hcz12_0 : w11.cell? ⟨gb168, 0, none⟩ = some (.int .u16 a0_0) := (blk_cell BK168.out 0).trans rfl; have hcz12_1 : w11.cell? ⟨gb168, 1, none⟩ = some (.int .u8 a0_1) := (blk_cell BK168.out 1).trans rfl; have hcz12_2 : w11.cell? ⟨gb168, 2, none⟩ = some (.int .u8 a0_2) := (blk_cell BK168.out 2).trans rfl; have hcz12_3 : w11.cell? ⟨gb168, 3, none⟩ = some (.slice A0_3 l0_3.length c0_3) := (blk_cell BK168.out 3).trans rfl; have hcz12_4 : w11.cell? ⟨gb168, 4, none⟩ = some (.int .u16 a0_4) := (blk_cell BK168.out 4).trans rfl; have hcz12_5 : w11.cell? ⟨gb168, 5, none⟩ = some (.int .u32 a0_5) := (blk_cell BK168.out 5).trans rfl; have hcz12_6 : w11.cell? ⟨gb168, 6, none⟩ = some (.slice A0_6 l0_6.length c0_6) := (blk_cell BK168.out 6).trans rfl; have hcz12_7 : w11.cell? ⟨gb168, 7, none⟩ = some (.slice A0_7 l0_7.length c0_7) := (blk_cell BK168.out 7).trans rfl; have hcz12_8 : w11.cell? ⟨gb168, 8, none⟩ = some (.slice A0_8 l0_8.length c0_8) := (blk_cell BK168.out 8).trans rfl; have hcz12_9 : w11.cell? ⟨gb168, 9, none⟩ = some (.slice A0_9 l0_9.length c0_9) := (blk_cell BK168.out 9).trans rfl; have hfz12_0 := blk_frozen BK168.out 0; have hfz12_1 := blk_frozen BK168.out 1; have hfz12_2 := blk_frozen BK168.out 2; have hfz12_3 := blk_frozen BK168.out 3; have hfz12_4 := blk_frozen BK168.out 4; have hfz12_5 := blk_frozen BK168.out 5; have hfz12_6 := blk_frozen BK168.out 6; have hfz12_7 := blk_frozen BK168.out 7; have hfz12_8 := blk_frozen BK168.out 8; have hfz12_9 := blk_frozen BK168.out 9) | ((with_reducible refine gate_callee (f := 36) rfl ?_); refine goesL_ (some 5) rfl rfl Try.func36 (by kernel_rfl) rfl #[.slice A0_3 l0_3.length c0_3] rfl (by (try simp only [List.map_toArray, List.map_cons, List.map_nil]); first | done | rfl | (simp only [List.length_drop, List.length_take]; rfl)) ?_; (with_reducible refine (marlinelaw12_Few.calls k _ _ l0_3 true _ ?side1 ?side2 A2.out).mono ?_); (case side1 => repeat (first | exact (Kd.C_below HR0_3.out HB.out) | (with_reducible refine Kd.C_alloc ?_ _) | (with_reducible refine Kd.C_drewN ?_ _) | (with_reducible refine Kd.C_drew ?_))); (case side2 => exact HC0_3.out); rintro e w13 ⟨rfl, hb⟩; refine ⟨_, rfl, ?_⟩; have n0_ := Aside0.mk (blk_below (g := gb168) (o := .cells #[.int .u16 a0_0, .int .u8 a0_1, .int .u8 a0_2, .slice A0_3 l0_3.length c0_3, .int .u16 a0_4, .int .u32 a0_5, .slice A0_6 l0_6.length c0_6, .slice A0_7 l0_7.length c0_7, .slice A0_8 l0_8.length c0_8, .slice A0_9 l0_9.length c0_9] 45 (0, 0)) (by (with_reducible repeat (first | refine blk_drewN ?_ _ | refine blk_drew ?_ | refine blk_alloc ?_ _)); exact BK168.out) hb); have n1_ := Aside0.mk (below_step (by repeat (first | (with_reducible first | exact HB.out | apply below_alloc | apply pw_below_drewN | apply below_drew1 | refine below_set ?_ GE168.out) | exact HB.out)) hb); clear BK168; clear HB; have BK168 := n0_; have HB := n1_; clear n0_ n1_; (try clear hb); (try clear hb2); (try clear hk); (try clear hi); have hcz14_0 : w13.cell? ⟨gb168, 0, none⟩ = some (.int .u16 a0_0) := (blk_cell BK168.out 0).trans rfl; have hcz14_1 : w13.cell? ⟨gb168, 1, none⟩ = some (.int .u8 a0_1) := (blk_cell BK168.out 1).trans rfl; have hcz14_2 : w13.cell? ⟨gb168, 2, none⟩ = some (.int .u8 a0_2) := (blk_cell BK168.out 2).trans rfl; have hcz14_3 : w13.cell? ⟨gb168, 3, none⟩ = some (.slice A0_3 l0_3.length c0_3) := (blk_cell BK168.out 3).trans rfl; have hcz14_4 : w13.cell? ⟨gb168, 4, none⟩ = some (.int .u16 a0_4) := (blk_cell BK168.out 4).trans rfl; have hcz14_5 : w13.cell? ⟨gb168, 5, none⟩ = some (.int .u32 a0_5) := (blk_cell BK168.out 5).trans rfl; have hcz14_6 : w13.cell? ⟨gb168, 6, none⟩ = some (.slice A0_6 l0_6.length c0_6) := (blk_cell BK168.out 6).trans rfl; have hcz14_7 : w13.cell? ⟨gb168, 7, none⟩ = some (.slice A0_7 l0_7.length c0_7) := (blk_cell BK168.out 7).trans rfl; have hcz14_8 : w13.cell? ⟨gb168, 8, none⟩ = some (.slice A0_8 l0_8.length c0_8) := (blk_cell BK168.out 8).trans rfl; have hcz14_9 : w13.cell? ⟨gb168, 9, none⟩ = some (.slice A0_9 l0_9.length c0_9) := (blk_cell BK168.out 9).trans rfl; have hfz14_0 := blk_frozen BK168.out 0; have hfz14_1 := blk_frozen BK168.out 1; have hfz14_2 := blk_frozen BK168.out 2; have hfz14_3 := blk_frozen BK168.out 3; have hfz14_4 := blk_frozen BK168.out 4; have hfz14_5 := blk_frozen BK168.out 5; have hfz14_6 := blk_frozen BK168.out 6; have hfz14_7 := blk_frozen BK168.out 7; have hfz14_8 := blk_frozen BK168.out 8; have hfz14_9 := blk_frozen BK168.out 9))
          go_ret
          exact ⟨by first | rfl | (simp [errW_none, errW_some] <;> rfl) | (simp [*, errW_none, errW_some] <;> rfl), by repeat (first | (with_reducible first | exact HB.out | apply below_alloc | apply pw_below_drewN | apply below_drew1 | refine below_set ?_ GE168.out) | exact HB.out)⟩
      · rw [if_neg c5] at H
        have c5b0 : decide ((l0_7.length : Int) ≤ 600) = false := decide_eq_false c5
        have c5b1 : decide (l0_7.length ≤ 600) = false := decide_eq_false (by omega)
        clear c5
        obtain rfl := Option.some.inj H
        go_enter Try.func26, Try.ntmps26
        go_wp2_with (first | ((with_reducible refine gate_dst (N := 1) rfl ?_); (try (refine gate_guard (by rfl) ?_; dsimp only)); refine box_event ?hg (N := 1) ?hd (cs := #[.int .u16 a0_0, .int .u8 a0_1, .int .u8 a0_2, .slice A0_3 l0_3.length c0_3, .int .u16 a0_4, .int .u32 a0_5, .slice A0_6 l0_6.length c0_6, .slice A0_7 l0_7.length c0_7, .slice A0_8 l0_8.length c0_8, .slice A0_9 l0_9.length c0_9]) (t := 45) ?hr ?_; (case hd => rfl); (case hg => rfl); (case hr => first | (go_simp; done) | (go_simp; rfl)); intro gb168 hg w15 hbox hb; have n0_ := Aside0.mk (below_step (by repeat (first | (with_reducible first | exact HB.out | apply below_alloc | apply pw_below_drewN | apply below_drew1) | exact HB.out)) hb); have n1_ := Aside0.mk (hbox); have n2_ := Aside0.mk ((by rw [hg]; exact (below_size (by repeat (first | (with_reducible first | exact HB.out | apply below_alloc | apply pw_below_drewN | apply below_drew1) | exact HB.out))) : w.heap.size ≤ gb168)); have n3_ := Aside0.mk ((by rw [hg]; exact (below_size (by repeat (first | (with_reducible first | exact HB.out | apply below_alloc | apply pw_below_drewN | apply below_drew1) | exact HB.out))) : w.heap.size ≤ gb168)); clear HB; have HB := n0_; have BK168 := n1_; have GW168 := n2_; have GE168 := n3_; clear n0_ n1_ n2_ n3_; clear hb hbox hg; have hcz16_0 : w15.cell? ⟨gb168, 0, none⟩ = some (.int .u16 a0_0) := (blk_cell BK168.out 0).trans rfl; have hcz16_1 : w15.cell? ⟨gb168, 1, none⟩ = some (.int .u8 a0_1) := (blk_cell BK168.out 1).trans rfl; have hcz16_2 : w15.cell? ⟨gb168, 2, none⟩ = some (.int .u8 a0_2) := (blk_cell BK168.out 2).trans rfl; have hcz16_3 : w15.cell? ⟨gb168, 3, none⟩ = some (.slice A0_3 l0_3.length c0_3) := (blk_cell BK168.out 3).trans rfl; have hcz16_4 : w15.cell? ⟨gb168, 4, none⟩ = some (.int .u16 a0_4) := (blk_cell BK168.out 4).trans rfl; have hcz16_5 : w15.cell? ⟨gb168, 5, none⟩ = some (.int .u32 a0_5) := (blk_cell BK168.out 5).trans rfl; have hcz16_6 : w15.cell? ⟨gb168, 6, none⟩ = some (.slice A0_6 l0_6.length c0_6) := (blk_cell BK168.out 6).trans rfl; have hcz16_7 : w15.cell? ⟨gb168, 7, none⟩ = some (.slice A0_7 l0_7.length c0_7) := (blk_cell BK168.out 7).trans rfl; have hcz16_8 : w15.cell? ⟨gb168, 8, none⟩ = some (.slice A0_8 l0_8.length c0_8) := (blk_cell BK168.out 8).trans rfl; have hcz16_9 : w15.cell? ⟨gb168, 9, none⟩ = some (.slice A0_9 l0_9.length c0_9) := (blk_cell BK168.out 9).trans rfl; have hfz16_0 := blk_frozen BK168.out 0; have hfz16_1 := blk_frozen BK168.out 1; have hfz16_2 := blk_frozen BK168.out 2; have hfz16_3 := blk_frozen BK168.out 3; have hfz16_4 := blk_frozen BK168.out 4; have hfz16_5 := blk_frozen BK168.out 5; have hfz16_6 := blk_frozen BK168.out 6; have hfz16_7 := blk_frozen BK168.out 7; have hfz16_8 := blk_frozen BK168.out 8; have hfz16_9 := blk_frozen BK168.out 9) | ((with_reducible refine gate_callee (f := 36) rfl ?_); refine goesL_ (some 5) rfl rfl Try.func36 (by kernel_rfl) rfl #[.slice A0_3 l0_3.length c0_3] rfl (by (try simp only [List.map_toArray, List.map_cons, List.map_nil]); first | done | rfl | (simp only [List.length_drop, List.length_take]; rfl)) ?_; (with_reducible refine (marlinelaw12_Few.calls k _ _ l0_3 true _ ?side1 ?side2 A2.out).mono ?_); (case side1 => repeat (first | exact (Kd.C_below HR0_3.out HB.out) | (with_reducible refine Kd.C_alloc ?_ _) | (with_reducible refine Kd.C_drewN ?_ _) | (with_reducible refine Kd.C_drew ?_))); (case side2 => exact HC0_3.out); rintro e w17 ⟨rfl, hb⟩; refine ⟨_, rfl, ?_⟩; have n0_ := Aside0.mk (blk_below (g := gb168) (o := .cells #[.int .u16 a0_0, .int .u8 a0_1, .int .u8 a0_2, .slice A0_3 l0_3.length c0_3, .int .u16 a0_4, .int .u32 a0_5, .slice A0_6 l0_6.length c0_6, .slice A0_7 l0_7.length c0_7, .slice A0_8 l0_8.length c0_8, .slice A0_9 l0_9.length c0_9] 45 (0, 0)) (by (with_reducible repeat (first | refine blk_drewN ?_ _ | refine blk_drew ?_ | refine blk_alloc ?_ _)); exact BK168.out) hb); have n1_ := Aside0.mk (below_step (by repeat (first | (with_reducible first | exact HB.out | apply below_alloc | apply pw_below_drewN | apply below_drew1 | refine below_set ?_ GE168.out) | exact HB.out)) hb); clear BK168; clear HB; have BK168 := n0_; have HB := n1_; clear n0_ n1_; (try clear hb); (try clear hb2); (try clear hk); (try clear hi); have hcz18_0 : w17.cell? ⟨gb168, 0, none⟩ = some (.int .u16 a0_0) := (blk_cell BK168.out 0).trans rfl; have hcz18_1 : w17.cell? ⟨gb168, 1, none⟩ = some (.int .u8 a0_1) := (blk_cell BK168.out 1).trans rfl; have hcz18_2 : w17.cell? ⟨gb168, 2, none⟩ = some (.int .u8 a0_2) := (blk_cell BK168.out 2).trans rfl; have hcz18_3 : w17.cell? ⟨gb168, 3, none⟩ = some (.slice A0_3 l0_3.length c0_3) := (blk_cell BK168.out 3).trans rfl; have hcz18_4 : w17.cell? ⟨gb168, 4, none⟩ = some (.int .u16 a0_4) := (blk_cell BK168.out 4).trans rfl; have hcz18_5 : w17.cell? ⟨gb168, 5, none⟩ = some (.int .u32 a0_5) := (blk_cell BK168.out 5).trans rfl; have hcz18_6 : w17.cell? ⟨gb168, 6, none⟩ = some (.slice A0_6 l0_6.length c0_6) := (blk_cell BK168.out 6).trans rfl; have hcz18_7 : w17.cell? ⟨gb168, 7, none⟩ = some (.slice A0_7 l0_7.length c0_7) := (blk_cell BK168.out 7).trans rfl; have hcz18_8 : w17.cell? ⟨gb168, 8, none⟩ = some (.slice A0_8 l0_8.length c0_8) := (blk_cell BK168.out 8).trans rfl; have hcz18_9 : w17.cell? ⟨gb168, 9, none⟩ = some (.slice A0_9 l0_9.length c0_9) := (blk_cell BK168.out 9).trans rfl; have hfz18_0 := blk_frozen BK168.out 0; have hfz18_1 := blk_frozen BK168.out 1; have hfz18_2 := blk_frozen BK168.out 2; have hfz18_3 := blk_frozen BK168.out 3; have hfz18_4 := blk_frozen BK168.out 4; have hfz18_5 := blk_frozen BK168.out 5; have hfz18_6 := blk_frozen BK168.out 6; have hfz18_7 := blk_frozen BK168.out 7; have hfz18_8 := blk_frozen BK168.out 8; have hfz18_9 := blk_frozen BK168.out 9))
        go_ret
        exact ⟨by first | rfl | (simp [errW_none, errW_some] <;> rfl) | (simp [*, errW_none, errW_some] <;> rfl), by repeat (first | (with_reducible first | exact HB.out | apply below_alloc | apply pw_below_drewN | apply below_drew1 | refine below_set ?_ GE168.out) | exact HB.out)⟩
    · rw [if_neg c4] at H
      have c4b0 : decide ((l0_6.length : Int) ≤ 600) = false := decide_eq_false c4
      have c4b1 : decide (l0_6.length ≤ 600) = false := decide_eq_false (by omega)
      clear c4
      obtain rfl := Option.some.inj H
      go_enter Try.func26, Try.ntmps26
      go_wp2_with (first | ((with_reducible refine gate_dst (N := 1) rfl ?_); (try (refine gate_guard (by rfl) ?_; dsimp only)); refine box_event ?hg (N := 1) ?hd (cs := #[.int .u16 a0_0, .int .u8 a0_1, .int .u8 a0_2, .slice A0_3 l0_3.length c0_3, .int .u16 a0_4, .int .u32 a0_5, .slice A0_6 l0_6.length c0_6, .slice A0_7 l0_7.length c0_7, .slice A0_8 l0_8.length c0_8, .slice A0_9 l0_9.length c0_9]) (t := 45) ?hr ?_; (case hd => rfl); (case hg => rfl); (case hr => first | (go_simp; done) | (go_simp; rfl)); intro gb168 hg w19 hbox hb; have n0_ := Aside0.mk (below_step (by repeat (first | (with_reducible first | exact HB.out | apply below_alloc | apply pw_below_drewN | apply below_drew1) | exact HB.out)) hb); have n1_ := Aside0.mk (hbox); have n2_ := Aside0.mk ((by rw [hg]; exact (below_size (by repeat (first | (with_reducible first | exact HB.out | apply below_alloc | apply pw_below_drewN | apply below_drew1) | exact HB.out))) : w.heap.size ≤ gb168)); have n3_ := Aside0.mk ((by rw [hg]; exact (below_size (by repeat (first | (with_reducible first | exact HB.out | apply below_alloc | apply pw_below_drewN | apply below_drew1) | exact HB.out))) : w.heap.size ≤ gb168)); clear HB; have HB := n0_; have BK168 := n1_; have GW168 := n2_; have GE168 := n3_; clear n0_ n1_ n2_ n3_; clear hb hbox hg; have hcz20_0 : w19.cell? ⟨gb168, 0, none⟩ = some (.int .u16 a0_0) := (blk_cell BK168.out 0).trans rfl; have hcz20_1 : w19.cell? ⟨gb168, 1, none⟩ = some (.int .u8 a0_1) := (blk_cell BK168.out 1).trans rfl; have hcz20_2 : w19.cell? ⟨gb168, 2, none⟩ = some (.int .u8 a0_2) := (blk_cell BK168.out 2).trans rfl; have hcz20_3 : w19.cell? ⟨gb168, 3, none⟩ = some (.slice A0_3 l0_3.length c0_3) := (blk_cell BK168.out 3).trans rfl; have hcz20_4 : w19.cell? ⟨gb168, 4, none⟩ = some (.int .u16 a0_4) := (blk_cell BK168.out 4).trans rfl; have hcz20_5 : w19.cell? ⟨gb168, 5, none⟩ = some (.int .u32 a0_5) := (blk_cell BK168.out 5).trans rfl; have hcz20_6 : w19.cell? ⟨gb168, 6, none⟩ = some (.slice A0_6 l0_6.length c0_6) := (blk_cell BK168.out 6).trans rfl; have hcz20_7 : w19.cell? ⟨gb168, 7, none⟩ = some (.slice A0_7 l0_7.length c0_7) := (blk_cell BK168.out 7).trans rfl; have hcz20_8 : w19.cell? ⟨gb168, 8, none⟩ = some (.slice A0_8 l0_8.length c0_8) := (blk_cell BK168.out 8).trans rfl; have hcz20_9 : w19.cell? ⟨gb168, 9, none⟩ = some (.slice A0_9 l0_9.length c0_9) := (blk_cell BK168.out 9).trans rfl; have hfz20_0 := blk_frozen BK168.out 0; have hfz20_1 := blk_frozen BK168.out 1; have hfz20_2 := blk_frozen BK168.out 2; have hfz20_3 := blk_frozen BK168.out 3; have hfz20_4 := blk_frozen BK168.out 4; have hfz20_5 := blk_frozen BK168.out 5; have hfz20_6 := blk_frozen BK168.out 6; have hfz20_7 := blk_frozen BK168.out 7; have hfz20_8 := blk_frozen BK168.out 8; have hfz20_9 := blk_frozen BK168.out 9) | ((with_reducible refine gate_callee (f := 36) rfl ?_); refine goesL_ (some 5) rfl rfl Try.func36 (by kernel_rfl) rfl #[.slice A0_3 l0_3.length c0_3] rfl (by (try simp only [List.map_toArray, List.map_cons, List.map_nil]); first | done | rfl | (simp only [List.length_drop, List.length_take]; rfl)) ?_; (with_reducible refine (marlinelaw12_Few.calls k _ _ l0_3 true _ ?side1 ?side2 A2.out).mono ?_); (case side1 => repeat (first | exact (Kd.C_below HR0_3.out HB.out) | (with_reducible refine Kd.C_alloc ?_ _) | (with_reducible refine Kd.C_drewN ?_ _) | (with_reducible refine Kd.C_drew ?_))); (case side2 => exact HC0_3.out); rintro e w21 ⟨rfl, hb⟩; refine ⟨_, rfl, ?_⟩; have n0_ := Aside0.mk (blk_below (g := gb168) (o := .cells #[.int .u16 a0_0, .int .u8 a0_1, .int .u8 a0_2, .slice A0_3 l0_3.length c0_3, .int .u16 a0_4, .int .u32 a0_5, .slice A0_6 l0_6.length c0_6, .slice A0_7 l0_7.length c0_7, .slice A0_8 l0_8.length c0_8, .slice A0_9 l0_9.length c0_9] 45 (0, 0)) (by (with_reducible repeat (first | refine blk_drewN ?_ _ | refine blk_drew ?_ | refine blk_alloc ?_ _)); exact BK168.out) hb); have n1_ := Aside0.mk (below_step (by repeat (first | (with_reducible first | exact HB.out | apply below_alloc | apply pw_below_drewN | apply below_drew1 | refine below_set ?_ GE168.out) | exact HB.out)) hb); clear BK168; clear HB; have BK168 := n0_; have HB := n1_; clear n0_ n1_; (try clear hb); (try clear hb2); (try clear hk); (try clear hi); have hcz22_0 : w21.cell? ⟨gb168, 0, none⟩ = some (.int .u16 a0_0) := (blk_cell BK168.out 0).trans rfl; have hcz22_1 : w21.cell? ⟨gb168, 1, none⟩ = some (.int .u8 a0_1) := (blk_cell BK168.out 1).trans rfl; have hcz22_2 : w21.cell? ⟨gb168, 2, none⟩ = some (.int .u8 a0_2) := (blk_cell BK168.out 2).trans rfl; have hcz22_3 : w21.cell? ⟨gb168, 3, none⟩ = some (.slice A0_3 l0_3.length c0_3) := (blk_cell BK168.out 3).trans rfl; have hcz22_4 : w21.cell? ⟨gb168, 4, none⟩ = some (.int .u16 a0_4) := (blk_cell BK168.out 4).trans rfl; have hcz22_5 : w21.cell? ⟨gb168, 5, none⟩ = some (.int .u32 a0_5) := (blk_cell BK168.out 5).trans rfl; have hcz22_6 : w21.cell? ⟨gb168, 6, none⟩ = some (.slice A0_6 l0_6.length c0_6) := (blk_cell BK168.out 6).trans rfl; have hcz22_7 : w21.cell? ⟨gb168, 7, none⟩ = some (.slice A0_7 l0_7.length c0_7) := (blk_cell BK168.out 7).trans rfl; have hcz22_8 : w21.cell? ⟨gb168, 8, none⟩ = some (.slice A0_8 l0_8.length c0_8) := (blk_cell BK168.out 8).trans rfl; have hcz22_9 : w21.cell? ⟨gb168, 9, none⟩ = some (.slice A0_9 l0_9.length c0_9) := (blk_cell BK168.out 9).trans rfl; have hfz22_0 := blk_frozen BK168.out 0; have hfz22_1 := blk_frozen BK168.out 1; have hfz22_2 := blk_frozen BK168.out 2; have hfz22_3 := blk_frozen BK168.out 3; have hfz22_4 := blk_frozen BK168.out 4; have hfz22_5 := blk_frozen BK168.out 5; have hfz22_6 := blk_frozen BK168.out 6; have hfz22_7 := blk_frozen BK168.out 7; have hfz22_8 := blk_frozen BK168.out 8; have hfz22_9 := blk_frozen BK168.out 9))
      go_ret
      exact ⟨by first | rfl | (simp [errW_none, errW_some] <;> rfl) | (simp [*, errW_none, errW_some] <;> rfl), by repeat (first | (with_reducible first | exact HB.out | apply below_alloc | apply pw_below_drewN | apply below_drew1 | refine below_set ?_ GE168.out) | exact HB.out)⟩
  · replace c3 := Bool.eq_false_iff.mpr c3
    subst c3
    have H1 : (some false) = some r := by rw [if_neg (show ¬ (false = true) by decide)] at H; exact H
    clear H
    have H := H1
    clear H1
    obtain rfl := Option.some.inj H
    go_enter Try.func26, Try.ntmps26
    go_wp2_with (first | ((with_reducible refine gate_dst (N := 1) rfl ?_); (try (refine gate_guard (by rfl) ?_; dsimp only)); refine box_event ?hg (N := 1) ?hd (cs := #[.int .u16 a0_0, .int .u8 a0_1, .int .u8 a0_2, .slice A0_3 l0_3.length c0_3, .int .u16 a0_4, .int .u32 a0_5, .slice A0_6 l0_6.length c0_6, .slice A0_7 l0_7.length c0_7, .slice A0_8 l0_8.length c0_8, .slice A0_9 l0_9.length c0_9]) (t := 45) ?hr ?_; (case hd => rfl); (case hg => rfl); (case hr => first | (go_simp; done) | (go_simp; rfl)); intro gb168 hg w23 hbox hb; have n0_ := Aside0.mk (below_step (by repeat (first | (with_reducible first | exact HB.out | apply below_alloc | apply pw_below_drewN | apply below_drew1) | exact HB.out)) hb); have n1_ := Aside0.mk (hbox); have n2_ := Aside0.mk ((by rw [hg]; exact (below_size (by repeat (first | (with_reducible first | exact HB.out | apply below_alloc | apply pw_below_drewN | apply below_drew1) | exact HB.out))) : w.heap.size ≤ gb168)); have n3_ := Aside0.mk ((by rw [hg]; exact (below_size (by repeat (first | (with_reducible first | exact HB.out | apply below_alloc | apply pw_below_drewN | apply below_drew1) | exact HB.out))) : w.heap.size ≤ gb168)); clear HB; have HB := n0_; have BK168 := n1_; have GW168 := n2_; have GE168 := n3_; clear n0_ n1_ n2_ n3_; clear hb hbox hg; have hcz24_0 : w23.cell? ⟨gb168, 0, none⟩ = some (.int .u16 a0_0) := (blk_cell BK168.out 0).trans rfl; have hcz24_1 : w23.cell? ⟨gb168, 1, none⟩ = some (.int .u8 a0_1) := (blk_cell BK168.out 1).trans rfl; have hcz24_2 : w23.cell? ⟨gb168, 2, none⟩ = some (.int .u8 a0_2) := (blk_cell BK168.out 2).trans rfl; have hcz24_3 : w23.cell? ⟨gb168, 3, none⟩ = some (.slice A0_3 l0_3.length c0_3) := (blk_cell BK168.out 3).trans rfl; have hcz24_4 : w23.cell? ⟨gb168, 4, none⟩ = some (.int .u16 a0_4) := (blk_cell BK168.out 4).trans rfl; have hcz24_5 : w23.cell? ⟨gb168, 5, none⟩ = some (.int .u32 a0_5) := (blk_cell BK168.out 5).trans rfl; have hcz24_6 : w23.cell? ⟨gb168, 6, none⟩ = some (.slice A0_6 l0_6.length c0_6) := (blk_cell BK168.out 6).trans rfl; have hcz24_7 : w23.cell? ⟨gb168, 7, none⟩ = some (.slice A0_7 l0_7.length c0_7) := (blk_cell BK168.out 7).trans rfl; have hcz24_8 : w23.cell? ⟨gb168, 8, none⟩ = some (.slice A0_8 l0_8.length c0_8) := (blk_cell BK168.out 8).trans rfl; have hcz24_9 : w23.cell? ⟨gb168, 9, none⟩ = some (.slice A0_9 l0_9.length c0_9) := (blk_cell BK168.out 9).trans rfl; have hfz24_0 := blk_frozen BK168.out 0; have hfz24_1 := blk_frozen BK168.out 1; have hfz24_2 := blk_frozen BK168.out 2; have hfz24_3 := blk_frozen BK168.out 3; have hfz24_4 := blk_frozen BK168.out 4; have hfz24_5 := blk_frozen BK168.out 5; have hfz24_6 := blk_frozen BK168.out 6; have hfz24_7 := blk_frozen BK168.out 7; have hfz24_8 := blk_frozen BK168.out 8; have hfz24_9 := blk_frozen BK168.out 9) | ((with_reducible refine gate_callee (f := 36) rfl ?_); refine goesL_ (some 5) rfl rfl Try.func36 (by kernel_rfl) rfl #[.slice A0_3 l0_3.length c0_3] rfl (by (try simp only [List.map_toArray, List.map_cons, List.map_nil]); first | done | rfl | (simp only [List.length_drop, List.length_take]; rfl)) ?_; (with_reducible refine (marlinelaw12_Few.calls k _ _ l0_3 false _ ?side1 ?side2 A2.out).mono ?_); (case side1 => repeat (first | exact (Kd.C_below HR0_3.out HB.out) | (with_reducible refine Kd.C_alloc ?_ _) | (with_reducible refine Kd.C_drewN ?_ _) | (with_reducible refine Kd.C_drew ?_))); (case side2 => exact HC0_3.out); rintro e w25 ⟨rfl, hb⟩; refine ⟨_, rfl, ?_⟩; have n0_ := Aside0.mk (blk_below (g := gb168) (o := .cells #[.int .u16 a0_0, .int .u8 a0_1, .int .u8 a0_2, .slice A0_3 l0_3.length c0_3, .int .u16 a0_4, .int .u32 a0_5, .slice A0_6 l0_6.length c0_6, .slice A0_7 l0_7.length c0_7, .slice A0_8 l0_8.length c0_8, .slice A0_9 l0_9.length c0_9] 45 (0, 0)) (by (with_reducible repeat (first | refine blk_drewN ?_ _ | refine blk_drew ?_ | refine blk_alloc ?_ _)); exact BK168.out) hb); have n1_ := Aside0.mk (below_step (by repeat (first | (with_reducible first | exact HB.out | apply below_alloc | apply pw_below_drewN | apply below_drew1 | refine below_set ?_ GE168.out) | exact HB.out)) hb); clear BK168; clear HB; have BK168 := n0_; have HB := n1_; clear n0_ n1_; (try clear hb); (try clear hb2); (try clear hk); (try clear hi)))
    go_ret
    exact ⟨by first | rfl | (simp [errW_none, errW_some] <;> rfl) | (simp [*, errW_none, errW_some] <;> rfl), by repeat (first | (with_reducible first | exact HB.out | apply below_alloc | apply pw_below_drewN | apply below_drew1 | refine below_set ?_ GE168.out) | exact HB.out)⟩

/-! ### marlineref15_Number: function 37 -/
def marlineref15_Number.l0 : Nat → Int → Int → List Int → Int → Option (List Int)
  | 0, _, _, _, _ => none
  | k + 1, x0, x1, x5, x6 => if x6 < x1 then ((some (([(Int.tmod x0 256) % 256] : List Int) : List Int)).bind fun y173 => (if y173.length + x5.length < 140737488355328 then (marlineref15_Number.l0 k (wrap64 (Int.tdiv x0 256)) x1 (y173 ++ x5) (wrap64 (x6 + 1))) else (none))) else (some x5)
def marlineref15_Number.f (k : Nat) (a0 : Int) (a1 : Int) : Option (List Int) := marlineref15_Number.l0 k a0 a1 (([] : List Int)) 0
theorem marlineref15_Number.mono_l : ∀ k, (∀ y0 y1 y2 y3, LeO (marlineref15_Number.l0 k y0 y1 y2 y3) (marlineref15_Number.l0 (k + 1) y0 y1 y2 y3))
  | 0 => fun _ _ _ _ r h => by simp [marlineref15_Number.l0] at h
  | k + 1 => by
    have ih0 := marlineref15_Number.mono_l k
    · intro y0 y1 y2 y3
      unfold marlineref15_Number.l0
      repeat' first
      | (with_reducible exact ih0 _ _ _ _)
      | (with_reducible exact LeO.refl _)
      | (with_reducible exact LeO.none _)
      | (with_reducible refine LeO.ite ?_ ?_)
      | (with_reducible refine LeO.bind ?_ (fun _ => ?_))
      | exact ih0 _ _ _ _
      | exact LeO.none _
      | refine LeO.ite ?_ ?_
      | refine LeO.bind ?_ (fun _ => ?_)
theorem marlineref15_Number.mono : ∀ a0 a1 k, LeO (marlineref15_Number.f k a0 a1) (marlineref15_Number.f (k + 1) a0 a1) := by
  intro a0 a1 k
  have ih0 := marlineref15_Number.mono_l k
  unfold marlineref15_Number.f
  repeat' first
      | (with_reducible exact ih0 _ _ _ _)
      | (with_reducible exact LeO.refl _)
      | (with_reducible exact LeO.none _)
      | (with_reducible refine LeO.ite ?_ ?_)
      | (with_reducible refine LeO.bind ?_ (fun _ => ?_))
      | exact ih0 _ _ _ _
      | exact LeO.none _
      | refine LeO.ite ?_ ?_
      | refine LeO.bind ?_ (fun _ => ?_)
set_option maxHeartbeats 8000000 in
set_option maxRecDepth 100000 in
theorem marlineref15_Number.calls (k : Nat) (a0 : Int) (a1 : Int) (r : List Int) (w : World) (h : marlineref15_Number.f k a0 a1 = some r) :
    Calls Try.prog 37 #[.int .i64 a0, .int .i64 a1] w fun e w' => ∃ v0_ : Value, e = .returned (v0_) ∧ Kd.R (Kd.int .u8) 5 w' w.heap.size (fun _ => True) v0_ r ∧ Below w.heap.size w w' := by
  have HB := Aside0.mk (Below.refl w.heap.size w)
  have H : (marlineref15_Number.l0 k a0 a1 (([] : List Int)) 0) = some r := h
  clear h
  obtain ⟨y170, hy170⟩ : ∃ y_ : List Int, y_ = (([] : List Int)) := ⟨_, rfl⟩
  replace H : (marlineref15_Number.l0 k a0 a1 y170 0) = some r := by first | (rw [hy170]; with_reducible exact H) | (have H2_ := (Option.bind_some _ _).symm.trans H; rw [hy170]; with_reducible exact H2_) | (have H2_ := (Option.bind_some _ _).symm.trans H; with_reducible exact H2_) | with_reducible exact H | (rw [hy170]; exact H) | exact H
  have Ny170 := Aside0.mk hy170
  clear hy170
  have H' := Aside0.mk H
  clear H
  go_enter Try.func37, Try.ntmps37
  go_wp2_with (first | ((with_reducible refine gate_dst (N := 7) rfl ?_); refine Kd.R_lit (Kd.int .u8) _ 5 ?hg (N := 7) ?hd (xs := ([] : List Int)) (inner := []) (ok := fun _ => True) (okp := fun _ => True) ?hr ?hp (fun _ hk => hk) trivial (Below.refl _ _) (Nat.le_refl _) (by simp) ?_; (case hd => rfl); (case hg => rfl); (case hr => first | (go_simp; done) | (go_simp; rfl)); (case hp => exact (Reps.none _ _)); intro v171 w3 ho4 hb hg_ hnew_; clear hg_ hnew_; (first | rw [← Ny170.out] at ho4 | (simp only [Int.reduceToNat] at ho4; rw [← Ny170.out] at ho4)); have n0_ := Aside0.mk (Kd.R_lower ho4 (below_size (by repeat (first | (with_reducible first | exact HB.out | apply below_alloc | apply pw_below_drewN | apply below_drew1) | exact HB.out)))); have n1_ := Aside0.mk (below_step (by repeat (first | (with_reducible first | exact HB.out | apply below_alloc | apply pw_below_drewN | apply below_drew1) | exact HB.out)) hb); clear HB; have HO172 := n0_; have HB := n1_; clear n0_ n1_; clear hb ho4))
  go_loopg [0, 5, 6] k (fun kq v0 v5 v6 w' => ∃ (x0_1 : Int) (x5_1 : List Int) (x6_1 : Int), v0 = .int .i64 x0_1 ∧ v6 = .int .i64 x6_1 ∧ Aside0 (marlineref15_Number.l0 kq x0_1 a1 x5_1 x6_1 = some r) ∧ Aside0 (kq ≤ k) ∧ Aside0 (Kd.R (Kd.int .u8) 5 w' w.heap.size (fun _ => True) v5 x5_1) ∧ Aside0 (Below w.heap.size w w'))
  case atStart => exact ⟨(a0), (y170), (0), (by first | rfl | (simp; done) | (simp [*]; done)), (by first | rfl | (simp; done) | (simp [*]; done)), H', ⟨Nat.le_refl _⟩, ⟨by (with_reducible repeat (first | apply Kd.R_alloc | apply Kd.R_drewN | apply Kd.R_drew)); exact HO172.out⟩, ⟨by repeat (first | (with_reducible first | exact HB.out | apply below_alloc | apply pw_below_drewN | apply below_drew1) | exact HB.out)⟩⟩
  case round =>
    clear H'
    try clear p2
    try clear c3
    obtain ⟨x0_1, x5_1, x6_1, rfl, rfl, HA, HK1, HO_5, HB⟩ := hrel
    cases gk with
    | zero => exact absurd HA.out (by simp [marlineref15_Number.l0])
    | succ k1 =>
      have H := HA.out
      clear HA
      simp only [marlineref15_Number.l0] at H
      by_cases c5 : x6_1 < a1
      · rw [if_pos c5] at H
        have c5b0 : decide (x6_1 < a1) = true := decide_eq_true c5
        clear c5
        obtain ⟨y173, hy173⟩ : ∃ y_ : List Int, y_ = (([(Int.tmod x0_1 256) % 256] : List Int)) := ⟨_, rfl⟩
        replace H : (if y173.length + x5_1.length < 140737488355328 then (marlineref15_Number.l0 k1 (wrap64 (Int.tdiv x0_1 256)) a1 (y173 ++ x5_1) (wrap64 (x6_1 + 1))) else (none)) = some r := by first | (rw [hy173]; with_reducible exact H) | (have H2_ := (Option.bind_some _ _).symm.trans H; rw [hy173]; with_reducible exact H2_) | (have H2_ := (Option.bind_some _ _).symm.trans H; with_reducible exact H2_) | with_reducible exact H | (rw [hy173]; exact H) | exact H
        have Ny173 := Aside0.mk hy173
        clear hy173
        by_cases c6 : y173.length + x5_1.length < 140737488355328
        · rw [if_pos c6] at H
          have LMc6 := Aside0.mk c6
          clear c6
          obtain ⟨y176, hy176⟩ : ∃ y_ : List Int, y_ = (y173 ++ x5_1) := ⟨_, rfl⟩
          replace H : (marlineref15_Number.l0 k1 (wrap64 (Int.tdiv x0_1 256)) a1 y176 (wrap64 (x6_1 + 1))) = some r := by first | (rw [hy176]; with_reducible exact H) | (have H2_ := (Option.bind_some _ _).symm.trans H; rw [hy176]; with_reducible exact H2_) | (have H2_ := (Option.bind_some _ _).symm.trans H; with_reducible exact H2_) | with_reducible exact H | (rw [hy176]; exact H) | exact H
          have Ny176 := Aside0.mk hy176
          clear hy176
          have H' := Aside0.mk H
          clear H
          go_wp2_with (first | ((with_reducible refine gate_dst (N := 16) rfl ?_); refine Kd.R_lit (Kd.int .u8) _ 5 ?hg (N := 16) ?hd (xs := ([(Int.tmod x0_1 256) % 256] : List Int)) (inner := [.int .u8 ((Int.tmod x0_1 256) % 256)]) (ok := fun _ => True) (okp := fun _ => True) ?hr ?hp (fun _ hk => hk) trivial (Below.refl _ _) (Nat.le_refl _) (by simp) ?_; (case hd => rfl); (case hg => rfl); (case hr => first | (go_simp; done) | (go_simp; rfl)); (case hp => exact (Reps.one (show Kd.M (Kd.int .u8) _ _ _ ((Int.tmod x0_1 256) % 256) [.int .u8 ((Int.tmod x0_1 256) % 256)] from rfl) (Reps.none _ _))); intro v174 w7 ho8 hb hg_ hnew_; clear hg_ hnew_; (first | rw [← Ny173.out] at ho8 | (simp only [Int.reduceToNat] at ho8; rw [← Ny173.out] at ho8)); have n0_ := Aside0.mk (Kd.R_elder' (by (with_reducible repeat (first | apply Kd.R_alloc | apply Kd.R_drewN | apply Kd.R_drew)); exact HO_5.out) (Kd.R_base ho8) hb); have n1_ := Aside0.mk (Kd.R_lower (Kd.R_new' ho8 (Kd.R_lt (by (with_reducible repeat (first | apply Kd.R_alloc | apply Kd.R_drewN | apply Kd.R_drew)); exact HO_5.out))) (below_size (by repeat (first | (with_reducible first | exact HB.out | apply below_alloc | apply pw_below_drewN | apply below_drew1) | exact HB.out)))); have n2_ := Aside0.mk (below_step (by repeat (first | (with_reducible first | exact HB.out | apply below_alloc | apply pw_below_drewN | apply below_drew1) | exact HB.out)) hb); clear HO_5; clear HB; have HO_5 := n0_; have HO175 := n1_; have HB := n2_; clear n0_ n1_ n2_; clear hb ho8; obtain ⟨Ao10, co10, eo10⟩ := Kd.R_slice HO_5.out; subst eo10) | ((with_reducible refine gate_builtin (b := .append) (xs := #[.tmp 16, .tmp 17]) rfl ?_); at_builtin; refine Kd.R_append_rows (Kd.int .u8) (w0 := w) w.heap.size rfl (.tmp 16) (.tmp 17) 24 5 (.int .u8 0) 1 rfl Try.underlying24 info5 rfl (by decide) (by omega) v174 y173 x5_1 _ _ _ (fun k_ => some k_ ≠ (.slice Ao10 x5_1.length co10 : Value).ownBlock) (fun _ => False) rfl rfl ?aO ?aR (fun _ _ h => h) (fun _ h => h.elim) ?aF ?aB ?aS ?aL ?_; (case aR => repeat (first | exact (Kd.R_reads' HO_5.out).2.2 | (with_reducible refine Kd.C_alloc ?_ _) | (with_reducible refine Kd.C_drewN ?_ _) | (with_reducible refine Kd.C_drew ?_))); (case aB => exact (by repeat (first | (with_reducible first | exact HB.out | apply below_alloc | apply pw_below_drewN | apply below_drew1) | exact HB.out))); (case aF => exact (fun k_ hk => Kd.fresh' (Kd.R_lt (by (with_reducible repeat (first | apply Kd.R_alloc | apply Kd.R_drewN | apply Kd.R_drew)); exact HO_5.out)) k_ hk)); (case aO => exact (by (with_reducible repeat (first | apply Kd.R_alloc | apply Kd.R_drewN | apply Kd.R_drew)); exact Kd.R_mono HO175.out (fun _ hk => hk.2))); (case aS => exact (below_size (by repeat (first | (with_reducible first | exact HB.out | apply below_alloc | apply pw_below_drewN | apply below_drew1) | exact HB.out)))); (case aL => have := LMc6.out; omega); intro v177 w9 ho hb hg hat; rw [← Ny176.out] at ho; have n0_ := Aside0.mk (Kd.R_after (ok := (fun _ => True)) (by (with_reducible repeat (first | apply Kd.R_alloc | apply Kd.R_drewN | apply Kd.R_drew)); exact HO_5.out) hg hat); have n1_ := Aside0.mk (hb); have n2_ := Aside0.mk (ho); clear HO_5; clear HB; clear HO175; have HO_5 := n0_; have HB := n1_; have HO178 := n2_; clear n0_ n1_ n2_; clear ho hb hg hat))
          go_roundg k1
          case measure => have := HK1.out; omega
          case rel => exact ⟨(wrap64 (Int.tdiv x0_1 256)), (y176), (wrap64 (x6_1 + 1)), (by first | rfl | (simp; done) | (simp [*]; done)), (by first | rfl | (simp; done) | (simp [*]; done)), H', ⟨by have := HK1.out; omega⟩, ⟨by (with_reducible repeat (first | apply Kd.R_alloc | apply Kd.R_drewN | apply Kd.R_drew)); exact Kd.R_mono HO178.out (fun _ hk => trivial)⟩, ⟨by repeat (first | (with_reducible first | exact HB.out | apply below_alloc | apply pw_below_drewN | apply below_drew1) | exact HB.out)⟩⟩
        · rw [if_neg c6] at H
          exact absurd H (by simp)
      · rw [if_neg c5] at H
        have c5b0 : decide (x6_1 < a1) = false := decide_eq_false c5
        clear c5
        obtain rfl := Option.some.inj H
        go_wp2
        go_ret
        exact ⟨_, by first | rfl | (simp [errW_none, errW_some] <;> rfl) | (simp [*, errW_none, errW_some] <;> rfl), by (with_reducible repeat (first | apply Kd.R_alloc | apply Kd.R_drewN | apply Kd.R_drew)); exact HO_5.out, by repeat (first | (with_reducible first | exact HB.out | apply below_alloc | apply pw_below_drewN | apply below_drew1) | exact HB.out)⟩

end Go.Proofs.Ytelmlkcoeihhjaa.Fl
