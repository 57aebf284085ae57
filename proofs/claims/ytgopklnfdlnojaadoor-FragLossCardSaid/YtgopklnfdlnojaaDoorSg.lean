/- The law of a piece that is left out, told twice or out of its order (FragLoss), walked. -/
import Derived.Test.YtgopklnfdlnojaaDoorSf
import Derived.Test.YtgopklnfdlnojaaDoorSh
namespace Go.Proofs.YtgopklnfdlnojaaDoor.Sg
open Go.RowKit Go.Proofs.YtgopklnfdlnojaaDoor.Ga Go.Proofs.YtgopklnfdlnojaaDoor.My Go.Proofs.YtgopklnfdlnojaaDoor.Gb Go.Proofs.YtgopklnfdlnojaaDoor.Gp Go.Proofs.YtgopklnfdlnojaaDoor.Gs Go.Proofs.YtgopklnfdlnojaaDoor.Gw Go.Proofs.YtgopklnfdlnojaaDoor.Sa Go.Proofs.YtgopklnfdlnojaaDoor.Sb Go.Proofs.YtgopklnfdlnojaaDoor.Sc Go.Proofs.YtgopklnfdlnojaaDoor.Sd Go.Proofs.YtgopklnfdlnojaaDoor.Se Go.Proofs.YtgopklnfdlnojaaDoor.Sf Go.Proofs.YtgopklnfdlnojaaDoor.Sh Go.Proofs.YtgopklnfdlnojaaDoorW.PrintWords Go.Proofs.YtgopklnfdlnojaaDoorW.PrintLast Go.Proofs.YtgopklnfdlnojaaDoorW.PrintMore
set_option linter.unusedVariables false
set_option linter.unusedSimpArgs false

/-- An empty row of the call's own. -/
theorem empty_R (W : World) (base : Nat) (hb : base ≤ W.heap.size) : (rawK 4).R 29 (W.alloc (.cells #[] 29)) base (fun _ => True) (.slice (some ⟨W.heap.size, 0, none⟩) 0 0) [] := by
  refine ⟨fun _ _ => trivial, [], ?_, by simp [Reps]⟩
  have h2 := World.ownsRow_lit (base := base) (e := 29) (size := 4) W #[] 0 hb (by simp [maxLen]) (by simp)
  exact h2

theorem each_app {α : Type} {d : Kd α} {w : World} {xs ys : List α} {rs ss : List (List Value)} (h : Each d w xs rs) (k : Each d w ys ss) : Each d w (xs ++ ys) (rs ++ ss) := by
  refine ⟨by simp [h.1, k.1], fun j x r hx hr => ?_⟩
  by_cases hj : j < xs.length
  · rw [List.getElem?_append_left hj] at hx
    rw [List.getElem?_append_left (by rw [h.1]; exact hj)] at hr
    exact h.2 j x r hx hr
  · rw [List.getElem?_append_right (by omega)] at hx
    rw [List.getElem?_append_right (by rw [h.1]; omega), h.1] at hr
    exact k.2 _ x r hx hr
theorem each_takes {α : Type} {d : Kd α} {w : World} {xs : List α} {rs : List (List Value)} (h : Each d w xs rs) (k : Nat) : Each d w (xs.take k) (rs.take k) := by
  refine ⟨by simp [h.1], fun j x r hx hr => ?_⟩
  rw [List.getElem?_take] at hx hr
  by_cases hj : j < k
  · rw [if_pos hj] at hx hr; exact h.2 j x r hx hr
  · rw [if_neg hj] at hx; cases hx
theorem each_drops {α : Type} {d : Kd α} {w : World} {xs : List α} {rs : List (List Value)} (h : Each d w xs rs) (k : Nat) : Each d w (xs.drop k) (rs.drop k) := by
  refine ⟨by simp [h.1], fun j x r hx hr => ?_⟩
  rw [List.getElem?_drop] at hx hr
  exact h.2 _ x r hx hr
/-- A row of bare cells, from its start. -/
theorem raw_take {w : World} {A : Option Addr} {rows : List (List Value)} {N : Nat} (h : (rawK 4).C w A N rows) (k : Nat) (hk : k ≤ N) : (rawK 4).C w A k (rows.take k) := by
  obtain rfl : rows.length = N := h.1
  have := Kd.C_take h hk
  rwa [List.length_take, Nat.min_eq_left hk] at this
/-- A row of bare cells, behind its start. -/
theorem raw_drop {w : World} {ad : Addr} {rows : List (List Value)} {N c : Nat} (h : (rawK 4).C w (some ad) N rows) (k : Nat) (hk : k ≤ N) (hc : N ≤ c) : (rawK 4).C w (if c = k then some ad else some (ad.add (k * 4))) (N - k) (rows.drop k) := by
  obtain rfl : rows.length = N := h.1
  have := Kd.C_drop h hk hc
  rwa [List.length_drop] at this

theorem flat_cut (l : List S29) (i j : Nat) (h1 : l.length ≤ 1000) (h2 : (l.flatMap (·.f3)).length ≤ 1000) : (l.take i ++ l.drop j).length ≤ 100000 ∧ ((l.take i ++ l.drop j).flatMap (·.f3)).length ≤ 100000 := by
  have e : ∀ t, ((l.take t).flatMap (·.f3)).length + ((l.drop t).flatMap (·.f3)).length = (l.flatMap (·.f3)).length := fun t => by
    rw [← List.length_append, ← List.flatMap_append, List.take_append_drop]
  have ei := e i
  have ej := e j
  rw [List.flatMap_append, List.length_append, List.length_append, List.length_take, List.length_drop]
  omega
theorem own_form {w : World} {base : Nat} {ok : Nat → Prop} {v : Value} {rows : List (List Value)} {N : Nat} (h : (rawK 4).R 29 w base ok v rows) (hN : rows.length = N) (h0 : 0 < N) : ∃ g cap, v = .slice (some ⟨g, 0, none⟩) N cap := by
  obtain ⟨_, inner, hown, _⟩ := h
  rcases hown.2 with ⟨_, h2⟩ | ⟨g, cap, cur, he, _⟩
  · omega
  · rw [hN] at he
    exact ⟨g, cap, he⟩
theorem own_free {w : World} {base : Nat} {ok : Nat → Prop} {g N cap : Nat} {rows : List (List Value)} (h : (rawK 4).R 29 w base ok (.slice (some ⟨g, 0, none⟩) N cap) rows) (j : Nat) : w.frozen? ⟨g, j, none⟩ = false := by
  obtain ⟨_, inner, hown, _⟩ := h
  rcases hown.2 with ⟨h1, _⟩ | ⟨g', cap', cur, he, _, hh, _⟩
  · cases h1
  · injection he with h1 _ _
    injection h1 with h1
    injection h1 with h1 _ _
    subst h1
    exact blk_frozen hh j
/-- Two items of a row of the call's own, written anew. -/
theorem R_two {w : World} {base : Nat} {g N cap : Nat} {rows : List (List Value)} (h : (rawK 4).R 29 w base (fun _ => True) (.slice (some ⟨g, 0, none⟩) N cap) rows) (hN : rows.length = N) (k : Nat) (hk : k < N) (a : List Value) (ha : a.length = 4) (ha1 : ∀ u ∈ a, u.oneCell' = true) :
    (rawK 4).R 29 (w.setCells g (k * 4) a) base (fun _ => True) (.slice (some ⟨g, 0, none⟩) N cap) (rows.set k a) := by
  have hC := (Kd.R_reads' h).2.2
  obtain ⟨ad9, e9, r9, h91, hl9, _, h92⟩ := raw_get hC k (by omega)
  obtain rfl := Option.some.inj e9
  have hs := (Kd.R_seg (okp := fun _ => False) h (k : Int) (by omega) (by omega) (c := r9) (seg := a) (j := 0) hl9 (fun j u hu => by have := h92 j u hu; rwa [add_plain] at this) (by rw [ha]; exact Nat.le_refl _) (x' := a) (by
    refine ⟨?_, ha, ha1⟩
    rw [List.take_zero, List.nil_append, ha, Nat.zero_add, List.drop_of_length_le (by omega), List.append_nil]) (fun _ hk => hk.elim)).1
  rwa [Int.toNat_natCast, Nat.add_zero] at hs
theorem each_set {α : Type} {d : Kd α} {w : World} {xs : List α} {rs : List (List Value)} (h : Each d w xs rs) (i : Nat) (a : α) (r : List Value) (hK : d.K w a r) : Each d w (xs.set i a) (rs.set i r) := by
  refine ⟨by simp [h.1], fun j x s hx hs => ?_⟩
  rw [List.getElem?_set] at hx hs
  by_cases hj : i = j
  · rw [if_pos hj] at hx hs
    split at hx
    · split at hs
      · cases hx; cases hs; exact hK
      · cases hs
    · cases hx
  · rw [if_neg hj] at hx hs
    exact h.2 j x s hx hs
theorem rd_some (l : List S29) (k : Nat) (h : k < l.length) : l[k]? = some (rd_T29 l (k : Int)) := by
  rw [rd_get, List.getElem?_eq_getElem h]
  rfl
theorem flat_set (l : List S29) (i : Nat) (a : S29) : ((l.set i a).flatMap (·.f3)).length ≤ (l.flatMap (·.f3)).length + a.f3.length := by
  by_cases h : i < l.length
  · rw [List.set_eq_take_append_cons_drop, if_pos h]
    have e : l.flatMap (·.f3) = (l.take i).flatMap (·.f3) ++ (l.drop i).flatMap (·.f3) := by rw [← List.flatMap_append, List.take_append_drop]
    have e2 : l.drop i = l[i] :: l.drop (i + 1) := List.drop_eq_getElem_cons h
    rw [e, e2]
    simp only [List.flatMap_append, List.flatMap_cons, List.length_append]
    omega
  · rw [List.set_eq_of_length_le (by omega)]
    omega
theorem rd_le (l : List S29) (k : Nat) : (rd_T29 l (k : Int)).f3.length ≤ (l.flatMap (·.f3)).length := by
  rw [rd_get]
  by_cases h : k < l.length
  · rw [List.getElem?_eq_getElem h]
    have e : l.flatMap (·.f3) = (l.take k).flatMap (·.f3) ++ (l.drop k).flatMap (·.f3) := by rw [← List.flatMap_append, List.take_append_drop]
    have e2 : l.drop k = l[k] :: l.drop (k + 1) := List.drop_eq_getElem_cons h
    rw [e, e2]
    simp only [List.flatMap_cons, List.length_append, Option.getD_some]
    omega
  · rw [List.getElem?_eq_none (by omega)]
    exact Nat.zero_le _
theorem arith4 (at_ : Int) (N : Nat) (h0 : 0 ≤ at_) (h1 : at_ ≤ 255) (hN : 0 < N) (hN2 : N ≤ 1000) :
    IntKind.i64.wrap at_ = at_ ∧ (N : Int) ≠ 0 ∧ Int.tmod at_ N = ((at_.toNat % N : Nat) : Int) ∧ ((N : Int) == 0) = false := by
  refine ⟨by rw [IntKind.wrap_i64]; omega, by omega, ?_, by simp; omega⟩
  rw [Int.tmod_eq_emod_of_nonneg h0]
  obtain ⟨a, rfl⟩ : ∃ a : Nat, at_ = a := ⟨at_.toNat, by omega⟩
  simp

set_option maxHeartbeats 4000000 in
set_option maxRecDepth 100000 in
theorem loss_walk (short : Bool) (first most : Int) (A : Option Addr) (n c : Nat) (xs : List Int) (at_ : Int) (w : World) (hS : Shapes w) (hf0 : 0 ≤ first) (hf1 : first < 4294967296) (hm0 : 0 ≤ most) (hm1 : most ≤ 255) (ha0 : 0 ≤ at_) (ha1 : at_ ≤ 255)
    (hx : (Kd.int .u8).C w A n xs) (hc : n ≤ c) (hxx : ∀ x ∈ xs, 0 ≤ x ∧ x ≤ 255) :
    Calls Tryd.prog 6 #[.bool short, .int .u32 first, .int .u8 most, .slice A n c, .int .u8 at_] w fun ex w' => ex = .returned (.bool true) ∧ Below w.heap.size w w' := by
  have HS := Aside0.mk hS
  have HX := Aside0.mk hx
  have HC := Aside0.mk hc
  obtain ⟨e1, e2, e3, e4, e5, e6, e7⟩ := arith short first most hf0 hf1 hm0 hm1
  have HBG := Aside0.mk (And.intro e6 e7)
  have HM := Aside0.mk (And.intro hm0 hm1)
  have HA := Aside0.mk (And.intro ha0 ha1)
  clear hS hx hc hxx hf0 hf1 hm0 hm1 e6 e7 ha0 ha1
  go_enter Tryd.func6, Tryd.ntmps6
  go_wp2_with (fail)
  refine (speaks_any w HS.out).mono ?_
  rintro ex1 w2 ⟨rfl, hb⟩
  have X := Aside0.mk hb
  have HS2 := Aside0.mk (HS.out.below hb)
  clear hb
  by_cases hbig : 1000 < (n : Int)
  · have hb1 : decide (1000 < (n : Int)) = true := decide_eq_true hbig
    go_wp2_with (fail)
    refine (speaks_any w2 HS2.out).mono ?_
    rintro e3 w3 ⟨rfl, hb⟩
    have X3 := Aside0.mk (below_step X.out hb)
    clear hb
    go_wp2
    go_ret
    exact ⟨rfl, X3.out⟩
  have hb1 : decide (1000 < (n : Int)) = false := decide_eq_false hbig
  have HN := Aside0.mk (show n ≤ 1000 by omega)
  clear hbig
  go_wp2_with (fail)
  refine (mod_any short w2 HS2.out).mono ?_
  rintro ex2 w3 ⟨rfl, hb⟩
  replace X := Aside0.mk (below_step X.out hb)
  have HS3 := Aside0.mk (HS2.out.below hb)
  clear hb HS2
  go_wp2_with (fail)
  obtain ⟨m, hme⟩ : ∃ m : Nat, most + 1 = (m : Int) := ⟨(most + 1).toNat, by have := HM.out; omega⟩
  have HMM := Aside0.mk (show 1 ≤ m ∧ m ≤ 256 by have := HM.out; omega)
  simp only [hme]
  clear e1 e2 e3 e5 hme
  generalize first % numbers short = bg at HBG ⊢
  refine (split_at short bg m A n c xs w3 HS3.out HMM.out.1 HBG.out.1 HBG.out.2 (Kd.C_below HX.out X.out) HC.out HN.out).mono ?_
  rintro ex4 w4 ⟨A4, c4, rfl, hcc, hC4, hb⟩
  have HC4 := Aside0.mk hC4
  have HCC := Aside0.mk hcc
  replace X := Aside0.mk (below_step X.out hb)
  have HS4 := Aside0.mk (HS3.out.below hb)
  clear hb HS3 hcc hC4
  obtain ⟨N, hN⟩ : ∃ N, nP m n = N := ⟨_, rfl⟩
  have HNP := Aside0.mk hN
  have hNb : 0 < N ∧ N ≤ 1000 := by
    have h2 := cnt_le m n HMM.out.1
    have h3 := HN.out
    unfold nP at hN
    omega
  rw [hN] at HC4 HCC
  simp only [hN]
  clear hN
  obtain ⟨a1, a2, a3, a4⟩ := arith4 at_ N HA.out.1 HA.out.2 hNb.1 hNb.2
  have hkN : at_.toNat % N < N := Nat.mod_lt _ hNb.1
  generalize at_.toNat % N = k at a3 hkN
  have HNB := Aside0.mk hNb
  have hcc4 := HCC.out
  clear hNb
  obtain ⟨rows, hr, he⟩ := raw_of HC4.out
  have hrl : rows.length = N := hr.1
  obtain ⟨ad, rfl⟩ : ∃ ad, A4 = some ad := by
    obtain ⟨ad, e, _⟩ := HC4.out.2.2 HNB.out.1
    exact ⟨ad, e⟩
  have HRR := Aside0.mk hr
  have HE := Aside0.mk he
  have HRL := Aside0.mk hrl
  have hu41 := Tryd.underlying41
  clear hr he hrl
  go_wp2_with (fail)
  have hw1 : IntKind.i64.wrap ((k : Int) + 1) = ((k + 1 : Nat) : Int) := by rw [IntKind.wrap_i64]; have := HNB.out; omega
  go_cut [15] (fun v15 wc => Aside0 ((rawK 4).R 29 wc w4.heap.size (fun _ => True) v15 (rows.take k ++ rows.drop (k + 1))) ∧ Aside0 (Below w4.heap.size w4 wc))
  case first =>
    have HT := Aside0.mk (raw_take HRR.out k (by omega))
    have HD := Aside0.mk (raw_drop HRR.out (k + 1) (by omega) hcc4)
    have hlt : ((rows.take k).length = k) := by rw [List.length_take]; have := HRL.out; omega
    have HTL := Aside0.mk hlt
    clear hlt
    have f1 : (k : Int) ≤ (c4 : Int) := by omega
    have f2 : (k : Int) + 1 ≤ (N : Int) := by omega
    have f3 : (0 : Int) ≤ (k : Int) + 1 := by omega
    by_cases hck : c4 = k + 1
    · subst hck
      have f5 : (k : Int) ≤ (k : Int) + 1 := by omega
      go_region_held3 (fun _ => True) (trivial)
        (first | (refine Kd.R_append_rows_step (rawK 4) (Rr := (rawK 4).K w4) (w0 := w4) w4.heap.size ?aW (.tmp 59) (.tmp 62) 41 29 (.agg #[.bool false, .bool false, .int .i64 0, .slice none 0 0]) 40 ?aU Tryd.underlying41 info29 rfl (by decide) (by decide) (.slice (some ⟨w4.heap.size, 0, none⟩) 0 0) [] (rows.take k) (some ad) k (k + 1) (fun _ => True) (fun _ => False) ?aV ?aX ?aO ?aR (fun _ _ h => h) (fun _ h => h.elim) (fun _ _ => trivial) ?aB ?aS ?aL ?_; (case aW => rfl); (case aU => rfl); (case aV => rfl); (case aX => rfl); (case aO => exact Kd.R_drew (empty_R _ _ (Nat.le_refl _))); (case aR => exact Kd.C_drew (Kd.C_alloc HT.out _)); (case aB => exact below_drew (below_alloc (Below.refl _ _) _)); (case aS => exact (below_drew (below_alloc (Below.refl _ w4) _)).size); (case aL => have := HNB.out; simp; omega); intro v1 w9 ho hb hg hat; rw [List.nil_append] at ho; have HO1 := Aside0.mk ho; have HB1 := Aside0.mk hb; clear ho hb hg hat)
               | (refine Kd.R_append_rows_step (rawK 4) (Rr := (rawK 4).K w4) (w0 := w4) w4.heap.size ?aW (.tmp 63) (.tmp 67) 41 29 (.agg #[.bool false, .bool false, .int .i64 0, .slice none 0 0]) 40 ?aU Tryd.underlying41 info29 rfl (by decide) (by decide) v1 (rows.take k) (rows.drop (k + 1)) (some ad) 0 0 (fun _ => True) (fun _ => False) ?aV ?aX ?aO ?aR (fun _ _ h => h) (fun _ h => h.elim) (fun _ _ => trivial) ?aB ?aS ?aL ?_; (case aW => rfl); (case aU => rfl); (case aV => rfl); (case aX => rfl); (case aO => exact HO1.out); (case aR => have hd := HD.out; rw [if_pos rfl, show N - (k + 1) = 0 by omega] at hd; exact Kd.C_below hd HB1.out); (case aB => exact HB1.out); (case aS => exact HB1.out.size); (case aL => have := HNB.out; rw [HTL.out]; omega); intro v2 w10 ho hb hg hat; have HO2 := Aside0.mk ho; have HB2 := Aside0.mk hb; clear ho hb hg hat))
      go_wp2
      go_meet
      exact ⟨HO2, HB2⟩
    · go_region_held3 (fun _ => True) (trivial)
        (first | (refine Kd.R_append_rows_step (rawK 4) (Rr := (rawK 4).K w4) (w0 := w4) w4.heap.size ?aW (.tmp 59) (.tmp 62) 41 29 (.agg #[.bool false, .bool false, .int .i64 0, .slice none 0 0]) 40 ?aU Tryd.underlying41 info29 rfl (by decide) (by decide) (.slice (some ⟨w4.heap.size, 0, none⟩) 0 0) [] (rows.take k) (some ad) k c4 (fun _ => True) (fun _ => False) ?aV ?aX ?aO ?aR (fun _ _ h => h) (fun _ h => h.elim) (fun _ _ => trivial) ?aB ?aS ?aL ?_; (case aW => rfl); (case aU => rfl); (case aV => rfl); (case aX => rfl); (case aO => exact Kd.R_drew (empty_R _ _ (Nat.le_refl _))); (case aR => exact Kd.C_drew (Kd.C_alloc HT.out _)); (case aB => exact below_drew (below_alloc (Below.refl _ _) _)); (case aS => exact (below_drew (below_alloc (Below.refl _ w4) _)).size); (case aL => have := HNB.out; simp; omega); intro v1 w9 ho hb hg hat; rw [List.nil_append] at ho; have HO1 := Aside0.mk ho; have HB1 := Aside0.mk hb; clear ho hb hg hat)
               | (refine Kd.R_append_rows_step (rawK 4) (Rr := (rawK 4).K w4) (w0 := w4) w4.heap.size ?aW (.tmp 63) (.tmp 67) 41 29 (.agg #[.bool false, .bool false, .int .i64 0, .slice none 0 0]) 40 ?aU Tryd.underlying41 info29 rfl (by decide) (by decide) v1 (rows.take k) (rows.drop (k + 1)) (some (ad.add ((k + 1) * 4))) (N - (k + 1)) (c4 - (k + 1)) (fun _ => True) (fun _ => False) ?aV ?aX ?aO ?aR (fun _ _ h => h) (fun _ h => h.elim) (fun _ _ => trivial) ?aB ?aS ?aL ?_; (case aW => rfl); (case aU => rfl); (case aV => rfl); (case aX => rfl); (case aO => exact HO1.out); (case aR => have hd := HD.out; rw [if_neg hck] at hd; exact Kd.C_below hd HB1.out); (case aB => exact HB1.out); (case aS => exact HB1.out.size); (case aL => have := HNB.out; rw [HTL.out]; omega); intro v2 w10 ho hb hg hat; have HO2 := Aside0.mk ho; have HB2 := Aside0.mk hb; clear ho hb hg hat))
      go_wp2
      go_meet
      exact ⟨HO2, HB2⟩
  case rest =>
    obtain ⟨HL, HBL⟩ := hcut
    obtain ⟨W5, hW5⟩ : ∃ W, W = wc := ⟨_, rfl⟩
    subst hW5
    have HR5 := Aside0.mk (Kd.C_below HRR.out HBL.out)
    go_wp2_with (fail)
    go_cut [16] (fun v16 wc => Aside0 ((rawK 4).R 29 wc W5.heap.size (fun _ => True) v16 (rows.take (k + 1) ++ rows.drop k)) ∧ Aside0 (Below W5.heap.size W5 wc))
    case first =>
      have HT := Aside0.mk (raw_take HR5.out (k + 1) (by omega))
      have HD := Aside0.mk (raw_drop HR5.out k (by omega) hcc4)
      have hlt : ((rows.take (k + 1)).length = k + 1) := by rw [List.length_take]; have := HRL.out; omega
      have HTL := Aside0.mk hlt
      clear hlt
      have f1 : (k : Int) + 1 ≤ (c4 : Int) := by omega
      have f2 : (k : Int) ≤ (N : Int) := by omega
      have f3 : (0 : Int) ≤ (k : Int) + 1 := by omega
      have f4 : ¬ c4 = k := by omega
      go_region_held3 (fun _ => True) (trivial)
        (first | (refine Kd.R_append_rows_step (rawK 4) (Rr := (rawK 4).K w4) (w0 := W5) W5.heap.size ?aW (.tmp 69) (.tmp 73) 41 29 (.agg #[.bool false, .bool false, .int .i64 0, .slice none 0 0]) 40 ?aU Tryd.underlying41 info29 rfl (by decide) (by decide) (.slice (some ⟨W5.heap.size, 0, none⟩) 0 0) [] (rows.take (k + 1)) (some ad) (k + 1) c4 (fun _ => True) (fun _ => False) ?aV ?aX ?aO ?aR (fun _ _ h => h) (fun _ h => h.elim) (fun _ _ => trivial) ?aB ?aS ?aL ?_; (case aW => rfl); (case aU => rfl); (case aV => rfl); (case aX => rfl); (case aO => exact Kd.R_drew (empty_R _ _ (Nat.le_refl _))); (case aR => exact Kd.C_drew (Kd.C_alloc HT.out _)); (case aB => exact below_drew (below_alloc (Below.refl _ _) _)); (case aS => exact (below_drew (below_alloc (Below.refl _ W5) _)).size); (case aL => have := HNB.out; simp; omega); intro v1 w9 ho hb hg hat; rw [List.nil_append] at ho; have HO1 := Aside0.mk ho; have HB1 := Aside0.mk hb; clear ho hb hg hat)
               | (refine Kd.R_append_rows_step (rawK 4) (Rr := (rawK 4).K w4) (w0 := W5) W5.heap.size ?aW (.tmp 74) (.tmp 77) 41 29 (.agg #[.bool false, .bool false, .int .i64 0, .slice none 0 0]) 40 ?aU Tryd.underlying41 info29 rfl (by decide) (by decide) v1 (rows.take (k + 1)) (rows.drop k) (some (ad.add (k * 4))) (N - k) (c4 - k) (fun _ => True) (fun _ => False) ?aV ?aX ?aO ?aR (fun _ _ h => h) (fun _ h => h.elim) (fun _ _ => trivial) ?aB ?aS ?aL ?_; (case aW => rfl); (case aU => rfl); (case aV => rfl); (case aX => rfl); (case aO => exact HO1.out); (case aR => have hd := HD.out; rw [if_neg f4] at hd; exact Kd.C_below hd HB1.out); (case aB => exact HB1.out); (case aS => exact HB1.out.size); (case aL => have := HNB.out; rw [HTL.out]; omega); intro v2 w10 ho hb hg hat; have HO2 := Aside0.mk ho; have HB2 := Aside0.mk hb; clear ho hb hg hat))
      go_wp2
      go_meet
      exact ⟨HO2, HB2⟩
    case rest =>
      obtain ⟨HL2, HBL2⟩ := hcut
      obtain ⟨W6, hW6⟩ : ∃ W, W = wc := ⟨_, rfl⟩
      subst hW6
      obtain ⟨l, hl⟩ : ∃ l, pcs bg (numbers short) m N xs = l := ⟨_, rfl⟩
      have HLP := Aside0.mk hl
      have hll : l.length = N := by rw [← hl, pcs_len]
      have HLN := Aside0.mk hll
      rw [hl] at HC4 HE
      have hfl : (l.flatMap (·.f3)).length ≤ 1000 := by
        rw [← hl, ← HNP.out, ← HX.out.1, flat_pcs _ _ _ _ HMM.out.1, HX.out.1]
        exact HN.out
      have HFL := Aside0.mk hfl
      clear hl hll hfl
      have HE6 := Aside0.mk ((HE.out.below HBL.out).below HBL2.out)
      have hLa := Kd.R_below HL.out HBL2.out
      have hLb := HL2.out
      obtain ⟨A15, c15, hv15, hc15, hC15⟩ := Kd.R_reads hLa
      obtain ⟨A16, c16, hv16, hc16, hC16⟩ := Kd.R_reads hLb
      have hl15 : (rows.take k ++ rows.drop (k + 1)).length = (l.take k ++ l.drop (k + 1)).length := by simp [HLN.out, HRL.out]
      have hl16 : (rows.take (k + 1) ++ rows.drop k).length = (l.take (k + 1) ++ l.drop k).length := by simp [HLN.out, HRL.out]
      rw [hl15] at hv15 hc15 hC15
      rw [hl16] at hv16 hc16 hC16
      have HK15 := Aside0.mk (of_raw (d := k29) hC15 (each_app (each_takes HE6.out k) (each_drops HE6.out (k + 1))))
      have HK16 := Aside0.mk (of_raw (d := k29) hC16 (each_app (each_takes HE6.out (k + 1)) (each_drops HE6.out k)))
      have HQ15 := Aside0.mk hc15
      have HQ16 := Aside0.mk hc16
      subst hv15 hv16
      clear hLa hLb hC15 hC16 hl15 hl16 hc15 hc16 HL HL2
      have X6 := Aside0.mk (below_step (below_step X.out HBL.out) HBL2.out)
      have HS6 := Aside0.mk ((HS4.out.below HBL.out).below HBL2.out)
      obtain ⟨la, hla⟩ : ∃ a, l.take k ++ l.drop (k + 1) = a := ⟨_, rfl⟩
      obtain ⟨lb, hlb⟩ : ∃ a, l.take (k + 1) ++ l.drop k = a := ⟨_, rfl⟩
      have hfa : la.length ≤ 100000 ∧ (la.flatMap (·.f3)).length ≤ 100000 := by
        rw [← hla]
        exact flat_cut l k (k + 1) (by rw [HLN.out]; exact HNB.out.2) HFL.out
      have hfb : lb.length ≤ 100000 ∧ (lb.flatMap (·.f3)).length ≤ 100000 := by
        rw [← hlb]
        exact flat_cut l (k + 1) k (by rw [HLN.out]; exact HNB.out.2) HFL.out
      have hea : (glueP short la).2 ≠ 0 := by
        rw [← hla, ← HLP.out]
        exact less_err short bg m N xs k hkN
      have heb : (glueP short lb).2 ≠ 0 := by
        rw [← hlb, ← HLP.out]
        exact twice_err short bg m N xs k hkN
      have hea2 : ((glueP short la).2 == 0) = false := by simpa using hea
      have heb2 : ((glueP short lb).2 == 0) = false := by simpa using heb
      rw [hla] at HK15 HQ15
      rw [hlb] at HK16 HQ16
      simp only [hla, hlb]
      clear hla hlb hea heb
      have HFA := Aside0.mk hfa
      have HFB := Aside0.mk hfb
      clear hfa hfb
      go_wp2_with (fail)
      refine (glue_any short A15 la.length c15 la W6 HS6.out HK15.out HQ15.out HFA.out.1 HFA.out.2).mono ?_
      rintro ex7 w7 ⟨A7, c7, rfl, hcc7, hC7, hb⟩
      have X7 := Aside0.mk (below_step X6.out hb)
      have HS7 := Aside0.mk (HS6.out.below hb)
      have HK7 := Aside0.mk (Kd.C_below HK16.out hb)
      have HB67 := Aside0.mk hb
      clear hb hcc7 hC7
      generalize (glueP short la).2 = ga at hea2 ⊢
      go_wp2_with (fail)
      refine (glue_any short A16 lb.length c16 lb w7 HS7.out HK7.out HQ16.out HFB.out.1 HFB.out.2).mono ?_
      rintro ex8 w8 ⟨A8, c8, rfl, hcc8, hC8, hb⟩
      have X8 := Aside0.mk (below_step X7.out hb)
      have HS8 := Aside0.mk (HS7.out.below hb)
      have HB68 := Aside0.mk (below_step HB67.out hb)
      clear hb hcc8 hC8
      generalize (glueP short lb).2 = gb at heb2 ⊢
      have HR8 := Aside0.mk (Kd.C_below (Kd.C_below HR5.out HBL2.out) HB68.out)
      have HE8 := Aside0.mk (HE6.out.below HB68.out)
      by_cases hk0 : k = 0
      · subst hk0
        go_wp2
        go_ret
        exact ⟨rfl, X8.out⟩
      have hk1 : ((k : Int) == 0) = false := by simp; omega
      have hk2 : ((k : Int) = 0) = False := eq_false (by omega)
      go_wp2_with (at_builtin; (refine Kd.R_append_rows (rawK 4) (Rr := (rawK 4).K w4) (w0 := w8) w8.heap.size rfl (.tmp 99) (.tmp 100) 41 29 (.agg #[.bool false, .bool false, .int .i64 0, .slice none 0 0]) 40 rfl Tryd.underlying41 info29 rfl (by decide) (by decide) (.slice (some ⟨w8.heap.size, 0, none⟩) 0 0) [] rows (some ad) N c4 (fun _ => True) (fun _ => False) ?aV ?aX ?aO ?aR (fun _ _ h => h) (fun _ h => h.elim) (fun _ _ => trivial) ?aB ?aS ?aL ?_); (case aV => rfl); (case aX => rfl); (case aO => exact empty_R _ _ (Nat.le_refl _)); (case aR => exact Kd.C_alloc HR8.out _); (case aB => exact below_alloc (Below.refl _ _) _); (case aS => exact (below_alloc (Below.refl _ w8) _).size); (case aL => have := HNB.out; simp; omega); intro v1 w9 ho hb hg hat; rw [List.nil_append] at ho; obtain ⟨g9, cap9, rfl⟩ := own_form ho HRL.out HNB.out.1; have HO9 := Aside0.mk ho; have HB9 := Aside0.mk hb; clear ho hb hg hat)
      have HPR := Aside0.mk (each_rows HE.out (fun _ _ => pRow29))
      have hkr : k < rows.length := by have := HRL.out; omega
      obtain ⟨b1, t1, n1, A1, m1, c1, hr1⟩ := HPR.out (rows[k]) (List.getElem_mem hkr)
      obtain ⟨b0, t0, n0, A0, m0, c0, hr0⟩ := HPR.out (rows[k - 1]) (List.getElem_mem (by omega))
      have hC9 := (Kd.R_reads' HO9.out).2.2
      have hcel : ∀ (i : Nat) (r : List Value), rows[i]? = some r → ∀ (q : Nat) u, r[q]? = some u → w9.cell? ⟨g9, i * 4 + q, none⟩ = some u := by
        intro i r hr q u hu
        have hi := (List.getElem?_eq_some_iff.1 hr).1
        obtain ⟨ad9, e9, r9, h91, _, _, h92⟩ := raw_get hC9 i hi
        obtain rfl := Option.some.inj e9
        rw [hr] at h91
        obtain rfl := Option.some.inj h91
        have := h92 q u hu
        rwa [add_plain] at this
      have hg1 : rows[k]? = some [.bool b1, .bool t1, .int .i64 n1, .slice A1 m1 c1] := by rw [List.getElem?_eq_getElem hkr, hr1]
      have hg0 : rows[k - 1]? = some [.bool b0, .bool t0, .int .i64 n0, .slice A0 m0 c0] := by rw [List.getElem?_eq_getElem (by omega), hr0]
      have x0 := hcel k _ hg1 0 _ rfl
      have x1 := hcel k _ hg1 1 _ rfl
      have x2 := hcel k _ hg1 2 _ rfl
      have x3 := hcel k _ hg1 3 _ rfl
      have y0 := hcel (k - 1) _ hg0 0 _ rfl
      have y1 := hcel (k - 1) _ hg0 1 _ rfl
      have y2 := hcel (k - 1) _ hg0 2 _ rfl
      have y3 := hcel (k - 1) _ hg0 3 _ rfl
      rw [Nat.add_zero] at x0 y0
      have HG1 := Aside0.mk hg1
      have HG0 := Aside0.mk hg0
      have hk3 : IntKind.i64.wrap ((k : Int) - 1) = ((k - 1 : Nat) : Int) := by rw [IntKind.wrap_i64]; have := HNB.out; omega
      have hk4 : ((k - 1 : Nat) : Int) < (N : Int) := by omega
      have hk5 : (k : Int) < (N : Int) := by omega
      have had1 := add_plain g9 (k * 4)
      have had0 := add_plain g9 ((k - 1) * 4)
      have fz : ∀ j, w9.frozen? ⟨g9, j, none⟩ = false := own_free HO9.out
      clear hcel hg1 hg0 hr1 hr0 hC9 hkr
      go_cut [21] (fun v21 wc => v21 = .slice (some ⟨g9, 0, none⟩) N cap9 ∧ Aside0 ((rawK 4).R 29 wc w8.heap.size (fun _ => True) v21 ((rows.set (k - 1) [.bool b1, .bool t1, .int .i64 n1, .slice A1 m1 c1]).set k [.bool b0, .bool t0, .int .i64 n0, .slice A0 m0 c0])) ∧ Aside0 (Below w8.heap.size w8 wc))
      case first =>
        go_region
        all_goals go_wp2
        all_goals go_meet
        all_goals
          have hgb : w8.heap.size ≤ g9 := Kd.R_base HO9.out g9 (by simp [Value.ownBlock])
          have hR1 := R_two HO9.out HRL.out (k - 1) (by omega) [.bool b1, .bool t1, .int .i64 n1, .slice A1 m1 c1] rfl (by simp [Value.oneCell'])
          have hR2 := R_two hR1 (by rw [List.length_set]; exact HRL.out) k hkN [.bool b0, .bool t0, .int .i64 n0, .slice A0 m0 c0] rfl (by simp [Value.oneCell'])
          have hBB := below_puts (o := k * 4) (vs := [.bool b0, .bool t0, .int .i64 n0, .slice A0 m0 c0]) (below_puts (o := (k - 1) * 4) (vs := [.bool b1, .bool t1, .int .i64 n1, .slice A1 m1 c1]) HB9.out hgb) hgb
          exact ⟨rfl, ⟨Kd.R_drew hR2⟩, ⟨below_drew hBB⟩⟩
      case rest =>
        obtain ⟨rfl, HR10, HB10⟩ := hcut
        have HE10 := HE8.out.below HB10.out
        have hrl10 := HRL.out
        have hln10 := HLN.out
        have hT := each_set (each_set HE10 (k - 1) (rd_T29 l (k : Int)) [.bool b1, .bool t1, .int .i64 n1, .slice A1 m1 c1] (HE10.2 k _ _ (rd_some l k (by omega)) HG1.out)) k (rd_T29 l ((k - 1 : Nat) : Int)) [.bool b0, .bool t0, .int .i64 n0, .slice A0 m0 c0] (HE10.2 (k - 1) _ _ (rd_some l (k - 1) (by omega)) HG0.out)
        have hC10 := (Kd.R_reads' HR10.out).2
        have hTC := of_raw (d := k29) hC10.2 hT
        have hee := turned_err short bg m N xs k hkN (by omega)
        rw [HLP.out] at hee
        have hft := flat_set (l.set (k - 1) (rd_T29 l (k : Int))) k (rd_T29 l ((k - 1 : Nat) : Int))
        have hft2 := flat_set l (k - 1) (rd_T29 l (k : Int))
        have hr1 := rd_le l k
        have hr2 := rd_le l (k - 1)
        have hfl := HFL.out
        have htl : ((l.set (k - 1) (rd_T29 l (k : Int))).set k (rd_T29 l ((k - 1 : Nat) : Int))).length = N := by simp [hln10]
        have hrr : ((rows.set (k - 1) [.bool b1, .bool t1, .int .i64 n1, .slice A1 m1 c1]).set k [.bool b0, .bool t0, .int .i64 n0, .slice A0 m0 c0]).length = N := by simp [hrl10]
        rw [hrr] at hTC
        generalize (l.set (k - 1) (rd_T29 l (k : Int))).set k (rd_T29 l ((k - 1 : Nat) : Int)) = lt at hT hTC hee hft htl
        have HTC := Aside0.mk hTC
        have HCP := Aside0.mk hC10.1
        have HFT := Aside0.mk (show (lt.flatMap (·.f3)).length ≤ 100000 by omega)
        have HEE := Aside0.mk hee
        have X10 := Aside0.mk (below_step X8.out HB10.out)
        have HS10 := Aside0.mk (HS8.out.below HB10.out)
        clear hT hC10 hTC hee hft hft2 hr1 hr2 hfl htl hrr hrl10 hln10 HE10 x0 x1 x2 x3 y0 y1 y2 y3
        go_wp2_with (fail)
        refine (glue_any short (some ⟨g9, 0, none⟩) N cap9 lt _ HS10.out HTC.out (by have := HCP.out; omega) (by have := HNB.out; omega) HFT.out).mono ?_
        rintro ex11 w11 ⟨A11, c11, rfl, hcc11, hC11, hb⟩
        have X11 := Aside0.mk (below_step X10.out hb)
        clear hb hcc11 hC11
        rcases HEE.out with h4 | h14
        · rw [h4]
          go_wp2
          go_ret
          exact ⟨rfl, X11.out⟩
        · rw [h14]
          go_wp2
          go_ret
          exact ⟨rfl, X11.out⟩

end Go.Proofs.YtgopklnfdlnojaaDoor.Sg
