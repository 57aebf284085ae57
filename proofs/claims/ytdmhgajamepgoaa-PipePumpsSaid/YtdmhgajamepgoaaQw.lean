/-
  OWN TEXT. PIPE: THE MACHINE, (19): IT ENDS: the worker at work; the caller alone; THE THEOREM.
-/
import Derived.Test.YtdmhgajamepgoaaQv
set_option linter.unusedVariables false
set_option linter.unusedSimpArgs false
set_option linter.unusedSectionVars false
namespace Go.Proofs.Ytdmhgajamepgoaa.Q
open Go Go.Conc
open Go.ConcN (sumTo upd sumTo_upd upd_ne upd_same)

section
variable {P : Program} {B : World} {Post : Value → World → Prop} {dead : Nat → Prop} {p : PRec} {k : Nat} {gs gs' : Array Goroutine} {w w' : World} {sl : Option (Nat × Nat)} {t u : Trace} {q q' : Nat → Nat} {ex ex' : Nat → Prop} {r s r' s' : Nat} {c c' : CPh} {oc oc' : Bool} {st sm st' sm' : Int} {sg sg' : List Chunk} {d d' : Nat} {a b g g' gw gw' : Goroutine} {tau tau' : Tau WX}

/-- THE WORKER IS AT WORK. -/
theorem live_ends (hmc : CMv P B Post ⟨sg, d, .pump p r c⟩ g (fun t g => KC P B Post t g ∧ J (CMv P B Post) t g)) (hj : J (WMv P B) tau gw) : KW P B Post p r c sg d g tau gw := by
  refine J.ind (wmoves P B) hj (KW P B Post p r c sg d g) fun tau gw hm => ?_
  have hjw : J (WMv P B) tau gw := J.step (wmoves P B) ((wmoves P B).mono (fun _ _ x => x.2) hm)
  suffices key : ∀ N dead k gs w sl t q s oc st sm, 3 * sumTo gs.size q + cnt gs 0 + cnt gs k ≤ N → PC P B dead p k gs w t q (· = k) r s c oc st sm sg d g → WL P B dead p k gs w t r s c oc st sm sg tau gw → Ends P Post (crowd gs w sl) t by
    intro dead k gs w sl t q s oc st sm h hwl
    exact key _ dead k gs w sl t q s oc st sm (Nat.le_refl _) h hwl
  intro N
  induction N using Nat.strongRecOn with
  | _ N ih =>
    intro dead k gs w sl t q s oc st sm hN h hwl
    obtain ⟨a, h0, hca⟩ := h.cal
    obtain ⟨b, hb, hwa⟩ := hwl.wor
    have hsome : a.status = .running ∨ b.status = .running := by
      cases hca with
      | run _ hr => exact .inl hr
      | park z _ e2 _ e4 _ =>
        right
        cases hwa with
        | run _ hr => exact hr
        | park v zo z' _ _ _ hcap _ _ => have := h.geo.cap; rw [hwl.xp, hwl.xs] at hcap; omega
      | sem _ _ e1 _ =>
        right
        cases hwa with
        | run _ hr => exact hr
        | park v zo z' _ _ e _ _ _ => rw [e1] at e; cases e
    have haw : ∀ x ∈ gs, awake x := by
      intro x hx
      obtain ⟨i, hi, rfl⟩ := Array.mem_iff_getElem.1 hx
      by_cases hi0 : i = 0
      · subst hi0
        have : gs[0] = a := by simpa [Array.getElem?_eq_getElem hi] using h0
        rw [this]; exact awake_of (hca.status.elim .inl fun e => .inr (.inl e))
      · by_cases hik : i = k
        · subst hik
          have : gs[i] = b := by simpa [Array.getElem?_eq_getElem hi] using hb
          rw [this]; exact awake_of (hwa.status.elim .inl fun e => .inr (.inl e))
        · exact awake_of ((h.com.leav i _ hi0 hik (Array.getElem?_eq_getElem hi)).status.elim .inl fun x => .inr (.inr x))
    obtain ⟨i, x, dd, sl', hi, hrun, hst⟩ := crowd_pick (P := P) (w := w) (sl := sl) haw (hsome.elim (fun e => ⟨0, a, h0, e⟩) fun e => ⟨k, b, hb, e⟩)
    by_cases hi0 : i = 0
    · subst hi0
      obtain rfl : a = x := Option.some.inj (h0.symm.trans hi)
      rcases caller_moves (sl := sl') (h.at dd) (.inl ⟨rfl, tau, gw, hwl.at dd, hjw⟩) h0 hca.alike hmc with ⟨m', ops, h1, h2⟩ | ⟨gs', a', h1, h2, h3, h4, h5, h6⟩
      · exact Ends.step (hst.trans h1) h2
      · refine Ends.step (hst.trans h1) ?_
        rw [app_nil]
        have hbk : gs'[k]? = some b := by rw [h6 k h.k0]; exact hb
        refine ih (3 * sumTo gs'.size q + cnt gs' 0 + cnt gs' k) ?_ dead k gs' (w.at dd) sl' t q s oc st sm (Nat.le_refl _) ((h.at dd).stall h2 (fun m x hm _ hx => by rwa [h6 m hm] at hx) ⟨a', h3, h4⟩) ((hwl.at dd).stall ⟨b, hbk, hwa⟩)
        have e1 : cnt gs' k = cnt gs k := by simp [cnt, hbk, hb]
        rw [h2, cnt_blocked h3 h5, e1]
        rw [cnt_run h0 hrun] at hN; omega
    · by_cases hik : i = k
      · subst hik
        obtain rfl : b = x := Option.some.inj (hb.symm.trans hi)
        rcases worker_moves (sl := sl') (h.at dd) (hwl.at dd) hb hwa.alike hm hmc (fun dead k gs w sl t q s oc st sm h1 h2 => gone_ends hmc _ dead k gs w sl t q s oc st sm (Nat.le_refl _) h1 h2) with ⟨m', ops, h1, h2⟩ | ⟨b', h1, h2, h3⟩
        · exact Ends.step (hst.trans h1) h2
        · refine Ends.step (hst.trans h1) ?_
          rw [app_nil]
          have e0 : (gs.setIfInBounds i b')[0]? = some a := by rw [Array.getElem?_setIfInBounds_ne hi0]; exact h0
          have ei : (gs.setIfInBounds i b')[i]? = some b' := by rw [Array.getElem?_setIfInBounds_self_of_lt h.kl]
          refine ih (3 * sumTo (gs.setIfInBounds i b').size q + cnt (gs.setIfInBounds i b') 0 + cnt (gs.setIfInBounds i b') i) ?_ dead i (gs.setIfInBounds i b') (w.at dd) sl' t q s oc st sm (Nat.le_refl _) ((h.at dd).stall (by simp) (fun m x hm hmk hx => by rwa [Array.getElem?_setIfInBounds_ne (fun e => hmk e.symm)] at hx) ⟨a, e0, hca⟩) ((hwl.at dd).stall ⟨b', ei, h2⟩)
          have e1 : cnt (gs.setIfInBounds i b') 0 = cnt gs 0 := by simp [cnt, e0, h0]
          rw [show (gs.setIfInBounds i b').size = gs.size by simp, cnt_blocked ei h3, e1]
          rw [cnt_run hb hrun] at hN; omega
      · obtain ⟨n, g'', es, hq, hr, hmu, hqd⟩ := h.com.slip (sl' := sl') (d := dd) hi0 hik hi hrun
        have hil : i < gs.size := (Array.getElem?_eq_some_iff.1 hi).1
        refine Ends.step (hst.trans hr) ?_
        have hmt := mute_touch (i := i) (fn := x.frame.fn) (pos := x.frame.place) hmu
        have hcom := h.com.slipped (gs' := (gs.map (woken P x g'' (w.at dd))).setIfInBounds i g'') (d := dd) hi0 hik hil hmu hqd (by simp) (getElem?_map_set hil) (fun m y hm0 hne hmk hy => by
          obtain ⟨z, hz, rfl⟩ := getElem?_map_set_ne (Ne.symm hne) hy
          rw [woken_quitsD (h.com.leav m z hm0 hmk hz)]; exact hz)
        have h0' : ((gs.map (woken P x g'' (w.at dd))).setIfInBounds i g'')[0]? = some (woken P x g'' (w.at dd) a) := by
          rw [Array.getElem?_setIfInBounds_ne hi0, Array.getElem?_map, h0]; rfl
        have hk' : ((gs.map (woken P x g'' (w.at dd))).setIfInBounds i g'')[k]? = some (woken P x g'' (w.at dd) b) := by
          rw [Array.getElem?_setIfInBounds_ne hik, Array.getElem?_map, hb]; rfl
        refine ih (3 * sumTo ((gs.map (woken P x g'' (w.at dd))).setIfInBounds i g'').size (upd q i n) + cnt ((gs.map (woken P x g'' (w.at dd))).setIfInBounds i g'') 0 + cnt ((gs.map (woken P x g'' (w.at dd))).setIfInBounds i g'') k) ?_ dead k _ (w.at dd) sl' _ (upd q i n) s oc st sm (Nat.le_refl _)
          (h.slip (by simp) hi0 hcom (fun op hop => ⟨(hmt op hop).1, (hmt op hop).2.1⟩) ⟨_, h0', hca.woken⟩) (hwl.slip hik h.com.tr (fun op hop => ⟨(hmt op hop).1, (hmt op hop).2.1⟩) ⟨_, hk', hwa.woken'⟩)
        have := sum3 hil hq
        have hle := cnt_le ((gs.map (woken P x g'' (w.at dd))).setIfInBounds i g'') 0
        have hle2 := cnt_le ((gs.map (woken P x g'' (w.at dd))).setIfInBounds i g'') k
        rw [show ((gs.map (woken P x g'' (w.at dd))).setIfInBounds i g'').size = gs.size by simp]
        omega

/-- ALONE. -/
theorem alone_ends {tau : Tau CX} (hmc : CMv P B Post tau g (fun t g => KC P B Post t g ∧ J (CMv P B Post) t g)) :
    ∀ N dead gs w sl t q, sumTo gs.size q ≤ N → Alone P B dead gs w t q tau g → Ends P Post (crowd gs w sl) t := by
  have hra := hmc.running
  intro N
  induction N using Nat.strongRecOn with
  | _ N ih =>
    intro dead gs w sl t q hN h
    obtain ⟨i, x, dd, sl', hi, hrun, hst⟩ := crowd_pick (P := P) (w := w) (sl := sl) (h.awake hra) ⟨0, g, h.g0, hra⟩
    by_cases hi0 : i = 0
    · subst hi0
      cases hmc with
      | own hm =>
        obtain ⟨gs', w', ops, s', d', g', h1, h2, h3⟩ := h.own (sl' := sl') hm dd
        exact Ends.step (hst.trans h1) (h3.1.1 dead gs' w' sl' _ q h2)
      | priv hm =>
        obtain ⟨gs', w', ops, s', g', h1, h2, h3⟩ := h.priv (sl := sl') hm dd
        exact Ends.step (hst.trans h1) (h3.1.1 dead gs' w' sl' _ q h2)
      | act _ hm =>
        have hx := h.x
        obtain ⟨sg, d, xx⟩ := tau
        simp only at hx
        subst hx
        have hat : Alone P B dead gs (w.at dd) t q ⟨sg, d, .alone⟩ g := ⟨h.com.at dd, rfl, h.g0, h.deaf, h.sat.at dd, h.nd, h.kn⟩
        cases hm with
        | spawn p sc sw g' child e hd hs hoff hch hcho hO hS hG hos hcap hsc hsw hdis hnc hnw hk hj =>
          simp only at hd
          subst hd
          obtain ⟨m', ops, h1, h2⟩ := caller_spawn (sl := sl') hat (hs _ (h.sat.at dd)) (jc_running hk.2) hch hO hS hG hos hcap hsc hsw hdis hnc hnw hk.1 hj
          exact Ends.step (hst.trans h1) h2
        | fin e hd hf =>
          obtain ⟨o, w', ops, h1, h2⟩ := h.fin (sl := sl) Post hd dd hf sl'
          exact Ends.last (hst.trans h1) h2
        | recv p r z e => cases e
        | close p r c g' e => cases e
        | load p r e => cases e
        | load0 p r e => cases e
        | cas p r e => cases e
        | said p r g' e => cases e
        | sem p r e => cases e
        | load2 p r e => cases e
        | acq p r g' e => cases e
        | look p r c g' e => cases e
    · obtain ⟨gs', ops, n, h1, h2, h3, h4, h5⟩ := h.slip (sl' := sl') hra hi0 hi hrun dd
      refine Ends.step (hst.trans h1) (ih (sumTo gs'.size (upd q i n)) ?_ dead gs' (w.at dd) sl' _ (upd q i n) (Nat.le_refl _) h5)
      have := sum3 h4 h2
      rw [h3]; omega

/-- ████ WHOEVER IS IN J ENDS WELL, ON WHATEVER TAPE. ████ -/
theorem j_ends {tau : Tau CX} (hj : J (CMv P B Post) tau g) : KC P B Post tau g := by
  refine J.ind (cmoves P B Post) hj (KC P B Post) fun tau g hm => ⟨fun dead gs w sl t q h => alone_ends hm _ dead gs w sl t q (Nat.le_refl _) h, ?_⟩
  intro dead p k gs w sl t q ex r s c oc st sm hx h hr
  obtain ⟨sg, d, xx⟩ := tau
  simp only at hx
  subst hx
  rcases hr with ⟨rfl, tau, gw, hwl, hj⟩ | ⟨rfl, hwg⟩
  · exact live_ends hm hj dead k gs w sl t q s oc st sm h hwl
  · exact gone_ends hm _ dead k gs w sl t q s oc st sm (Nat.le_refl _) h hwg
end

end Go.Proofs.Ytdmhgajamepgoaa.Q
