/-
  OWN TEXT. PIPE: THE MACHINE, (18): IT ENDS: the inductions.
-/
import Derived.Test.YtdmhgajamepgoaaQu
set_option linter.unusedVariables false
set_option linter.unusedSimpArgs false
set_option linter.unusedSectionVars false
namespace Go.Proofs.Ytdmhgajamepgoaa.Q
open Go Go.Conc
open Go.ConcN (sumTo upd sumTo_upd upd_ne upd_same)

def cnt (gs : Array Goroutine) (i : Nat) : Nat := match gs[i]? with | some x => if x.status = .running then 1 else 0 | none => 0
theorem cnt_le (gs : Array Goroutine) (i : Nat) : cnt gs i ≤ 1 := by unfold cnt; split <;> (try split) <;> omega
theorem cnt_run {gs : Array Goroutine} {i : Nat} {x : Goroutine} (h : gs[i]? = some x) (hr : x.status = .running) : cnt gs i = 1 := by simp [cnt, h, hr]
theorem cnt_blocked {gs : Array Goroutine} {i : Nat} {x : Goroutine} (h : gs[i]? = some x) (hr : x.status = .blocked) : cnt gs i = 0 := by simp [cnt, h, hr]

section
variable {P : Program} {B : World} {Post : Value → World → Prop} {dead : Nat → Prop} {p : PRec} {k : Nat} {gs gs' : Array Goroutine} {w w' : World} {sl : Option (Nat × Nat)} {t u : Trace} {q q' : Nat → Nat} {ex ex' : Nat → Prop} {r s r' s' : Nat} {c c' : CPh} {oc oc' : Bool} {st sm st' sm' : Int} {sg sg' : List Chunk} {d d' : Nat} {a b g g' gw gw' : Goroutine} {tau tau' : Tau WX}

theorem PC.stall (h : PC P B dead p k gs w t q ex r s c oc st sm sg d g) (hs : gs'.size = gs.size) (hg : ∀ m x, m ≠ 0 → ¬ ex m → gs'[m]? = some x → gs[m]? = some x) (hcal : ∃ a, gs'[0]? = some a ∧ CAt P B p sg r s c oc sm a g) :
    PC P B dead p k gs' w t q ex r s c oc st sm sg d g :=
  ⟨⟨h.com.tr, fun m x h0 hm hx => h.com.leav m x h0 hm (hg m x h0 hm hx), fun j hj => h.com.above j (by omega), h.com.base, h.com.deadlt⟩, h.k0, by rw [hs]; exact h.kl, hcal, h.deaf, h.sat, h.sep, h.geo, h.sh, h.rs, h.sl, h.compl, h.kn⟩
theorem WL.stall (h : WL P B dead p k gs w t r s c oc st sm sg tau gw) (hwor : ∃ b, gs'[k]? = some b ∧ WAt P B tau c r b gw) : WL P B dead p k gs' w t r s c oc st sm sg tau gw :=
  ⟨hwor, h.xp, h.xs, h.oc, h.st, h.deaf, h.sat, h.sep, h.dis, h.stopped, h.kn, h.left⟩

theorem app_nil (t : Trace) : t ++ (#[] : Trace) = t := by simp

/-- THE WORKER IS GONE: it ends. -/
theorem gone_ends (hmc : CMv P B Post ⟨sg, d, .pump p r c⟩ g (fun t g => KC P B Post t g ∧ J (CMv P B Post) t g)) :
    ∀ N dead k gs w sl t q s oc st sm, 3 * sumTo gs.size q + cnt gs 0 ≤ N → PC P B dead p k gs w t q (fun _ => False) r s c oc st sm sg d g → WG B dead p k w t s c oc st sm sg → Ends P Post (crowd gs w sl) t := by
  intro N
  induction N with
  | zero =>
    intro dead k gs w sl t q s oc st sm hN h hwg
    exfalso
    obtain ⟨a, h0, hca⟩ := h.cal
    cases hca with
    | run _ hr => rw [cnt_run h0 hr] at hN; omega
    | park z _ _ e _ _ => rw [hwg.oc] at e; cases e
    | sem _ _ e1 e2 => have := hwg.st; rw [e1, e2] at this; simp [stGone] at this
  | succ N ih =>
    intro dead k gs w sl t q s oc st sm hN h hwg
    obtain ⟨a, h0, hca⟩ := h.cal
    have hra : a.status = .running := by
      cases hca with
      | run _ hr => exact hr
      | park z _ _ e _ _ => rw [hwg.oc] at e; cases e
      | sem _ _ e1 e2 => have := hwg.st; rw [e1, e2] at this; simp [stGone] at this
    have haw : ∀ x ∈ gs, awake x := by
      intro x hx
      obtain ⟨i, hi, rfl⟩ := Array.mem_iff_getElem.1 hx
      rcases Nat.eq_zero_or_pos i with rfl | hpos
      · have : gs[0] = a := by simpa [Array.getElem?_eq_getElem hi] using h0
        rw [this]; exact awake_of (.inl hra)
      · exact awake_of ((h.com.leav i _ (by omega) (fun x => x) (Array.getElem?_eq_getElem hi)).status.elim .inl fun x => .inr (.inr x))
    obtain ⟨i, x, dd, sl', hi, hrun, hst⟩ := crowd_pick (P := P) (w := w) (sl := sl) haw ⟨0, a, h0, hra⟩
    by_cases hi0 : i = 0
    · subst hi0
      rcases caller_moves (sl := sl') (h.at dd) (.inr ⟨rfl, hwg.at dd⟩) h0 hca.alike hmc with ⟨m', ops, h1, h2⟩ | ⟨gs', a', h1, h2, h3, h4, h5, h6⟩
      · exact Ends.step (hst.trans h1) h2
      · refine Ends.step (hst.trans h1) ?_
        rw [app_nil]
        refine ih dead k gs' (w.at dd) sl' t q s oc st sm ?_ ((h.at dd).stall h2 (fun m x hm _ hx => by rwa [h6 m hm] at hx) ⟨a', h3, h4⟩) (hwg.at dd)
        rw [h2, cnt_blocked h3 h5]
        rw [cnt_run h0 hra] at hN; omega
    · obtain ⟨n, g'', es, hq, hr, hmu, hqd⟩ := h.com.slip (sl' := sl') (d := dd) hi0 (fun e => e) hi hrun
      have hil : i < gs.size := (Array.getElem?_eq_some_iff.1 hi).1
      refine Ends.step (hst.trans hr) ?_
      have hmt := mute_touch (i := i) (fn := x.frame.fn) (pos := x.frame.place) hmu
      have hcom := h.com.slipped (gs' := (gs.map (woken P x g'' (w.at dd))).setIfInBounds i g'') (d := dd) hi0 (fun e => e) hil hmu hqd (by simp) (getElem?_map_set hil) (fun m y hm0 hne _ hy => by
        obtain ⟨z, hz, rfl⟩ := getElem?_map_set_ne (Ne.symm hne) hy
        rw [woken_quitsD (h.com.leav m z hm0 (fun e => e) hz)]; exact hz)
      have h0' : ((gs.map (woken P x g'' (w.at dd))).setIfInBounds i g'')[0]? = some (woken P x g'' (w.at dd) a) := by
        rw [Array.getElem?_setIfInBounds_ne hi0, Array.getElem?_map, h0]; rfl
      refine ih dead k _ (w.at dd) sl' _ (upd q i n) s oc st sm ?_ (h.slip (by simp) hi0 hcom (fun op hop => ⟨(hmt op hop).1, (hmt op hop).2.1⟩) ⟨_, h0', hca.woken⟩) (hwg.slip (i := i) (dd := dd) fun op hop => ⟨(hmt op hop).1, (hmt op hop).2.1⟩)
      have := sum3 hil hq
      have hle := cnt_le ((gs.map (woken P x g'' (w.at dd))).setIfInBounds i g'') 0
      rw [show ((gs.map (woken P x g'' (w.at dd))).setIfInBounds i g'').size = gs.size by simp]
      omega
end

end Go.Proofs.Ytdmhgajamepgoaa.Q
