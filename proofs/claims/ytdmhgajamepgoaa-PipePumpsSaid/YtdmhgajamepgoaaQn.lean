/-
  OWN TEXT. PIPE: THE MACHINE, (10): the caller's moves, on: close, a channel of its own, the semaphore, the acquire; all of them.
-/
import Derived.Test.YtdmhgajamepgoaaQm
set_option linter.unusedVariables false
set_option linter.unusedSimpArgs false
set_option linter.unusedSectionVars false
namespace Go.Proofs.Ytdmhgajamepgoaa.Q
open Go Go.Conc
open Go.ConcN (sumTo upd sumTo_upd upd_ne upd_same)

section
variable {P : Program} {B : World} {Post : Value → World → Prop} {dead : Nat → Prop} {p : PRec} {k : Nat} {gs gs' : Array Goroutine} {w w' : World} {sl : Option (Nat × Nat)} {t u : Trace} {q q' : Nat → Nat} {ex ex' : Nat → Prop} {r s r' s' : Nat} {c c' : CPh} {oc oc' : Bool} {st sm st' sm' : Int} {sg sg' : List Chunk} {d d' : Nat} {a g g' gw gw' : Goroutine} {tau tau' : Tau WX}

/-- IT SAYS STOP. -/
theorem caller_close (h : PC P B dead p k gs w t q ex r s c oc st sm sg d g) (hc : c = .recv ∧ p.whole = false ∨ c = .over) (hr : Rest P B dead p k gs w t ex r s c oc st sm sg) (h0 : gs[0]? = some a) (hal : Alike a g) (hwake : mayWake P g = true)
    (hst : stepG P true g w = .go g' { w with heap := w.heap.setIfInBounds p.S (.chan 0 #[] true 0 0 false) } #[⟨.obj p.S, false, true⟩, ⟨.obj p.S, true, true⟩])
    (hK : KC P B Post ⟨sg, d, .pump p r .shut⟩ g') (hrun : g'.status = .running) : ∃ m' ops, runT P (crowd gs w sl) 0 = (.next m', ops) ∧ Ends P Post m' (t ++ ops) := by
  obtain ⟨l1, l2, l3⟩ := h.lts
  have hne : ∀ b, b ≠ p.S → (w.heap.setIfInBounds p.S (Obj.chan 0 #[] true 0 0 false))[b]? = w.heap[b]? := fun b hb => Array.getElem?_setIfInBounds_ne (Ne.symm hb)
  have hS : (w.heap.setIfInBounds p.S (Obj.chan 0 #[] true 0 0 false))[p.S]? = some (.chan 0 #[] true 0 0 false) := by simp [l2]
  refine caller_go (w' := { w with heap := w.heap.setIfInBounds p.S (.chan 0 #[] true 0 0 false) }) (sg' := sg) (d' := d) (c' := .shut) (st' := st) (sm' := sm) h hr h0 (by rw [hal.step]; exact hst) hK hrun (by simp) ?_ (by simp [deafBehind]) ?_ (fun x hx => .inl ⟨x, hx, rfl, rfl⟩) ?_ ⟨fun _ e => (by cases e), fun e => ?_⟩ ?_ ?_ ?_ (.inr (by simp)) ?_
  · have := appOk_grp (B := B) (s := sg) (g := 0) (es := #[⟨.obj p.S, false, true⟩, ⟨.obj p.S, true, true⟩]) l3 h.geo.bg (fun e he => by
      simp at he
      rcases he with rfl | rfl
      · exact .obj _ _ l2
      · exact .obj _ _ l2) a.frame.fn a.frame.place
    simpa using this
  · exact ⟨h.sat.os, h.sat.out, by simpa using h.sat.size, fun b hb => (hne b (by have := h.geo.bs; omega)).trans (h.sat.low b hb), fun x hx => (hne x.b (h.sep.o x hx).2.1).trans (h.sat.here x hx), h.sat.above, h.sat.nodup⟩
  · exact ⟨(hne _ h.geo.os).trans h.sh.o, hS, (hne _ (Ne.symm h.geo.sg)).trans h.sh.g⟩
  · rcases hc with ⟨_, hw⟩ | rfl
    · rw [hw] at e; rcases e with e | ⟨_, e⟩ <;> cases e
    · exact h.compl.2 (.inl rfl)
  · intro tau gw b hwa hp
    cases hwa with
    | run ha hb => exact WAt.woken' (.run ha hb)
    | park v zo z hb h1 h2 h3 h4 h5 =>
      have e : woken P a g' { w with heap := w.heap.setIfInBounds p.S (.chan 0 #[] true 0 0 false) } b = { b with status := .running } := by
        unfold Go.Conc.woken
        rw [if_pos (by rw [hal.wake, hwake, hrun]; rfl), hb]
        exact again_sel_shut (by rw [hp]; exact hS)
      rw [e, hb]
      exact .run ⟨rfl, rfl, rfl⟩ rfl
  · intro ph hph; rcases hc with ⟨rfl, _⟩ | rfl <;> cases ph <;> exact hph
  · intro e; rcases hc with ⟨rfl, _⟩ | rfl <;> exact e
  · intro b _ _ _ hb _; exact hne b hb

/-- A COMMUNICATION AT A CHANNEL OF ITS OWN. -/
theorem caller_priv (h : PC P B dead p k gs w t q ex r s c oc st sm sg d g) (hr : Rest P B dead p k gs w t ex r s c oc st sm sg) (h0 : gs[0]? = some a) (hal : Alike a g)
    (hm : PrivMv P true B ⟨sg, d, .pump p r c⟩ g (fun t g => KC P B Post t g ∧ J (CMv P B Post) t g)) : ∃ m' ops, runT P (crowd gs w sl) 0 = (.next m', ops) ∧ Ends P Post m' (t ++ ops) := by
  have hil : 0 < gs.size := Nat.lt_of_le_of_lt (Nat.zero_le _) h.kl
  obtain ⟨n1, n2, n3⟩ := h.notmine
  obtain ⟨l1, l2, l3⟩ := h.lts
  obtain ⟨v, w', ops, s', hst, ⟨hk, hj⟩, hsat, hsz, hfr, hids, hcalm⟩ := priv_run (sl := sl) (w := w) h0 hal rfl hm h.sat (fun x b hx => h.partners hr.exk fun y hy he => by
    rcases hr with ⟨e, tau, gw, hwl, _⟩ | ⟨e, _⟩
    · obtain ⟨b', hb', hwa⟩ := hwl.wor
      obtain rfl : b' = y := Option.some.inj (hb'.symm.trans hy)
      exact hwa.offers (fun e => n1 (by rw [← hwl.xp, ← e]; exact hx)) (fun e => n2 (by rw [← hwl.xp, ← e]; exact hx))
    · rw [e] at he; exact he.elim)
  refine ⟨_, ops, hst, ?_⟩
  have happ : AppOk B sg w.heap.size w'.heap.size (· = p.G) 0 ops := hcalm.app (by rw [hsz]; exact Nat.le_refl _)
  have hids' : ∀ c' ∈ s', (∃ c ∈ sg, c.b = c'.b ∧ c.own = c'.own) ∨ w.heap.size ≤ c'.b := fun x hx => .inl (hids x hx)
  have em : ∀ m, m ≠ 0 → (gs.setIfInBounds 0 (Go.Conc.served g v))[m]? = gs[m]? := fun m hm => by rw [Array.getElem?_setIfInBounds_ne (Ne.symm hm)]
  have hpc := h.app (gs' := gs.setIfInBounds 0 (Go.Conc.served g v)) (w' := w') (u := ops) (sg' := s') (d' := d) (r' := r) (s' := s) (c' := c) (oc' := oc) (st' := st) (sm' := sm) (g' := Go.Conc.served g v) (by simp) (fun m x h1 _ hx => by rwa [em m h1] at hx)
    ⟨_, by rw [Array.getElem?_setIfInBounds_self_of_lt hil], .run (Alike.refl _) rfl⟩ (by rw [hsz]; exact Nat.le_refl _) happ (by rw [deaf_nomark t 0 ops hcalm.nm, h.deaf]) hsat hids'
    (h.sh.of_frame (hfr _ n1) (hfr _ n2) (hfr _ n3)) h.rs h.sl h.compl l1 l2 l3
  exact hk.2 dead p k _ w' sl _ q ex r s c oc st sm rfl hpc (hr.caller h (fun tau gw b hb hwa _ => ⟨b, by rw [em k h.k0]; exact hb, hwa⟩) (fun _ x => x) (fun x => x) (by cases c <;> simp) (by rw [hsz]; exact Nat.le_refl _) happ hsat hids' (fun b _ hb _ _ _ => hfr b hb))

/-- IT KNOWS WHAT THE WORKER KNEW AT ITS RELEASE. -/
theorem acquire_knows {n : Nat} {B : World} (hrel : Released t k p.G) (htr : TrB B n t) (hd : Deaf t 0 = 0) (fn : FuncId) (pos : String) :
    ∀ r0 op, t[r0]? = some op → op.act = .mark (.releaseMerge (stA p.G)) → t.heard r0 → Knows (t ++ MemOp.ofEvents 0 fn pos #[mkE (.acquire (stA p.G))]) 0 r0 := by
  intro r0 op hop hact hh
  have e : MemOp.ofEvents 0 fn pos #[mkE (.acquire (stA p.G))] = #[{ g := 0, fn, pos, act := .mark (.acquire (stA p.G)) }] := by simp [MemOp.ofEvents, mkE, MemAct.ofEvent]
  rw [e]
  have hl := lt_size_of_getElem? hop
  have hlast : (t ++ #[({ g := 0, fn, pos, act := .mark (.acquire (stA p.G)) } : MemOp)])[t.size]? = some { g := 0, fn, pos, act := .mark (.acquire (stA p.G)) } := by simp
  refine ⟨t.size, _, hlast, rfl, .inr (.single (.inr ⟨.marked (a := stA p.G) hl (.inr ?_) ?_ ?_, ?_, ?_⟩))⟩
  · rw [act?_old hl, act?_of hop, hact]
  · rw [act?_of hlast]
  · intro j h1 h2 he
    rw [act?_old h2] at he
    obtain ⟨op', ho', hoa⟩ := Option.map_eq_some_iff.1 he
    exact htr.norel op' (mem_of_getElem? ho') _ hoa
  · exact (heard_old hl).2 hh
  · refine ⟨0, by simp [Trace.g?], ?_⟩
    rw [deaf_old (Nat.le_refl _)]
    exact hd

/-- THE ACQUIRE: alone again, with what the worker has left behind. -/
theorem caller_acq (h : PC P B dead p k gs w t q ex r s .pass oc st sm sg d g) (hr : Rest P B dead p k gs w t ex r s .pass oc st sm sg) (h0 : gs[0]? = some a) (hal : Alike a g) (hd : d = 0)
    (hst : stepG P true g w = .go g' w #[mkE (.acquire (stA p.G))])
    (hK : ∀ s sw, r ≤ s → s ≤ p.All.length → p.Fin s sw → ((sg ++ sw).map Chunk.b).Nodup → (∀ c ∈ sw, c.own = true) → KC P B Post ⟨sg ++ sw, 0, .alone⟩ g') : ∃ m' ops, runT P (crowd gs w sl) 0 = (.next m', ops) ∧ Ends P Post m' (t ++ ops) := by
  have hil : 0 < gs.size := Nat.lt_of_le_of_lt (Nat.zero_le _) h.kl
  rcases hr with ⟨_, tau, gw, hwl, _⟩ | ⟨he, hwg⟩
  · have := hwl.st
    cases hph : tau.x.ph <;> rw [hph] at this <;> cases this
  subst he hd
  have hst0 : stepG P (0 == 0) a w = .go g' w #[mkE (.acquire (stA p.G))] := by rw [hal.step]; exact hst
  refine ⟨_, _, runT_crowd_go h0 hst0, ?_⟩
  obtain ⟨sw, hfin, hnd, hsw⟩ := hwg.left
  have hnodup : ((sg ++ sw).map Chunk.b).Nodup := by
    rw [List.map_append]
    refine List.nodup_append.2 ⟨h.sat.nodup, hnd, ?_⟩
    intro x hx y hy e
    obtain ⟨c1, hc1, rfl⟩ := List.mem_map.1 hx
    obtain ⟨c2, hc2, rfl⟩ := List.mem_map.1 hy
    exact (hsw c2 hc2).2.2.2.2.2 c1 hc1 e
  have hKk := hK s sw h.rs h.sl hfin hnodup fun x hx => (hsw x hx).1
  obtain ⟨r0, op, hop, hog, hact, hheard, hbef⟩ := id hwg.rel
  have hkn0 := acquire_knows (p := p) hwg.rel h.com.tr h.deaf a.frame.fn a.frame.place r0 op hop hact hheard
  have happ := appOk_grp (B := B) (s := sg) (g := 0) (es := #[mkE (.acquire (stA p.G))]) h.lts.2.2 h.geo.bg (fun e he => by simp at he; subst he; exact .acq _ rfl) a.frame.fn a.frame.place
  have htr := app_base h.com.tr happ (Nat.le_refl _) h.kn h.compat
  refine hKk.1 (fun b => dead b ∨ b = p.G) _ w sl _ q ⟨?_, rfl, getElem?_map_set hil, ?_, ⟨h.sat.os, h.sat.out, h.sat.size, h.sat.low, fun x hx => ?_, fun x hx => ?_, hnodup⟩, fun x hx hdd => ?_, fun i x hx hm => ?_⟩
  · have hc := h.com.next (gs' := (gs.map (woken P a g' w)).setIfInBounds 0 g') (i := 0) (.inl rfl) happ.gs (by simp) hil (fun m x h1 h2 hx => by
      obtain ⟨y, hy, rfl⟩ := getElem?_map_set_ne (Ne.symm h1) hx
      rw [woken_quitsD (h.com.leav m y h1 h2 hy)]; exact hy) (Nat.le_refl _) htr
    exact ⟨hc.tr, hc.leav, hc.above, hc.base, fun b hb => hb.elim (hc.deadlt b) fun e => by rw [e]; exact ⟨h.geo.bg, h.lts.2.2⟩⟩
  · rw [Deaf_own, h.deaf]; rfl
  · rcases List.mem_append.1 hx with hx | hx
    · exact h.sat.here x hx
    · exact (hsw x hx).2.1
  · rcases List.mem_append.1 hx with hx | hx
    · exact h.sat.above x hx
    · exact (hsw x hx).2.2.1
  · rcases List.mem_append.1 hx with hx | hx
    · rcases hdd with e | e
      · exact h.sep.nd x hx e
      · exact (h.sep.o x hx).2.2 e
    · obtain ⟨_, _, _, e4, e5, _⟩ := hsw x hx
      rcases hdd with e | e
      · exact e4 e
      · exact e5.2.2 e
  · rcases app_me happ.gs h.kn i x hx hm with hk | ⟨hx', hb⟩
    · exact .inl hk
    have hlt := touchAt_lt hx'
    rcases hb with ⟨a', e1, e2, e3, e4⟩ | ho
    · exact .inr (DeadB.app _ (dead := fun b => dead b ∨ b = p.G) ⟨a', e1, .inl e2, e3, e4⟩ hlt)
    · rcases hbef i x hx' hm ho.1 with hb | ⟨a', e1, e2, e3, e4⟩
      · exact .inl (Knows.of_before (hb.app _) hkn0)
      · exact .inr (DeadB.app _ (dead := fun b => dead b ∨ b = p.G) ⟨a', e1, .inr e2, e3, .inr e4⟩ hlt)
end

end Go.Proofs.Ytdmhgajamepgoaa.Q
