/-
  OWN TEXT. PIPE: THE MACHINE, (7): THE CALLER's MOVES WHILE ONE PUMPS.
-/
import Derived.Test.YtdmhgajamepgoaaQj
set_option linter.unusedVariables false
set_option linter.unusedSimpArgs false
set_option linter.unusedSectionVars false
namespace Go.Proofs.Ytdmhgajamepgoaa.Q
open Go Go.Conc
open Go.ConcN (sumTo upd sumTo_upd upd_ne upd_same)

/-- The worker: at work, or gone. -/
def Rest (P : Program) (B : World) (dead : Nat → Prop) (p : PRec) (k : Nat) (gs : Array Goroutine) (w : World) (t : Trace) (ex : Nat → Prop) (r s : Nat) (c : CPh) (oc : Bool) (st sm : Int) (sg : List Chunk) : Prop :=
  (ex = (· = k) ∧ ∃ tau gw, WL P B dead p k gs w t r s c oc st sm sg tau gw ∧ J (WMv P B) tau gw) ∨ (ex = (fun _ => False) ∧ WG B dead p k w t s c oc st sm sg)

def KC (P : Program) (B : World) (Post : Value → World → Prop) : KP CX := fun tau g =>
  (∀ dead gs w sl t q, Alone P B dead gs w t q tau g → Ends P Post (crowd gs w sl) t) ∧
  (∀ dead p k gs w sl t q ex r s c oc st sm, tau.x = .pump p r c → PC P B dead p k gs w t q ex r s c oc st sm tau.sg tau.d g → Rest P B dead p k gs w t ex r s c oc st sm tau.sg → Ends P Post (crowd gs w sl) t)

section
variable {P : Program} {B : World} {Post : Value → World → Prop} {dead : Nat → Prop} {p : PRec} {k : Nat} {gs gs' : Array Goroutine} {w w' : World} {sl : Option (Nat × Nat)} {t u : Trace} {q q' : Nat → Nat} {ex ex' : Nat → Prop} {r s r' s' : Nat} {c c' : CPh} {oc oc' : Bool} {st sm st' sm' : Int} {sg sg' : List Chunk} {d d' : Nat} {a g g' gw gw' : Goroutine} {tau tau' : Tau WX}

theorem Rest.at (h : Rest P B dead p k gs w t ex r s c oc st sm sg) (dd : Nat) : Rest P B dead p k gs (w.at dd) t ex r s c oc st sm sg :=
  h.imp (fun ⟨e, tau, gw, h1, h2⟩ => ⟨e, tau, gw, h1.at dd, h2⟩) fun ⟨e, h⟩ => ⟨e, h.at dd⟩

/-- A step of the caller's by which the worker is let try again, or not, and goes on as it was. -/
theorem Rest.caller (h : Rest P B dead p k gs w t ex r s c oc st sm sg) (hp : PC P B dead p k gs w t q ex r s c oc st sm sg d g)
    (hwor : ∀ tau gw b, gs[k]? = some b → WAt P B tau c r b gw → tau.x.p = p → ∃ b', gs'[k]? = some b' ∧ WAt P B tau c' r' b' gw)
    (hst : ∀ ph, stOf c ph = some (st, sm) → stOf c' ph = some (st', sm')) (hstg : stGone c = some (st, sm) → stGone c' = some (st', sm')) (hrel : c = .recv ∨ c' ≠ .recv)
    (hw : w.heap.size ≤ w'.heap.size) (ha : AppOk B sg w.heap.size w'.heap.size (· = p.G) 0 u) (hsat : Sat B sg' w') (hids : ∀ c' ∈ sg', (∃ c ∈ sg, c.b = c'.b ∧ c.own = c'.own) ∨ w.heap.size ≤ c'.b)
    (hfr : ∀ b, b < w.heap.size → ¬ Mine sg b → b ≠ p.O → b ≠ p.S → b ≠ p.G → w'.heap[b]? = w.heap[b]?) : Rest P B dead p k gs' w' (t ++ u) ex r' s c' oc st' sm' sg' := by
  rcases h with ⟨e, tau, gw, h1, h2⟩ | ⟨e, h⟩
  · obtain ⟨b, hb, hwa⟩ := h1.wor
    exact .inl ⟨e, tau, gw, h1.caller hp.k0 hp.sep hp.geo (hwor tau gw b hb hwa h1.xp) (hst _ h1.st) hrel hw ha hsat hp.sat hids hfr hp.lts.2.2, h2⟩
  · exact .inr ⟨e, h.caller hp.k0 (hstg h.st) ha.gs hids hfr⟩

/-- A STEP OF THE CALLER's OWN MAKE ('.go'). -/
theorem caller_go (h : PC P B dead p k gs w t q ex r s c oc st sm sg d g) (hr : Rest P B dead p k gs w t ex r s c oc st sm sg) (h0 : gs[0]? = some a) {es : Array Event}
    (hst : stepG P true a w = .go g' w' es) (hK : KC P B Post ⟨sg', d', .pump p r c'⟩ g') (hrun : g'.status = .running) (hw : w.heap.size ≤ w'.heap.size)
    (happ : AppOk B sg w.heap.size w'.heap.size (· = p.G) 0 (MemOp.ofEvents 0 a.frame.fn a.frame.place es)) (hd : deafBehind d es = d') (hsat : Sat B sg' w') (hids : ∀ c' ∈ sg', (∃ c ∈ sg, c.b = c'.b ∧ c.own = c'.own) ∨ w.heap.size ≤ c'.b)
    (hsh : Sh p w' r s oc c'.closed st' sm') (hco : Compl p s c' oc)
    (hwk : ∀ tau gw b, WAt P B tau c r b gw → tau.x.p = p → WAt P B tau c' r (woken P a g' w' b) gw)
    (hstt : ∀ ph, stOf c ph = some (st, sm) → stOf c' ph = some (st', sm')) (hstg : stGone c = some (st, sm) → stGone c' = some (st', sm')) (hrel : c = .recv ∨ c' ≠ .recv)
    (hfr : ∀ b, b < w.heap.size → ¬ Mine sg b → b ≠ p.O → b ≠ p.S → b ≠ p.G → w'.heap[b]? = w.heap[b]?) :
    ∃ m' ops, runT P (crowd gs w sl) 0 = (.next m', ops) ∧ Ends P Post m' (t ++ ops) := by
  have hil : 0 < gs.size := Nat.lt_of_le_of_lt (Nat.zero_le _) h.kl
  refine ⟨_, _, runT_crowd_go h0 (show stepG P (0 == 0) a w = _ from hst), ?_⟩
  have hpc : PC P B dead p k ((gs.map (woken P a g' w')).setIfInBounds 0 g') w' (t ++ MemOp.ofEvents 0 a.frame.fn a.frame.place es) q ex r s c' oc st' sm' sg' d' g' :=
    h.app (by simp) (fun m x hm0 hmx hx => by
      obtain ⟨y, hy, rfl⟩ := getElem?_map_set_ne (Ne.symm hm0) hx
      rw [woken_quitsD (h.com.leav m y hm0 hmx hy)]; exact hy) ⟨g', getElem?_map_set hil, .run (Alike.refl g') hrun⟩ hw happ (by rw [Deaf_own, h.deaf]; exact hd) hsat hids hsh h.rs h.sl hco h.lts.1 h.lts.2.1 h.lts.2.2
  refine hK.2 dead p k _ w' sl _ q ex r s c' oc st' sm' rfl hpc (hr.caller h (fun tau gw b hb hwa hp => ⟨_, by rw [Array.getElem?_setIfInBounds_ne (Ne.symm h.k0), Array.getElem?_map, hb]; rfl, hwk tau gw b hwa hp⟩) hstt hstg hrel hw happ hsat hids hfr)

theorem Sh.of_frame {b : Bool} (h : Sh p w r s oc b st sm) (ho : w'.heap[p.O]? = w.heap[p.O]?) (hs : w'.heap[p.S]? = w.heap[p.S]?) (hg : w'.heap[p.G]? = w.heap[p.G]?) : Sh p w' r s oc b st sm := by
  exact ⟨ho.trans h.o, hs.trans h.s, hg.trans h.g⟩

theorem PC.notmine (h : PC P B dead p k gs w t q ex r s c oc st sm sg d g) : ¬ Mine sg p.O ∧ ¬ Mine sg p.S ∧ ¬ Mine sg p.G :=
  ⟨fun ⟨x, hx, hb, _⟩ => (h.sep.o x hx).1 hb, fun ⟨x, hx, hb, _⟩ => (h.sep.o x hx).2.1 hb, fun ⟨x, hx, hb, _⟩ => (h.sep.o x hx).2.2 hb⟩
theorem PC.notknown (h : PC P B dead p k gs w t q ex r s c oc st sm sg d g) : ¬ Known sg p.O ∧ ¬ Known sg p.S ∧ ¬ Known sg p.G :=
  ⟨fun ⟨x, hx, hb⟩ => (h.sep.o x hx).1 hb, fun ⟨x, hx, hb⟩ => (h.sep.o x hx).2.1 hb, fun ⟨x, hx, hb⟩ => (h.sep.o x hx).2.2 hb⟩

/-- AN OWN STEP, in this one world. -/
theorem caller_own1 (h : PC P B dead p k gs w t q ex r s c oc st sm sg d g) (hr : Rest P B dead p k gs w t ex r s c oc st sm sg) (h0 : gs[0]? = some a) (hal : Alike a g)
    (hm : ∃ g' w' es s', stepG P true g w = .go g' w' es ∧ Guar B sg w s' w' es ∧ KC P B Post ⟨s', deafBehind d es, .pump p r c⟩ g' ∧ J (CMv P B Post) ⟨s', deafBehind d es, .pump p r c⟩ g') : ∃ m' ops, runT P (crowd gs w sl) 0 = (.next m', ops) ∧ Ends P Post m' (t ++ ops) := by
  obtain ⟨g', w', es, s', hst, hgu, hk, hj⟩ := hm
  obtain ⟨n1, n2, n3⟩ := h.notmine
  obtain ⟨l1, l2, l3⟩ := h.lts
  have f1 := hgu.frame p.O l1 n1
  have f2 := hgu.frame p.S l2 n2
  have f3 := hgu.frame p.G l3 n3
  exact caller_go h hr h0 (by rw [hal.step]; exact hst) hk (jc_running hj) hgu.size (appOk_own hgu.size h.com.base h.sat.lt hgu.ev _ _) rfl hgu.sat hgu.ids (h.sh.of_frame f1 f2 f3) h.compl
    (fun tau gw b hwa _ => hwa.woken') (fun _ x => x) (fun x => x) (by cases c <;> simp) (fun b hb hmn _ _ _ => hgu.frame b hb hmn)

/-- AN OWN STEP. -/
theorem caller_own (h : PC P B dead p k gs w t q ex r s c oc st sm sg d g) (hr : Rest P B dead p k gs w t ex r s c oc st sm sg) (h0 : gs[0]? = some a) (hal : Alike a g)
    (hm : OwnMv P true B cstrict ⟨sg, d, .pump p r c⟩ g (fun t g => KC P B Post t g ∧ J (CMv P B Post) t g)) : ∃ m' ops, runT P (crowd gs w sl) 0 = (.next m', ops) ∧ Ends P Post m' (t ++ ops) := by
  obtain ⟨_, hm⟩ := hm
  obtain ⟨g', w', es, s', hst, hgu, _, hk, hj⟩ := hm w h.sat
  exact caller_own1 h hr h0 hal ⟨g', w', es, s', hst, hgu, hk, hj⟩

/-- A step at the group. -/
theorem caller_grp (h : PC P B dead p k gs w t q ex r s c oc st sm sg d g) (hr : Rest P B dead p k gs w t ex r s c oc st sm sg) (h0 : gs[0]? = some a) (hal : Alike a g) {es : Array Event}
    (hst : stepG P true g w = .go g' w' es) (hK : KC P B Post ⟨sg, deafBehind d es, .pump p r c'⟩ g') (hrun : g'.status = .running)
    (hsz : w'.heap.size = w.heap.size) (hos : w'.os = w.os) (hout : w'.output = w.output) (hne : ∀ b, b ≠ p.G → w'.heap[b]? = w.heap[b]?) (hG : w'.heap[p.G]? = some (wgO p.ty st' sm')) (hev : ∀ e ∈ es, EvG p.G w.heap.size 0 e)
    (hc : c.closed = true) (hc' : c'.closed = true) (hstt : ∀ ph, stOf c ph = some (st, sm) → stOf c' ph = some (st', sm')) (hstg : stGone c = some (st, sm) → stGone c' = some (st', sm')) :
    ∃ m' ops, runT P (crowd gs w sl) 0 = (.next m', ops) ∧ Ends P Post m' (t ++ ops) := by
  have hsat : Sat B sg w' := ⟨hos.trans h.sat.os, hout.trans h.sat.out, by rw [hsz]; exact h.sat.size, fun b hb => (hne b (by have := h.geo.bg; omega)).trans (h.sat.low b hb), fun x hx => (hne x.b (h.sep.o x hx).2.2).trans (h.sat.here x hx), h.sat.above, h.sat.nodup⟩
  have hcl : c'.closed = c.closed := hc'.trans hc.symm
  have hcr : c ≠ .recv := fun e => by rw [e] at hc; cases hc
  have hcr' : c' ≠ .recv := fun e => by rw [e] at hc'; cases hc'
  exact caller_go h hr h0 (by rw [hal.step]; exact hst) hK hrun (by rw [hsz]; exact Nat.le_refl _) (by rw [hsz]; exact appOk_grp h.lts.2.2 h.geo.bg hev _ _) rfl hsat (fun x hx => .inl ⟨x, hx, rfl, rfl⟩)
    ⟨(hne _ h.geo.og).trans h.sh.o, by rw [hcl]; exact (hne _ h.geo.sg).trans h.sh.s, hG⟩ ⟨fun _ e => (by rw [hc'] at e; cases e), fun e => h.compl.2 (.inr ⟨hcr, e.elim (fun e => by rw [e] at hc'; cases hc') (·.2)⟩)⟩
    (fun tau gw b hwa hp => by
      cases hwa with
      | run ha hb => exact WAt.woken' (.run ha hb)
      | park v zo z hb h1 h2 _ _ _ => exact absurd h2 hcr) hstt hstg (.inr hcr') (fun b _ _ _ _ hb => hne b hb)
end

end Go.Proofs.Ytdmhgajamepgoaa.Q
