/-
  OWN TEXT. PIPE: THE MACHINE, (12): THE WORKER's MOVES: its own steps, a channel of its own, poll, send.
-/
import Derived.Test.YtdmhgajamepgoaaQo
set_option linter.unusedVariables false
set_option linter.unusedSimpArgs false
set_option linter.unusedSectionVars false
namespace Go.Proofs.Ytdmhgajamepgoaa.Q
open Go Go.Conc
open Go.ConcN (sumTo upd sumTo_upd upd_ne upd_same)

/-- What the worker's moves are to lead to, the caller standing where it stands. -/
def KW (P : Program) (B : World) (Post : Value → World → Prop) (p : PRec) (r : Nat) (c : CPh) (sg : List Chunk) (d : Nat) (g : Goroutine) : KP WX := fun tau gw =>
  ∀ dead k gs w sl t q s oc st sm, PC P B dead p k gs w t q (· = k) r s c oc st sm sg d g → WL P B dead p k gs w t r s c oc st sm sg tau gw → Ends P Post (crowd gs w sl) t

section
variable {P : Program} {B : World} {Post : Value → World → Prop} {dead : Nat → Prop} {p : PRec} {k : Nat} {gs gs' : Array Goroutine} {w w' : World} {sl : Option (Nat × Nat)} {t u : Trace} {q q' : Nat → Nat} {ex ex' : Nat → Prop} {r s r' s' : Nat} {c c' : CPh} {oc oc' : Bool} {st sm st' sm' : Int} {sg sg' : List Chunk} {d d' : Nat} {a b g g' gw gw' : Goroutine} {tau tau' : Tau WX}

theorem k_ne {k : Nat} (h : k ≠ 0) : (k == 0) = false := by simp [h]

/-- A STEP OF THE WORKER's OWN MAKE ('.go'). -/
theorem worker_go (h : PC P B dead p k gs w t q (· = k) r s c oc st sm sg d g) (hwl : WL P B dead p k gs w t r s c oc st sm sg tau gw) (hb : gs[k]? = some b) {es : Array Event}
    (hst : stepG P false b w = .go gw' w' es) (hK : KW P B Post p r c sg d g tau' gw') (hrun : gw'.status = .running)
    (hxp : tau'.x.p = p) (hxs : tau'.x.s = s) (hoc : oc' = tau'.x.ph.closed) (hstt : stOf c tau'.x.ph = some (st', sm')) (hd : deafBehind tau.d es = tau'.d) (hsat : Sat B tau'.sg w')
    (hids : ∀ c' ∈ tau'.sg, (∃ c ∈ tau.sg, c.b = c'.b ∧ c.own = c'.own) ∨ w.heap.size ≤ c'.b) (hstop : tau'.x.ph = .run true → c ≠ .recv)
    (hcal : ∀ a, CAt P B p sg r s c oc sm a g → CAt P B p sg r s c oc' sm' (woken P b gw' w' a) g)
    (hw : w.heap.size ≤ w'.heap.size) (happ : AppOk B tau.sg w.heap.size w'.heap.size (· = p.G) k (MemOp.ofEvents k b.frame.fn b.frame.place es)) (hmu : Mute t (MemOp.ofEvents k b.frame.fn b.frame.place es) p.G)
    (hos : w'.os = w.os) (hout : w'.output = w.output) (hlow : ∀ b, b < B.heap.size → w'.heap[b]? = w.heap[b]?)
    (hfr : ∀ b, b < w.heap.size → ¬ Mine tau.sg b → b ≠ p.O → b ≠ p.S → b ≠ p.G → w'.heap[b]? = w.heap[b]?)
    (hsh : Sh p w' r s oc' c.closed st' sm') (hco : Compl p s c oc')
    (hleft : tau'.x.ph.released = true → Left B dead p w' (sg ++ tau'.sg) s ∧ Released (t ++ MemOp.ofEvents k b.frame.fn b.frame.place es) k p.G) :
    ∃ m' ops, runT P (crowd gs w sl) k = (.next m', ops) ∧ Ends P Post m' (t ++ ops) := by
  obtain ⟨l1, l2, l3⟩ := h.lts
  obtain ⟨a, h0, hca⟩ := h.cal
  refine ⟨_, _, runT_crowd_go hb (show stepG P (k == 0) b w = _ from by rw [k_ne h.k0]; exact hst), ?_⟩
  have hg : ∀ m x, m ≠ 0 → ¬ m = k → ((gs.map (woken P b gw' w')).setIfInBounds k gw')[m]? = some x → gs[m]? = some x := fun m x hm0 hmx hx => by
    obtain ⟨y, hy, rfl⟩ := getElem?_map_set_ne (Ne.symm hmx) hx
    rw [woken_quitsD (h.com.leav m y hm0 hmx hy)]; exact hy
  have hpc := h.worker (gs' := (gs.map (woken P b gw' w')).setIfInBounds k gw') (w' := w') (u := MemOp.ofEvents k b.frame.fn b.frame.place es) (r' := r) (s' := s) (oc' := oc') (st' := st') (sm' := sm') rfl (W := hwl) (by simp) hg
    ⟨_, by rw [Array.getElem?_setIfInBounds_ne h.k0, Array.getElem?_map, h0]; rfl, hcal a hca⟩ hw happ hmu hos hout hlow hfr hsh h.rs h.sl hco l3
  have hwl' := hwl.app (gs' := (gs.map (woken P b gw' w')).setIfInBounds k gw') (w' := w') (u := MemOp.ofEvents k b.frame.fn b.frame.place es) (r' := r) (s' := s) (oc' := oc') (st' := st') (sm' := sm') (tau' := tau') (gw' := gw') h.k0 h.com h.sat
    ⟨_, getElem?_map_set h.kl, .run (Alike.refl _) hrun⟩ hxp hxs hoc hstt (by rw [Deaf_own, hwl.deaf]; exact hd) hsat hids hstop happ.gs l1 l2 l3 hleft
  exact hK dead k _ w' sl _ q s oc' st' sm' hpc hwl'

/-- AN OWN STEP, in this one world. -/
theorem worker_own1 (h : PC P B dead p k gs w t q (· = k) r s c oc st sm sg d g) (hwl : WL P B dead p k gs w t r s c oc st sm sg tau gw) (hb : gs[k]? = some b) (hal : Alike b gw)
    (hm : ∃ g' w' es s', stepG P false gw w = .go g' w' es ∧ Guar B tau.sg w s' w' es ∧ (wstrict tau.x → ∀ e ∈ es, Event.mute e = true) ∧ KW P B Post p r c sg d g ⟨s', deafBehind tau.d es, tau.x⟩ g' ∧ J (WMv P B) ⟨s', deafBehind tau.d es, tau.x⟩ g') : ∃ m' ops, runT P (crowd gs w sl) k = (.next m', ops) ∧ Ends P Post m' (t ++ ops) := by
  obtain ⟨g', w', es, s', hst, hgu, hstr, hk, hj⟩ := hm
  obtain ⟨l1, l2, l3⟩ := h.lts
  have n1 : ¬ Mine tau.sg p.O := fun ⟨x, hx, hb, _⟩ => (hwl.sep.o x hx).1 hb
  have n2 : ¬ Mine tau.sg p.S := fun ⟨x, hx, hb, _⟩ => (hwl.sep.o x hx).2.1 hb
  have n3 : ¬ Mine tau.sg p.G := fun ⟨x, hx, hb, _⟩ => (hwl.sep.o x hx).2.2 hb
  have n3' : ¬ Known tau.sg p.G := fun ⟨x, hx, hb⟩ => (hwl.sep.o x hx).2.2 hb
  exact worker_go (tau' := ⟨s', deafBehind tau.d es, tau.x⟩) h hwl hb (by rw [hal.step]; exact hst) hk (jw_running hj) hwl.xp hwl.xs hwl.oc hwl.st rfl hgu.sat hgu.ids hwl.stopped (fun a ha => ha.woken) hgu.size
    (appOk_own hgu.size h.com.base hwl.sat.lt hgu.ev _ _) (mute_own hgu.ev n3 n3' l3 h.geo.bg _ _) (hgu.sat.os.trans hwl.sat.os.symm) (hgu.sat.out.trans hwl.sat.out.symm) (fun x hx => (hgu.sat.low x hx).trans (hwl.sat.low x hx).symm)
    (fun x hx hmn _ _ _ => hgu.frame x hx hmn) (h.sh.of_frame (hgu.frame _ l1 n1) (hgu.frame _ l2 n2) (hgu.frame _ l3 n3)) h.compl
    (fun e => by
      obtain ⟨e1, e2⟩ := hwl.left e
      refine ⟨e1.keep (fun x hx _ hn _ _ _ => hgu.frame x hx (fun ⟨z, hz, hzb, _⟩ => hn ⟨z, List.mem_append_right _ hz, hzb⟩)) (fun x hx => (List.mem_append.1 hx).elim (fun hx => .inl ⟨x, List.mem_append_left _ hx, rfl, rfl⟩) fun hx => (hgu.ids x hx).imp (fun ⟨z, hz, e⟩ => ⟨z, List.mem_append_right _ hz, e⟩) id), e2.app _ fun j op x hj' hop hx hg => ?_⟩
      rcases getElem?_append_cases hop with ⟨hlt, _⟩ | ⟨_, hmem⟩
      · omega
      · rw [(mute_touch (hstr e) op hmem).2.1] at hx; cases hx)

/-- AN OWN STEP. -/
theorem worker_own (h : PC P B dead p k gs w t q (· = k) r s c oc st sm sg d g) (hwl : WL P B dead p k gs w t r s c oc st sm sg tau gw) (hb : gs[k]? = some b) (hal : Alike b gw)
    (hm : OwnMv P false B wstrict tau gw (fun t g' => KW P B Post p r c sg d g t g' ∧ J (WMv P B) t g')) : ∃ m' ops, runT P (crowd gs w sl) k = (.next m', ops) ∧ Ends P Post m' (t ++ ops) := by
  obtain ⟨_, hm⟩ := hm
  obtain ⟨g', w', es, s', hst, hgu, hstr, hk, hj⟩ := hm w hwl.sat
  exact worker_own1 h hwl hb hal ⟨g', w', es, s', hst, hgu, hstr, hk, hj⟩
end

end Go.Proofs.Ytdmhgajamepgoaa.Q
