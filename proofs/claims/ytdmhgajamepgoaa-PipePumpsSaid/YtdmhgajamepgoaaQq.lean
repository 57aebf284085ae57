/-
  OWN TEXT. PIPE: THE MACHINE, (13): the worker's moves, on: a channel of its own, poll, send.
-/
import Derived.Test.YtdmhgajamepgoaaQp
set_option linter.unusedVariables false
set_option linter.unusedSimpArgs false
set_option linter.unusedSectionVars false
namespace Go.Proofs.Ytdmhgajamepgoaa.Q
open Go Go.Conc
open Go.ConcN (sumTo upd sumTo_upd upd_ne upd_same)

section
variable {P : Program} {B : World} {Post : Value → World → Prop} {dead : Nat → Prop} {p : PRec} {k : Nat} {gs gs' : Array Goroutine} {w w' : World} {sl : Option (Nat × Nat)} {t u : Trace} {q q' : Nat → Nat} {ex ex' : Nat → Prop} {r s r' s' : Nat} {c c' : CPh} {oc oc' : Bool} {st sm st' sm' : Int} {sg sg' : List Chunk} {d d' : Nat} {a b g g' gw gw' : Goroutine} {tau tau' : Tau WX}

theorem CAt.offers {a : Goroutine} (h : CAt P B p sg r s c oc sm a g) {x : Nat} {f : Bool} (h1 : x ≠ p.O ∨ f = true) : offersAt a x f = [] := by
  cases h with
  | run _ hr => exact offersAt_of_not_blocked (by rw [hr]; simp) x f
  | park z ha _ _ _ _ =>
    rw [ha]
    cases f
    · rw [offersAt_parked_recv, if_neg]; rcases h1 with h | h
      · exact Ne.symm h
      · cases h
    · exact offersAt_parked_recv' ..
  | sem ha ho _ _ => simp [offersAt, ha, ho]

theorem PC.partnersW (h : PC P B dead p k gs w t q (· = k) r s c oc st sm sg d g) {x : Nat} {f : Bool} (hk : ∀ a, gs[0]? = some a → CAt P B p sg r s c oc sm a g → offersAt a x f = []) : Go.partners (gs.setIfInBounds k ph) x f = [] :=
  partners_nil fun j y hj => by
    rcases getElem?_stand gs k j y hj with ⟨_, rfl⟩ | ⟨hne, hy⟩
    · exact offersAt_ph x f
    · by_cases h0 : j = 0
      · subst h0
        obtain ⟨a, ha, hca⟩ := h.cal
        obtain rfl : a = y := Option.some.inj (ha.symm.trans hy)
        exact hk a ha hca
      · exact offers_quits (h.com.leav j y h0 hne hy) x f

/-- Behind a communication of the worker's that no one else takes part in. -/
theorem worker_comm (h : PC P B dead p k gs w t q (· = k) r s c oc st sm sg d g) (hwl : WL P B dead p k gs w t r s c oc st sm sg tau gw) {ph' : WPh} {gn : Goroutine} {ops : Trace}
    (hK : KW P B Post p r c sg d g ⟨tau.sg, tau.d, ⟨tau.x.p, s', ph'⟩⟩ gn) (hrun : gn.status = .running) (hph : tau.x.ph = .run false) (hph' : ph' = .run false ∨ (ph' = .run true ∧ c ≠ .recv))
    (hcal : ∀ a, gs[0]? = some a → CAt P B p sg r s c oc sm a g → CAt P B p sg r s' c oc sm a g) (hsz : w'.heap.size = w.heap.size) (hos : w'.os = w.os) (hout : w'.output = w.output) (hne : ∀ b, b ≠ p.O → w'.heap[b]? = w.heap[b]?)
    (hO : w'.heap[p.O]? = some (.chan p.cap ((p.All.take s').drop r).toArray oc s' r false)) (hrs : r ≤ s') (hsl : s' ≤ p.All.length) (hcalm : Calm2 w'.heap.size ops) : Ends P Post (crowd (gs.setIfInBounds k gn) w' sl) (t ++ ops) := by
  have hoc : oc = false := by rw [hwl.oc, hph]; rfl
  subst hoc
  obtain ⟨a, h0, hca⟩ := h.cal
  have hst : stOf c ph' = some (st, sm) := by
    have := hwl.st; rw [hph] at this
    rcases hph' with rfl | ⟨rfl, _⟩
    · exact this
    · cases c <;> exact this
  have hcl' : false = ph'.closed := by rcases hph' with e | ⟨e, _⟩ <;> rw [e] <;> rfl
  have hstop' : ph' = .run true → c ≠ .recv := fun e => by
    rcases hph' with e' | ⟨_, e'⟩
    · rw [e'] at e; cases e
    · exact e'
  have hrel' : ph'.released = true → ph' = tau.x.ph ∧ s' = s := fun e => by
    rcases hph' with e' | ⟨e', _⟩ <;> rw [e'] at e <;> cases e
  have hpc := h.comm (gs' := gs.setIfInBounds k gn) (w' := w') (r' := r) (s' := s') (oc' := false) (g' := g) (by simp) (fun m x h1 h2 hx => by rwa [Array.getElem?_setIfInBounds_ne (fun e => h2 e.symm)] at hx)
    ⟨a, by rw [Array.getElem?_setIfInBounds_ne h.k0]; exact h0, hcal a h0 hca⟩ hsz hos hout hne hO hrs hsl ⟨fun e => (by cases e), h.compl.2⟩
  have hwl' := hwl.comm (gs' := gs.setIfInBounds k gn) (w' := w') (r' := r) (s' := s') (oc' := false) (ph' := ph') (gw' := gn) ⟨gn, by rw [Array.getElem?_setIfInBounds_self_of_lt h.kl], .run (Alike.refl _) hrun⟩
    hcl' hst hstop' hrel' hsz hos hout hne h.geo.bo
  exact hK dead k _ w' sl _ q s' false st sm (hpc.calm hcalm) (hwl'.calm hpc.com.tr hcalm)

/-- A COMMUNICATION AT A CHANNEL OF ITS OWN. -/
theorem worker_priv (h : PC P B dead p k gs w t q (· = k) r s c oc st sm sg d g) (hwl : WL P B dead p k gs w t r s c oc st sm sg tau gw) (hb : gs[k]? = some b) (hal : Alike b gw)
    (hm : PrivMv P false B tau gw (fun t g' => KW P B Post p r c sg d g t g' ∧ J (WMv P B) t g')) : ∃ m' ops, runT P (crowd gs w sl) k = (.next m', ops) ∧ Ends P Post m' (t ++ ops) := by
  have n1 : ¬ Mine tau.sg p.O := fun ⟨x, hx, hb, _⟩ => (hwl.sep.o x hx).1 hb
  have n2 : ¬ Mine tau.sg p.S := fun ⟨x, hx, hb, _⟩ => (hwl.sep.o x hx).2.1 hb
  have n3 : ¬ Mine tau.sg p.G := fun ⟨x, hx, hb, _⟩ => (hwl.sep.o x hx).2.2 hb
  obtain ⟨l1, l2, l3⟩ := h.lts
  obtain ⟨v, w', ops, s', hst, ⟨hk, hj⟩, hsat, hsz, hfr, hids, hcalm⟩ := priv_run (sl := sl) (w := w) hb hal (k_ne h.k0) hm hwl.sat (fun x f hx => h.partnersW fun a ha hca => hca.offers (.inl (fun e => n1 (e ▸ hx))))
  refine ⟨_, ops, hst, ?_⟩
  obtain ⟨a, h0, hca⟩ := h.cal
  have hids' : ∀ c' ∈ s', (∃ c ∈ tau.sg, c.b = c'.b ∧ c.own = c'.own) ∨ w.heap.size ≤ c'.b := fun x hx => .inl (hids x hx)
  have hle : w.heap.size ≤ w'.heap.size := by rw [hsz]; exact Nat.le_refl _
  have hpc := h.worker (gs' := gs.setIfInBounds k (Go.Conc.served gw v)) (w' := w') (u := ops) (r' := r) (s' := s) (oc' := oc) (st' := st) (sm' := sm) rfl (W := hwl) (by simp) (fun m x h1 h2 hx => by rwa [Array.getElem?_setIfInBounds_ne (fun e => h2 e.symm)] at hx)
    ⟨a, by rw [Array.getElem?_setIfInBounds_ne h.k0]; exact h0, hca⟩ hle (hcalm.app hle) (mute_none fun op hop x a hx => by rw [hcalm.nt op hop] at hx; cases hx) (hsat.os.trans hwl.sat.os.symm) (hsat.out.trans hwl.sat.out.symm) (fun x hx => (hsat.low x hx).trans (hwl.sat.low x hx).symm)
    (fun x _ hmn _ _ _ => hfr x hmn) (h.sh.of_frame (hfr _ n1) (hfr _ n2) (hfr _ n3)) h.rs h.sl h.compl l3
  have hwl' := hwl.app (gs' := gs.setIfInBounds k (Go.Conc.served gw v)) (w' := w') (u := ops) (r' := r) (s' := s) (oc' := oc) (st' := st) (sm' := sm) (tau' := ⟨s', tau.d, tau.x⟩) (gw' := Go.Conc.served gw v) h.k0 h.com h.sat
    ⟨_, by rw [Array.getElem?_setIfInBounds_self_of_lt h.kl], .run (Alike.refl _) rfl⟩ hwl.xp hwl.xs hwl.oc hwl.st (by rw [deaf_nomark t k ops hcalm.nm]; exact hwl.deaf) hsat hids' hwl.stopped hcalm.gs l1 l2 l3
    (fun e => by
      obtain ⟨e1, e2⟩ := hwl.left e
      exact ⟨e1.keep (fun x hx _ hn _ _ _ => hfr x (fun ⟨z, hz, hzb, _⟩ => hn ⟨z, List.mem_append_right _ hz, hzb⟩)) (fun x hx => (List.mem_append.1 hx).elim (fun hx => .inl ⟨x, List.mem_append_left _ hx, rfl, rfl⟩) fun hx => (hids' x hx).imp (fun ⟨z, hz, e⟩ => ⟨z, List.mem_append_right _ hz, e⟩) id), e2.calm hcalm.two⟩)
  exact hk dead k _ w' sl _ q s oc st sm hpc hwl'

/-- O is open and the caller isn't receiving: S is closed, and it might. -/
theorem PC.unwhole (h : PC P B dead p k gs w t q ex r s c oc st sm sg d g) (hoc : oc = false) (hc : c ≠ .recv) : c.closed = true ∧ p.whole = false := by
  subst hoc
  constructor
  · cases c with
    | recv => exact absurd rfl hc
    | over => have := h.compl.2 (.inl rfl); cases this
    | _ => rfl
  · cases hw : p.whole with
    | false => rfl
    | true => have := h.compl.2 (.inr ⟨hc, hw⟩); cases this

theorem run_ne {ph : WPh} (h : stOf .recv ph = some (st, sm)) : True := trivial

/-- POLL. -/
theorem worker_poll (h : PC P B dead p k gs w t q (· = k) r s c oc st sm sg d g) (hwl : WL P B dead p k gs w t r s c oc st sm sg tau gw) (hb : gs[k]? = some b) (hal : Alike b gw) {z : Value} (hph : tau.x.ph = .run false)
    (hst : ∀ w, Sat B tau.sg w → stepG P false gw w = .comm gw #[rcase p.S z] false .select w #[])
    (h1 : KW P B Post p r c sg d g tau (Go.Conc.served gw (.tuple #[goInt (-1), .bool false, z]))) (h2 : p.whole = false → KW P B Post p r c sg d g ⟨tau.sg, tau.d, ⟨tau.x.p, tau.x.s, .run true⟩⟩ (Go.Conc.served gw (.tuple #[goInt 0, .bool false, z]))) :
    ∃ m' ops, runT P (crowd gs w sl) k = (.next m', ops) ∧ Ends P Post m' (t ++ ops) := by
  have hst' : stepG P (k == 0) b w = .comm gw #[rcase p.S z] false .select w #[] := by rw [k_ne h.k0, hal.step]; exact hst w hwl.sat
  have hps : partners (gs.setIfInBounds k ph) p.S true = [] := h.partnersW fun a ha hca => hca.offers (.inr rfl)
  have hS := h.sh.s
  have hoc : oc = false := by rw [hwl.oc, hph]; rfl
  by_cases hc : c = .recv
  · subst hc
    have hrun := crowd_default (sl := sl) hb hst' (fun cc hcc => by simp at hcc; subst hcc; exact ways_recv_none hS hps)
    have e : gw.finishComm P #[rcase p.S z] .select (-1) undef false = Go.Conc.served gw (.tuple #[goInt (-1), .bool false, z]) := by simp [Goroutine.finishComm, commResult, rcase, Go.Conc.served]
    rw [e] at hrun
    refine ⟨_, _, hrun, ?_⟩
    have e2 : (⟨tau.sg, tau.d, ⟨tau.x.p, s, .run false⟩⟩ : Tau WX) = tau := by rw [← hwl.xs, ← hph]
    exact worker_comm (w' := w) (s' := s) (ph' := .run false) h hwl (by rw [e2]; exact h1) rfl hph (.inl rfl) (fun _ _ x => x) rfl rfl rfl (fun _ _ => rfl) h.sh.o h.rs h.sl ⟨by simp [MemOp.ofEvents], by simp [MemOp.ofEvents], by simp [MemOp.ofEvents]⟩
  · have hcl := h.unwhole hoc hc
    replace h2 := h2 hcl.2
    replace hcl := hcl.1
    rw [hcl] at hS
    have hrun := crowd_recv_closed (sl := sl) hb hst' hS hps
    have e : gw.finishComm P #[rcase p.S z] .select 0 z false = Go.Conc.served gw (.tuple #[goInt 0, .bool false, z]) := by simp [Goroutine.finishComm, commResult, rcase, Go.Conc.served]
    rw [e] at hrun
    refine ⟨_, _, hrun, ?_⟩
    rw [hwl.xs] at h2
    have hl := h.lts.2.1
    exact worker_comm (w' := w) (s' := s) (ph' := .run true) h hwl h2 rfl hph (.inr ⟨rfl, hc⟩) (fun _ _ x => x) rfl rfl rfl (fun _ _ => rfl) h.sh.o h.rs h.sl ⟨by simp [MemOp.ofEvents, MemAct.touch?], by simp [MemOp.ofEvents, MemAct.low, hl], by simp [MemOp.ofEvents]⟩
end

end Go.Proofs.Ytdmhgajamepgoaa.Q
