/-
  OWN TEXT. PIPE: THE MACHINE, (8): operations that touch nothing and say nothing ('Calm2'); a communication at the channels turns the machine, not the trace ('PC.comm', 'WL.comm').
-/
import Derived.Test.YtdmhgajamepgoaaQk
set_option linter.unusedVariables false
set_option linter.unusedSimpArgs false
set_option linter.unusedSectionVars false
namespace Go.Proofs.Ytdmhgajamepgoaa.Q
open Go Go.Conc
open Go.ConcN (sumTo upd sumTo_upd upd_ne upd_same)

structure Calm2 (n : Nat) (u : Trace) : Prop where
  nt : ∀ op ∈ u, op.act.touch? = none
  low : ∀ op ∈ u, op.act.low n
  nm : ∀ op ∈ u, ∀ m, op.act ≠ .mark m
theorem Calm.two {i n : Nat} {u : Trace} (h : Calm i n u) : Calm2 n u := ⟨h.nt, h.low, h.nm⟩

theorem TrB.calm {B : World} {n : Nat} {t u : Trace} (h : TrB B n t) (hu : Calm2 n u) : TrB B n (t ++ u) := by
  obtain ⟨l⟩ := u
  induction l generalizing t with
  | nil => simpa using h
  | cons y l ih =>
    have e : t ++ (y :: l).toArray = (t ++ #[y]) ++ l.toArray := by apply Array.ext'; simp
    have hy : y ∈ (y :: l).toArray := by simp
    rw [e]
    refine ih (h.still (g := y.g) (Nat.le_refl _) fun op hop => ?_) ⟨fun op hop => hu.nt op (by simp at hop ⊢; exact .inr hop), fun op hop => hu.low op (by simp at hop ⊢; exact .inr hop), fun op hop => hu.nm op (by simp at hop ⊢; exact .inr hop)⟩
    simp at hop
    subst hop
    exact ⟨rfl, hu.nt _ hy, hu.low _ hy, fun a ha => hu.nm _ hy _ ha⟩
theorem touch_calm {n : Nat} {t u : Trace} (hu : Calm2 n u) {i : Nat} {x : Touch} (hx : touchAt (t ++ u) i = some x) : i < t.size ∧ touchAt t i = some x := by
  rcases touchAt_cases hx with h' | ⟨_, op, hop, _, hy⟩
  · exact h'
  · rw [hu.nt op hop] at hy; cases hy

section
variable {P : Program} {B : World} {Post : Value → World → Prop} {dead : Nat → Prop} {p : PRec} {k : Nat} {gs gs' : Array Goroutine} {w w' : World} {sl : Option (Nat × Nat)} {t u : Trace} {q q' : Nat → Nat} {ex ex' : Nat → Prop} {r s r' s' : Nat} {c c' : CPh} {oc oc' : Bool} {st sm st' sm' : Int} {sg sg' : List Chunk} {d d' : Nat} {a g g' gw gw' : Goroutine} {tau tau' : Tau WX}

theorem Com.calm (h : Com P B dead gs w t q ex) (hu : Calm2 w.heap.size u) : Com P B dead gs w (t ++ u) q ex :=
  ⟨h.tr.calm hu, fun i x h0 hx hi => by rw [deaf_nomark t i u hu.nm]; exact h.leav i x h0 hx hi, fun j hj => by rw [deaf_nomark t j u hu.nm]; exact h.above j hj, h.base, h.deadlt⟩
theorem PC.calm (h : PC P B dead p k gs w t q ex r s c oc st sm sg d g) (hu : Calm2 w.heap.size u) : PC P B dead p k gs w (t ++ u) q ex r s c oc st sm sg d g := by
  refine ⟨h.com.calm hu, h.k0, h.kl, h.cal, by rw [deaf_nomark t 0 u hu.nm]; exact h.deaf, h.sat, h.sep, h.geo, h.sh, h.rs, h.sl, h.compl, fun j x hx hm => ?_⟩
  obtain ⟨hj, hx'⟩ := touch_calm hu hx
  rcases h.kn j x hx' hm with hk | hb | ho
  · exact .inl (hk.app u)
  · exact .inr (.inl (hb.app u hj))
  · exact .inr (.inr (ho.app u hj (n := w.heap.size) (fun z hz => .inl ⟨z, hz, rfl, rfl⟩) fun a ha => h.com.tr.lowc hx' ha))
theorem Released.calm {n : Nat} (h : Released t k p.G) (hu : Calm2 n u) : Released (t ++ u) k p.G :=
  h.app u fun j op x hj hop hx _ => by
    rcases getElem?_append_cases hop with ⟨hlt, _⟩ | ⟨_, h'⟩
    · omega
    · rw [hu.nt op h'] at hx; cases hx
theorem WL.calm (h : WL P B dead p k gs w t r s c oc st sm sg tau gw) (hlow : TrB B w.heap.size t) {n : Nat} (hu : Calm2 n u) : WL P B dead p k gs w (t ++ u) r s c oc st sm sg tau gw := by
  refine ⟨h.wor, h.xp, h.xs, h.oc, h.st, by rw [deaf_nomark t k u hu.nm]; exact h.deaf, h.sat, h.sep, h.dis, h.stopped, fun j x hx hm => ?_, fun e => ⟨(h.left e).1, (h.left e).2.calm hu⟩⟩
  obtain ⟨hj, hx'⟩ := touch_calm hu hx
  rcases h.kn j x hx' hm with hk | hb | ho
  · exact .inl (hk.app u)
  · exact .inr (.inl (hb.app u hj))
  · exact .inr (.inr (ho.app u hj (n := w.heap.size) (fun z hz => .inl ⟨z, hz, rfl, rfl⟩) fun a ha => hlow.lowc hx' ha))
theorem Rest.calm (h : Rest P B dead p k gs w t ex r s c oc st sm sg) (hlow : TrB B w.heap.size t) {n : Nat} (hu : Calm2 n u) : Rest P B dead p k gs w (t ++ u) ex r s c oc st sm sg :=
  h.imp (fun ⟨e, tau, gw, h1, h2⟩ => ⟨e, tau, gw, h1.calm hlow hu, h2⟩) fun ⟨e, h⟩ => ⟨e, h.oc, h.st, h.left, h.rel.calm hu⟩

/-- A turn of the machine that the trace does not see: the blocks of no chunk and of no group are turned. -/
theorem PC.comm (h : PC P B dead p k gs w t q ex r s c oc st sm sg d g) (hs : gs'.size = gs.size) (hg : ∀ m x, m ≠ 0 → ¬ ex m → gs'[m]? = some x → gs[m]? = some x)
    (hcal : ∃ a, gs'[0]? = some a ∧ CAt P B p sg r' s' c oc' sm a g') (hsz : w'.heap.size = w.heap.size) (hos : w'.os = w.os) (hout : w'.output = w.output) (hne : ∀ b, b ≠ p.O → w'.heap[b]? = w.heap[b]?)
    (hO : w'.heap[p.O]? = some (.chan p.cap ((p.All.take s').drop r').toArray oc' s' r' false)) (hrs : r' ≤ s') (hsl : s' ≤ p.All.length) (hco : Compl p s' c oc') :
    PC P B dead p k gs' w' t q ex r' s' c oc' st sm sg d g' := by
  refine ⟨⟨by rw [hsz]; exact h.com.tr, fun m x h0 hm hx => h.com.leav m x h0 hm (hg m x h0 hm hx), fun j hj => h.com.above j (by omega), by rw [hsz]; exact h.com.base, fun b hb => by rw [hsz]; exact h.com.deadlt b hb⟩, h.k0, by rw [hs]; exact h.kl, hcal, h.deaf,
    ⟨hos.trans h.sat.os, hout.trans h.sat.out, by rw [hsz]; exact h.sat.size, fun b hb => (hne b (by have := h.geo.bo; omega)).trans (h.sat.low b hb), fun x hx => (hne x.b (h.sep.o x hx).1).trans (h.sat.here x hx), h.sat.above, h.sat.nodup⟩, h.sep, h.geo,
    ⟨hO, (hne _ (Ne.symm h.geo.os)).trans h.sh.s, (hne _ (Ne.symm h.geo.og)).trans h.sh.g⟩, hrs, hsl, hco, h.kn⟩
theorem WL.comm (h : WL P B dead p k gs w t r s c oc st sm sg tau gw) {ph' : WPh} (hwor : ∃ b, gs'[k]? = some b ∧ WAt P B ⟨tau.sg, tau.d, ⟨tau.x.p, s', ph'⟩⟩ c r' b gw') (hoc : oc' = ph'.closed) (hst : stOf c ph' = some (st, sm))
    (hstop : ph' = .run true → c ≠ .recv) (hleft : ph'.released = true → ph' = tau.x.ph ∧ s' = s) (hsz : w'.heap.size = w.heap.size) (hos : w'.os = w.os) (hout : w'.output = w.output) (hne : ∀ b, b ≠ p.O → w'.heap[b]? = w.heap[b]?) (hbo : B.heap.size ≤ p.O) :
    WL P B dead p k gs' w' t r' s' c oc' st sm sg ⟨tau.sg, tau.d, ⟨tau.x.p, s', ph'⟩⟩ gw' := by
  refine ⟨hwor, h.xp, rfl, hoc, hst, h.deaf, ⟨hos.trans h.sat.os, hout.trans h.sat.out, by rw [hsz]; exact h.sat.size, fun b hb => (hne b (by omega)).trans (h.sat.low b hb), fun x hx => (hne x.b (h.sep.o x hx).1).trans (h.sat.here x hx), h.sat.above, h.sat.nodup⟩, h.sep, h.dis, hstop, h.kn, fun e => ?_⟩
  obtain ⟨e1, e2⟩ := hleft e
  obtain ⟨h1, h2⟩ := h.left (e1 ▸ e)
  subst e2
  exact ⟨h1.keep (fun b hb hB hn n1 n2 n3 => hne b n1) (fun x hx => .inl ⟨x, hx, rfl, rfl⟩), h2⟩
theorem WG.comm (h : WG B dead p k w t s c oc st sm sg) (hne : ∀ b, b ≠ p.O → w'.heap[b]? = w.heap[b]?) : WG B dead p k w' t s c oc st sm sg :=
  ⟨h.oc, h.st, h.left.keep (fun b hb hB hn n1 n2 n3 => hne b n1) (fun x hx => .inl ⟨x, hx, rfl, rfl⟩), h.rel⟩

theorem Rest.exk (h : Rest P B dead p k gs w t ex r s c oc st sm sg) : ∀ j, ex j → j = k := by
  rcases h with ⟨e, _⟩ | ⟨e, _⟩
  · subst e; exact fun _ x => x
  · subst e; exact fun _ x => x.elim

theorem PC.partners (h : PC P B dead p k gs w t q ex r s c oc st sm sg d g) (hex : ∀ j, ex j → j = k) {x : Nat} {b : Bool} (hk : ∀ y, gs[k]? = some y → ex k → offersAt y x b = []) : partners (gs.setIfInBounds 0 ph) x b = [] :=
  partners_nil fun j y hj => by
    rcases getElem?_stand gs 0 j y hj with ⟨_, rfl⟩ | ⟨hne, hy⟩
    · exact offersAt_ph x b
    · by_cases he : ex j
      · obtain rfl := hex j he
        exact hk y hy he
      · exact offers_quits (h.com.leav j y hne he hy) x b

theorem WAt.offers {b : Goroutine} (h : WAt P B tau c r b gw) {x : Nat} {f : Bool} (h1 : x ≠ tau.x.p.O) (h2 : x ≠ tau.x.p.S) : offersAt b x f = [] := by
  cases h with
  | run _ hr => exact offersAt_of_not_blocked (by rw [hr]; simp) x f
  | park v zo z hb _ _ _ _ _ =>
    rw [hb]
    cases f
    · exact offersAt_sel_recv (Ne.symm h2)
    · exact offersAt_sel_off (Ne.symm h1)
/-- At O it offers no receive; at S no send; at O a send only where it is parked. -/
theorem WAt.offersO {b : Goroutine} (h : WAt P B tau c r b gw) (hos : tau.x.p.O ≠ tau.x.p.S) : offersAt b tau.x.p.O false = [] ∧ offersAt b tau.x.p.S true = [] ∧ (b.status = .running → offersAt b tau.x.p.O true = []) := by
  cases h with
  | run _ hr => exact ⟨offersAt_of_not_blocked (by rw [hr]; simp) _ _, offersAt_of_not_blocked (by rw [hr]; simp) _ _, fun _ => offersAt_of_not_blocked (by rw [hr]; simp) _ _⟩
  | park v zo z hb _ _ _ _ _ =>
    rw [hb]
    exact ⟨offersAt_sel_recv (Ne.symm hos), offersAt_sel_off hos, fun e => by cases e⟩

theorem served_recv {g : Goroutine} {P : Program} {cs : Array CommCase} {v : Value} {ok : Bool} : g.finishComm P cs (.recv true) 0 v ok = Go.Conc.served g (.tuple #[v, .bool ok]) := by
  rw [finishComm_recv]; simp [recvd]
theorem served_sel {g : Goroutine} {P : Program} {O S : Nat} {v zo z x : Value} : g.finishComm P #[scase O v zo, rcase S z] .select 0 x false = Go.Conc.served g (.tuple #[goInt 0, .bool false, z]) := by
  simp [Goroutine.finishComm, commResult, scase, rcase, Go.Conc.served]
theorem served_sel1 {g : Goroutine} {P : Program} {O S : Nat} {v zo z : Value} : g.finishComm P #[scase O v zo, rcase S z] .select 1 z false = Go.Conc.served g (.tuple #[goInt 1, .bool false, z]) := by
  simp [Goroutine.finishComm, commResult, scase, rcase, Go.Conc.served]
end

end Go.Proofs.Ytdmhgajamepgoaa.Q
