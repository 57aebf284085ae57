/-
  OWN TEXT. PIPE: THE MACHINE, (2): a communication at a channel of one's own ('priv_run'), for either; the caller alone: that, and its end.
-/
import Derived.Test.YtdmhgajamepgoaaQe
set_option linter.unusedVariables false
set_option linter.unusedSimpArgs false
set_option linter.unusedSectionVars false
namespace Go.Proofs.Ytdmhgajamepgoaa.Q
open Go Go.Conc
open Go.ConcN (sumTo upd sumTo_upd upd_ne upd_same)

structure Alike (a g : Goroutine) : Prop where
  fr : a.frame = g.frame
  cs : a.callers = g.callers
  dy : a.dying = g.dying
theorem Alike.refl (g : Goroutine) : Alike g g := ⟨rfl, rfl, rfl⟩
theorem Alike.step {P : Program} {main : Bool} {a g : Goroutine} (h : Alike a g) (w : World) : stepG P main a w = stepG P main g w := stepG_same h.fr h.cs h.dy w
theorem Alike.wake {P : Program} {a g : Goroutine} (h : Alike a g) : mayWake P a = mayWake P g := by
  unfold mayWake; rw [h.fr]

/-- Operations that say nothing and touch nothing. -/
structure Calm (i n : Nat) (u : Trace) : Prop where
  gs : ∀ op ∈ u, op.g = i
  nt : ∀ op ∈ u, op.act.touch? = none
  low : ∀ op ∈ u, op.act.low n
  nm : ∀ op ∈ u, ∀ m, op.act ≠ .mark m

theorem deaf_nomark (t : Trace) (g : Nat) (u : Trace) (hu : ∀ op ∈ u, ∀ m, op.act ≠ .mark m) : Deaf (t ++ u) g = Deaf t g := by
  obtain ⟨l⟩ := u
  rw [Deaf_append]
  induction l generalizing t with
  | nil => rfl
  | cons y l ih =>
    have e1 : deafStep g (Deaf t g) y = Deaf t g := by
      unfold deafStep
      split
      · rename_i e; exact absurd e (hu y (by simp) _)
      · rename_i e; exact absurd e (hu y (by simp) _)
      · rfl
    rw [List.foldl_cons, e1]
    exact ih t fun op hop => hu op (by simp at hop ⊢; exact .inr hop)

theorem Calm.app {B : World} {s : List Chunk} {i n n' : Nat} {Gp : Nat → Prop} {u : Trace} (h : Calm i n u) (hn : n ≤ n') : AppOk B s n n' Gp i u :=
  ⟨h.gs, fun op hop => MemAct.low_mono hn (h.low op hop), fun op hop a e => h.nm op hop _ e, fun op hop y hy => by rw [h.nt op hop] at hy; cases hy⟩
theorem calm_nil (i n : Nat) : Calm i n #[] := ⟨by simp, by simp, by simp, by simp⟩

section
variable {B : World} {s : List Chunk} {w : World} {c : Nat} {o o' : Obj}

theorem setO_ids (s : List Chunk) (c : Nat) (o : Obj) : (setO s c o).map Chunk.b = s.map Chunk.b := by
  unfold setO
  rw [List.map_map]
  apply List.map_congr_left
  intro x _
  simp only [Function.comp]
  split <;> rfl
theorem mem_setO {s : List Chunk} {c : Nat} {o : Obj} {x : Chunk} (h : x ∈ setO s c o) : ∃ y ∈ s, y.b = x.b ∧ y.own = x.own ∧ ((x.b = c ∧ x.o = o) ∨ (x.b ≠ c ∧ x = y)) := by
  unfold setO at h
  obtain ⟨y, hy, rfl⟩ := List.mem_map.1 h
  refine ⟨y, hy, ?_⟩
  split
  · rename_i e; exact ⟨rfl, rfl, .inl ⟨e, rfl⟩⟩
  · rename_i e; exact ⟨rfl, rfl, .inr ⟨e, rfl⟩⟩

/-- One own block laid anew. -/
theorem Sat.set {w' : World} (h : Sat B s w) (hc : c < w.heap.size) (hB : B.heap.size ≤ c) (hos : w'.os = w.os) (hout : w'.output = w.output) (hh : w'.heap = w.heap.setIfInBounds c o) : Sat B (setO s c o) w' := by
  refine ⟨hos.trans h.os, hout.trans h.out, by rw [hh]; simpa using h.size, fun b hb => ?_, fun x hx => ?_, fun x hx => ?_, by rw [setO_ids]; exact h.nodup⟩
  · rw [hh, Array.getElem?_setIfInBounds_ne (by omega)]; exact h.low b hb
  · obtain ⟨y, hy, hb, _, ⟨e, eo⟩ | ⟨e, rfl⟩⟩ := mem_setO hx
    · rw [hh, e, eo]; simp [hc]
    · rw [hh, Array.getElem?_setIfInBounds_ne (fun e' => e e'.symm)]; exact h.here _ hy
  · obtain ⟨y, hy, hb, _, _⟩ := mem_setO hx
    exact hb ▸ h.above y hy
end

section
variable {P : Program} {B : World} {gs : Array Goroutine} {w : World} {sl : Option (Nat × Nat)} {X : Type} {tau : Tau X} {main : Bool} {a g : Goroutine} {i : Nat}

/-- A COMMUNICATION AT A CHANNEL OF ONE's OWN, at which nobody else offers anything. -/
theorem priv_run (hi : gs[i]? = some a) (hal : Alike a g) (hmain : (i == 0) = main) {K : KP X} (hm : PrivMv P main B tau g K) (hsat : Sat B tau.sg w)
    (hnp : ∀ c b, Mine tau.sg c → partners (gs.setIfInBounds i ph) c b = []) :
    ∃ v w' ops s', runT P (crowd gs w sl) i = (.next (crowd (gs.setIfInBounds i (Go.Conc.served g v)) w' sl), ops) ∧ K ⟨s', tau.d, tau.x⟩ (Go.Conc.served g v) ∧ Sat B s' w' ∧ w'.heap.size = w.heap.size ∧
      (∀ b, ¬ Mine tau.sg b → w'.heap[b]? = w.heap[b]?) ∧ (∀ c' ∈ s', ∃ c ∈ tau.sg, c.b = c'.b ∧ c.own = c'.own) ∧ Calm i w.heap.size ops := by
  obtain ⟨_, c, cap, buf, closed, s, r, hc, hcase⟩ := hm
  have hlt := (hsat.lt _ hc).2
  have hB := (hsat.lt _ hc).1
  have hat : w.heap[c]? = some (.chan cap buf closed s r false) := hsat.here _ hc
  have hmine : Mine tau.sg c := ⟨_, hc, rfl, rfl⟩
  have hids : ∀ o, ∀ c' ∈ setO tau.sg c o, ∃ c ∈ tau.sg, c.b = c'.b ∧ c.own = c'.own := fun o c' h => let ⟨y, hy, h1, h2, _⟩ := mem_setO h; ⟨y, hy, h1, h2⟩
  have hid : ∀ c' ∈ tau.sg, ∃ c ∈ tau.sg, c.b = c'.b ∧ c.own = c'.own := fun c' h => ⟨c', h, rfl, rfl⟩
  have hfr : ∀ o b, ¬ Mine tau.sg b → (w.heap.setIfInBounds c o)[b]? = w.heap[b]? := fun o b hb => Array.getElem?_setIfInBounds_ne (by rintro rfl; exact hb hmine)
  rcases hcase with ⟨v, z, rfl, hst, hroom, hfull⟩ | ⟨z, hst, hsome, hshut, hnone⟩
  · have hst' : stepG P (i == 0) a w = .comm g #[scase c v z] false .select w #[] := by rw [hmain, hal.step]; exact hst w hsat
    rcases Nat.lt_or_ge buf.size cap with h0 | h0
    · have e : g.finishComm P #[scase c v z] .select 0 undef false = Go.Conc.served g (.tuple #[goInt 0, .bool false]) := by simp [Goroutine.finishComm, commResult, scase, Go.Conc.served]
      have hrun := crowd_send_room (sl := sl) hi hst' hat h0 (hnp c _ hmine)
      rw [e] at hrun
      refine ⟨_, _, _, _, hrun, hroom h0, hsat.set hlt hB rfl rfl rfl, by simp [World.setChan], hfr _, hids _, ?_⟩
      exact ⟨by simp [MemOp.ofEvents], by simp [MemOp.ofEvents, MemAct.touch?], by simp [MemOp.ofEvents, MemAct.low, hlt], by simp [MemOp.ofEvents]⟩
    · have e : g.finishComm P #[scase c v z] .select (-1) undef false = Go.Conc.served g (.tuple #[goInt (-1), .bool false]) := by simp [Goroutine.finishComm, commResult, scase, Go.Conc.served]
      have hrun := crowd_default (sl := sl) hi hst' (fun cc hcc => by simp at hcc; subst hcc; exact ways_send_none hat h0 (hnp c _ hmine))
      rw [e] at hrun
      refine ⟨_, _, _, tau.sg, hrun, hfull h0, hsat, rfl, fun _ _ => rfl, hid, ?_⟩
      exact ⟨by simp [MemOp.ofEvents], by simp [MemOp.ofEvents], by simp [MemOp.ofEvents], by simp [MemOp.ofEvents]⟩
  · have hst' : stepG P (i == 0) a w = .comm g #[rcase c z] false .select w #[] := by rw [hmain, hal.step]; exact hst w hsat
    rcases Nat.eq_zero_or_pos buf.size with h0 | h0
    · obtain rfl : buf = #[] := Array.eq_empty_of_size_eq_zero h0
      cases closed with
      | true =>
        have e : g.finishComm P #[rcase c z] .select 0 z false = Go.Conc.served g (.tuple #[goInt 0, .bool false, z]) := by simp [Goroutine.finishComm, commResult, rcase, Go.Conc.served]
        have hrun := crowd_recv_closed (sl := sl) hi hst' hat (hnp c _ hmine)
        rw [e] at hrun
        refine ⟨_, _, _, tau.sg, hrun, hshut rfl rfl, hsat, rfl, fun _ _ => rfl, hid, ?_⟩
        exact ⟨by simp [MemOp.ofEvents], by simp [MemOp.ofEvents, MemAct.touch?], by simp [MemOp.ofEvents, MemAct.low, hlt], by simp [MemOp.ofEvents]⟩
      | false =>
        have e : g.finishComm P #[rcase c z] .select (-1) undef false = Go.Conc.served g (.tuple #[goInt (-1), .bool false, z]) := by simp [Goroutine.finishComm, commResult, rcase, Go.Conc.served]
        have hrun := crowd_default (sl := sl) hi hst' (fun cc hcc => by simp at hcc; subst hcc; exact ways_recv_none hat (hnp c _ hmine))
        rw [e] at hrun
        refine ⟨_, _, _, tau.sg, hrun, hnone rfl rfl, hsat, rfl, fun _ _ => rfl, hid, ?_⟩
        exact ⟨by simp [MemOp.ofEvents], by simp [MemOp.ofEvents], by simp [MemOp.ofEvents], by simp [MemOp.ofEvents]⟩
    · have e : g.finishComm P #[rcase c z] .select 0 (buf.getD 0 undef) true = Go.Conc.served g (.tuple #[goInt 0, .bool true, buf.getD 0 undef]) := by simp [Goroutine.finishComm, commResult, rcase, Go.Conc.served]
      have hrun := crowd_recv_buf (sl := sl) hi hst' hat h0 (hnp c _ hmine)
      rw [e] at hrun
      refine ⟨_, _, _, _, hrun, hsome h0, hsat.set hlt hB rfl rfl rfl, by simp [World.setChan], hfr _, hids _, ?_⟩
      exact ⟨by simp [MemOp.ofEvents], by simp [MemOp.ofEvents, MemAct.touch?], by simp [MemOp.ofEvents, MemAct.low, hlt], by simp [MemOp.ofEvents]⟩
end

section
variable {P : Program} {B : World} {dead : Nat → Prop} {gs : Array Goroutine} {w : World} {sl : Option (Nat × Nat)} {t : Trace} {q : Nat → Nat} {tau : Tau CX} {g : Goroutine}

theorem offers_quits {k d : Nat} {x : Goroutine} (h : QuitsD P k d x) (c : Nat) (b : Bool) : offersAt x c b = [] := by
  rcases h.status with e | e <;> exact offersAt_of_not_blocked (by rw [e]; simp) c b

theorem Alone.partners (h : Alone P B dead gs w t q tau g) (c : Nat) (b : Bool) : partners (gs.setIfInBounds 0 ph) c b = [] :=
  partners_nil fun j x hj => by
    rcases getElem?_stand gs 0 j x hj with ⟨_, rfl⟩ | ⟨hne, hx⟩
    · exact offersAt_ph c b
    · exact offers_quits (h.com.leav j x hne (fun y => y) hx) c b

theorem Alone.priv (h : Alone P B dead gs w t q tau g) {K : KP CX} (hm : PrivMv P true B tau g K) (d : Nat) :
    ∃ gs' w' ops s' g', runT P (crowd gs (w.at d) sl) 0 = (.next (crowd gs' w' sl), ops) ∧ Alone P B dead gs' w' (t ++ ops) q ⟨s', tau.d, .alone⟩ g' ∧ K ⟨s', tau.d, .alone⟩ g' := by
  obtain ⟨v, w', ops, s', hst, hk, hsat, hsz, _, hids, hcalm⟩ := priv_run (sl := sl) (w := w.at d) h.g0 (Alike.refl g) rfl hm (h.sat.at d) (fun c b _ => h.partners c b)
  have hil : 0 < gs.size := (Array.getElem?_eq_some_iff.1 h.g0).1
  refine ⟨_, w', ops, s', _, hst, ?_, by rw [← h.x]; exact hk⟩
  refine h.app (by simp) (fun m x h0 hx => by rwa [Array.getElem?_setIfInBounds_ne (Ne.symm h0)] at hx) (by rw [Array.getElem?_setIfInBounds_self_of_lt hil]) (by rw [hsz]; exact Nat.le_refl _) (hcalm.app (by rw [hsz]; exact Nat.le_refl _)) (by rw [deaf_nomark t 0 ops hcalm.nm, h.deaf]) hsat (fun c' hc' => let ⟨c, a, b, _⟩ := hids c' hc'; .inl ⟨c, a, b⟩)

/-- THE END. -/
theorem Alone.fin (h : Alone P B dead gs w t q tau g) (Post : Value → World → Prop) (hd : tau.d = 0) (d : Nat)
    (hf : ∀ w, Sat B tau.sg w → ∃ v es, stepG P true g w = .ended (.done v) w es ∧ (∀ e ∈ es, EvOk B tau.sg w.heap.size w.heap.size e) ∧ Post v w) (sl' : Option (Nat × Nat)) :
    ∃ o w' ops, runT P (crowd gs (w.at d) sl') 0 = (.ended o w', ops) ∧ Good P Post (crowd gs w sl) o w' (t ++ ops) := by
  obtain ⟨v, es, hst, hev, hp⟩ := hf (w.at d) (h.sat.at d)
  have happ : AppOk B tau.sg w.heap.size w.heap.size (fun _ => False) 0 (MemOp.ofEvents 0 g.frame.fn g.frame.place es) := appOk_own (Nat.le_refl _) h.com.base h.sat.lt hev _ _
  have htr := app_base h.com.tr happ (Nat.le_refl _) h.kn (compat_dead h.nd (fun b hb => (h.com.deadlt b hb).1) 0)
  have hkn := app_me happ.gs h.kn
  refine ⟨.done v, w.at d, _, runT_many_ended h.g0 (show stepG P (0 == 0) g (w.at d) = _ from hst), v, rfl, hp, htr.clean, ?_, ⟨fun x hx => ?_, rfl⟩, fun j x hx hj => ?_⟩
  · intro i g' hg' hne hcount
    obtain ⟨x, hx, hmem, hk⟩ := hcount
    rcases hkn i x hx hmem with ⟨qq, z, h1, h2, h3⟩ | ⟨hx', hb⟩
    · refine ⟨qq, by simp [Trace.g?, h1, h2], ?_⟩
      rcases h3 with rfl | h3
      · simp [Trace.g?, h1] at hg'
        exact absurd (hg'.symm.trans h2) hne
      · exact h3
    · obtain ⟨a, _, _, hat, hgh⟩ := hb
      have hlt := touchAt_lt hx'
      rcases hgh with e | e
      · rw [← Go.Conc.g?_old (u := MemOp.ofEvents 0 g.frame.fn g.frame.place es) hlt, hg'] at e
        cases e
        exact absurd rfl hne
      · rcases hk with hk | hk
        · exact absurd hat hk
        · exact absurd ((heard_old hlt).1 hk) e
  · obtain ⟨j, hj⟩ := List.mem_iff_getElem?.1 hx
    rw [List.getElem?_drop] at hj
    exact ⟨_, (h.com.leav (1 + j) x (by omega) (fun y => y) (by simpa [crowd] using hj)).leaves⟩
  · have hq := h.com.leav j x (by omega) (fun y => y) hx
    refine ⟨q j, ?_⟩
    have e : (t ++ MemOp.ofEvents 0 g.frame.fn g.frame.place es).deaf j (t ++ MemOp.ofEvents 0 g.frame.fn g.frame.place es).size = Deaf t j :=
      Deaf_other t (g := j) (g' := 0) (by omega) _ (fun op hop => by obtain ⟨e, _, hop⟩ := Go.Conc.mem_ofEvents hop; subst hop; rfl)
    rw [e]
    exact hq.hears _
end

end Go.Proofs.Ytdmhgajamepgoaa.Q
