/-
  OWN TEXT. PIPE: THE MACHINE, (1): what is held of everybody but the two who work ('Com'); the caller alone beside goroutines that only leave ('Alone'): its steps.
-/
import Derived.Test.YtdmhgajamepgoaaQd
set_option linter.unusedVariables false
set_option linter.unusedSimpArgs false
set_option linter.unusedSectionVars false
namespace Go.Proofs.Ytdmhgajamepgoaa.Q
open Go Go.Conc
open Go.ConcN (sumTo upd sumTo_upd upd_ne upd_same)

/-- An atomic touch of a group that nobody uses any more. -/
def DeadB (dead : Nat → Prop) (t : Trace) (i : Nat) (x : Touch) : Prop := ∃ a, x.loc = .cell a ∧ dead a.block ∧ x.kind = .atomic ∧ (t.g? i = some 0 ∨ ¬ t.heard i)

theorem DeadB.app {dead : Nat → Prop} {t : Trace} {i : Nat} {x : Touch} (u : Trace) (h : DeadB dead t i x) (hi : i < t.size) : DeadB dead (t ++ u) i x := by
  obtain ⟨a, h1, h2, h3, h4⟩ := h
  exact ⟨a, h1, h2, h3, h4.imp (fun e => by rw [Go.Conc.g?_old hi]; exact e) fun e e' => e ((heard_old hi).1 e')⟩

structure Com (P : Program) (B : World) (dead : Nat → Prop) (gs : Array Goroutine) (w : World) (t : Trace) (q : Nat → Nat) (ex : Nat → Prop) : Prop where
  tr : TrB B w.heap.size t
  leav : ∀ i x, i ≠ 0 → ¬ ex i → gs[i]? = some x → QuitsD P (q i) (Deaf t i) x
  above : ∀ j, gs.size ≤ j → Deaf t j = 0
  base : B.heap.size ≤ w.heap.size
  deadlt : ∀ b, dead b → B.heap.size ≤ b ∧ b < w.heap.size

def Ends (P : Program) (Post : Value → World → Prop) (m : Machine) (t : Trace) : Prop :=
  ∃ n last o w t', runNT P (n + 1) m t = (.ended o w, t') ∧ runN P n m = .next last ∧ step P last = .ended o w ∧ Good P Post last o w t'

theorem Ends.step {P : Program} {Post : Value → World → Prop} {m m' : Machine} {t ops : Trace} (hs : stepT P m = (.next m', ops)) (h : Ends P Post m' (t ++ ops)) : Ends P Post m t := by
  obtain ⟨n, last, o, w, t', h1, h2, h3, h4⟩ := h
  exact ⟨n + 1, last, o, w, t', by rw [runNT_succ_next hs]; exact h1, by rw [runN_succ_next hs]; exact h2, h3, h4⟩
theorem Ends.last {P : Program} {Post : Value → World → Prop} {m : Machine} {t ops : Trace} {o : Outcome} {w : World} (hs : stepT P m = (.ended o w, ops)) (h : Good P Post m o w (t ++ ops)) : Ends P Post m t :=
  ⟨0, m, o, w, t ++ ops, by simp [runNT, hs], rfl, by simp [Go.step, hs], h⟩

theorem Sat.at {B : World} {s : List Chunk} {w : World} (h : Sat B s w) (d : Nat) : Sat B s (w.at d) := ⟨h.os, h.out, h.size, h.low, h.here, h.above, h.nodup⟩
theorem Sat.lt {B : World} {s : List Chunk} {w : World} (h : Sat B s w) : ∀ c ∈ s, B.heap.size ≤ c.b ∧ c.b < w.heap.size := fun c hc =>
  ⟨h.above c hc, by
    have := h.here c hc
    rcases Nat.lt_or_ge c.b w.heap.size with h' | h'
    · exact h'
    · rw [Array.getElem?_eq_none h'] at this; cases this⟩
theorem Sat.mine {B : World} {s : List Chunk} {w : World} (h : Sat B s w) {b : Nat} (hb : Mine s b) : B.heap.size ≤ b ∧ b < w.heap.size := by
  obtain ⟨c, hc, rfl, _⟩ := hb; exact h.lt c hc
theorem Sat.known {B : World} {s : List Chunk} {w : World} (h : Sat B s w) {b : Nat} (hb : Known s b) : B.heap.size ≤ b ∧ b < w.heap.size := by
  obtain ⟨c, hc, rfl⟩ := hb; exact h.lt c hc

theorem sum3 {n k : Nat} {q : Nat → Nat} {i : Nat} (hi : i < n) (h : q i = k + 1) : sumTo n (upd q i k) + 1 = sumTo n q := by
  have : sumTo n (upd q i k) + (k + 1) = sumTo n q + k := by simpa [h] using sumTo_upd q k id hi
  omega

section
variable {P : Program} {B : World} {dead : Nat → Prop} {gs gs' : Array Goroutine} {w w' : World} {t u : Trace} {q : Nat → Nat} {ex : Nat → Prop}

/-- The others behind a step of goroutine i's (not a leaver's). -/
theorem Com.next (h : Com P B dead gs w t q ex) {i : Nat} (hi : i = 0 ∨ ex i) (hu : ∀ op ∈ u, op.g = i) (hs : gs'.size = gs.size) (hil : i < gs.size)
    (hg : ∀ m x, m ≠ 0 → ¬ ex m → gs'[m]? = some x → gs[m]? = some x) (hw : w.heap.size ≤ w'.heap.size) (htr : TrB B w'.heap.size (t ++ u)) : Com P B dead gs' w' (t ++ u) q ex := by
  refine ⟨htr, fun m x h0 hm hx => ?_, fun j hj => ?_, Nat.le_trans h.base hw, fun b hb => ⟨(h.deadlt b hb).1, Nat.lt_of_lt_of_le (h.deadlt b hb).2 hw⟩⟩
  · have hne : i ≠ m := by rintro rfl; rcases hi with e | e <;> contradiction
    rw [Deaf_other t hne u hu]
    exact h.leav m x h0 hm (hg m x h0 hm hx)
  · rw [Deaf_other t (g' := i) (by omega) u hu]
    exact h.above j (by omega)

/-- A LEAVER SLIPS. -/
theorem Com.slip (h : Com P B dead gs w t q ex) {i : Nat} {g : Goroutine} {sl' : Option (Nat × Nat)} {d : Nat} (hi0 : i ≠ 0) (hex : ¬ ex i) (hi : gs[i]? = some g) (hrun : g.status = .running) :
    ∃ (k : Nat) (g' : Goroutine) (es : Array Event), q i = k + 1 ∧ runT P (crowd gs (w.at d) sl') i = (.next (crowd ((gs.map (woken P g g' (w.at d))).setIfInBounds i g') (w.at d) sl'), MemOp.ofEvents i g.frame.fn g.frame.place es) ∧
      (∀ e ∈ es, e.mute = true) ∧ QuitsD P k (Deaf (t ++ MemOp.ofEvents i g.frame.fn g.frame.place es) i) g' := by
  have hq := h.leav i g hi0 hex hi
  cases hqi : q i with
  | zero => rw [hqi] at hq; rw [hq.1] at hrun; cases hrun
  | succ k =>
    rw [hqi] at hq
    rcases hq with ⟨hf, _⟩ | ⟨_, g', es, hm, hst, hq'⟩
    · rw [hf] at hrun; cases hrun
    have hi0' : (i == 0) = false := by simp [hi0]
    refine ⟨k, g', es, rfl, runT_crowd_go hi (by rw [hi0']; exact hst _), hm, ?_⟩
    rw [Deaf_own]
    exact hq'

theorem mute_touch {i : Nat} {fn : FuncId} {pos : String} {es : Array Event} (hm : ∀ e ∈ es, e.mute = true) : ∀ op ∈ MemOp.ofEvents i fn pos es, op.g = i ∧ op.act.touch? = none ∧ (∀ n, op.act.low n) ∧ ∀ a, op.act ≠ .mark (.release a) := by
  intro op hop
  obtain ⟨e, he, hop⟩ := Go.Conc.mem_ofEvents hop
  subst hop
  refine ⟨rfl, touch_mute (hm e he), fun n => low_mute (hm e he) n, fun a ha => ?_⟩
  have h1 := hm e he
  obtain ⟨loc, wr, sy⟩ := e
  cases loc <;> simp [Event.mute] at h1
  rename_i m
  cases m <;> simp [MemAct.ofEvent] at ha h1

/-- Entries that touch nothing leave all that is held of the trace. -/
theorem TrB.still {n n' : Nat} {g : Nat} (h : TrB B n t) (hn : n ≤ n') (hu : ∀ op ∈ u, op.g = g ∧ op.act.touch? = none ∧ op.act.low n' ∧ ∀ a, op.act ≠ .mark (.release a)) : TrB B n' (t ++ u) := by
  have hno : ∀ {i x}, touchAt (t ++ u) i = some x → touchAt t i = some x := by
    intro i x hx
    rcases touchAt_cases hx with ⟨_, h'⟩ | ⟨_, op, hop, _, hy⟩
    · exact h'
    · rw [(hu op hop).2.1] at hy; cases hy
  refine ⟨fun said => noRace_append (h.clean said) (fun op hop => (hu op hop).1) fun i x hx op hop y hy _ => (by rw [(hu op hop).2.1] at hy; cases hy), fun i x a hx => h.low i x a (hno hx), fun i x r hx => h.objs i x r (hno hx), seen_app (fun op hop => MemAct.low_mono hn (h.seen op hop)) fun op hop => (hu op hop).2.2.1, ?_⟩
  intro op hop
  rcases Array.mem_append.1 hop with h1 | h1
  · exact h.norel op h1
  · exact (hu op h1).2.2.2
theorem touch_still {g : Nat} (hu : ∀ op ∈ u, op.g = g ∧ op.act.touch? = none) {i : Nat} {x : Touch} (hx : touchAt (t ++ u) i = some x) : i < t.size ∧ touchAt t i = some x := by
  rcases touchAt_cases hx with h' | ⟨_, op, hop, _, hy⟩
  · exact h'
  · rw [(hu op hop).2] at hy; cases hy

/-- .. and a leaver's slip leaves what is held of the others. -/
theorem Com.slipped (h : Com P B dead gs w t q ex) {i k d : Nat} {g g' : Goroutine} {es : Array Event} {gs' : Array Goroutine} (hi0 : i ≠ 0) (hex : ¬ ex i) (hil : i < gs.size) (hm : ∀ e ∈ es, e.mute = true)
    (hq : QuitsD P k (Deaf (t ++ MemOp.ofEvents i g.frame.fn g.frame.place es) i) g') (hs : gs'.size = gs.size) (hself : gs'[i]? = some g') (hg : ∀ m x, m ≠ 0 → m ≠ i → ¬ ex m → gs'[m]? = some x → gs[m]? = some x) :
    Com P B dead gs' (w.at d) (t ++ MemOp.ofEvents i g.frame.fn g.frame.place es) (upd q i k) ex := by
  have hmt := mute_touch (i := i) (fn := g.frame.fn) (pos := g.frame.place) hm
  refine ⟨h.tr.still (g := i) (Nat.le_refl _) fun op hop => ⟨(hmt op hop).1, (hmt op hop).2.1, (hmt op hop).2.2.1 _, (hmt op hop).2.2.2⟩, fun m x h0 hmx hx => ?_, fun j hj => ?_, h.base, h.deadlt⟩
  · by_cases e : i = m
    · subst e
      rw [hself] at hx
      obtain rfl := Option.some.inj hx
      rw [upd_same]; exact hq
    · rw [upd_ne q k (Ne.symm e), Deaf_other t e _ fun op hop => (hmt op hop).1]
      exact h.leav m x h0 hmx (hg m x h0 (Ne.symm e) hmx hx)
  · rw [Deaf_other t (g' := i) (by omega) _ fun op hop => (hmt op hop).1]
    exact h.above j (by omega)
end

/-! ### THE CALLER ALONE -/
structure Alone (P : Program) (B : World) (dead : Nat → Prop) (gs : Array Goroutine) (w : World) (t : Trace) (q : Nat → Nat) (tau : Tau CX) (g : Goroutine) : Prop where
  com : Com P B dead gs w t q (fun _ => False)
  x : tau.x = .alone
  g0 : gs[0]? = some g
  deaf : Deaf t 0 = tau.d
  sat : Sat B tau.sg w
  nd : ∀ c ∈ tau.sg, ¬ dead c.b
  kn : ∀ i x, touchAt t i = some x → x.loc.isMemory = true → Knows t 0 i ∨ DeadB dead t i x

section
variable {P : Program} {B : World} {dead : Nat → Prop} {gs : Array Goroutine} {w : World} {sl sl' : Option (Nat × Nat)} {t : Trace} {q : Nat → Nat} {tau : Tau CX} {g : Goroutine}

theorem compat_dead {s : List Chunk} (hd : ∀ c ∈ s, ¬ dead c.b) (hB : ∀ b, dead b → B.heap.size ≤ b) (g : Nat) : Compat s (fun _ => False) g t (DeadB dead t) := by
  rintro i x a ⟨a', hl, hda, _, _⟩ _ hxa
  obtain rfl : a' = a := Loc.cell.inj (hl.symm.trans hxa)
  exact ⟨fun ⟨c, hc, hb, _⟩ => hd c hc (hb ▸ hda), fun ⟨c, hc, hb⟩ => absurd (hb ▸ hda) (hd c hc), fun h => h.elim⟩

/-- Whatever the caller appends that is allowed: Alone again. -/
theorem Alone.app (h : Alone P B dead gs w t q tau g) {gs' : Array Goroutine} {w' : World} {u : Trace} {s' : List Chunk} {d' : Nat} {g' : Goroutine}
    (hs : gs'.size = gs.size) (hg : ∀ m x, m ≠ 0 → gs'[m]? = some x → gs[m]? = some x) (hg0 : gs'[0]? = some g') (hw : w.heap.size ≤ w'.heap.size)
    (ha : AppOk B tau.sg w.heap.size w'.heap.size (fun _ => False) 0 u) (hd : Deaf (t ++ u) 0 = d') (hsat : Sat B s' w') (hids : ∀ c' ∈ s', (∃ c ∈ tau.sg, c.b = c'.b) ∨ w.heap.size ≤ c'.b) :
    Alone P B dead gs' w' (t ++ u) q ⟨s', d', .alone⟩ g' := by
  have hil : 0 < gs.size := (Array.getElem?_eq_some_iff.1 h.g0).1
  have htr := app_base h.com.tr ha hw h.kn (compat_dead h.nd (fun b hb => (h.com.deadlt b hb).1) 0)
  refine ⟨h.com.next (.inl rfl) ha.gs hs hil (fun m x h0 _ hx => hg m x h0 hx) hw htr, rfl, hg0, hd, hsat, fun c' hc' hdd => ?_, fun i x hx hm => ?_⟩
  · rcases hids c' hc' with ⟨c, hc, hb⟩ | hb
    · exact h.nd c hc (hb ▸ hdd)
    · have := (h.com.deadlt _ hdd).2; omega
  · exact (app_me ha.gs h.kn i x hx hm).imp id fun ⟨hx', hb⟩ => hb.app u (touchAt_lt hx')

theorem Alone.awake (h : Alone P B dead gs w t q tau g) (hr : g.status = .running) : ∀ x ∈ gs, awake x := by
  intro x hx
  obtain ⟨i, hi, rfl⟩ := Array.mem_iff_getElem.1 hx
  rcases Nat.eq_zero_or_pos i with rfl | hpos
  · have : gs[0] = g := by simpa [Array.getElem?_eq_getElem hi] using h.g0
    rw [this]; exact awake_of (.inl hr)
  · exact awake_of ((h.com.leav i _ (by omega) (fun x => x) (Array.getElem?_eq_getElem hi)).status.elim .inl fun x => .inr (.inr x))

theorem getElem?_map_set {f : Goroutine → Goroutine} {i : Nat} {g' : Goroutine} (hi : i < gs.size) : ((gs.map f).setIfInBounds i g')[i]? = some g' := by
  rw [Array.getElem?_setIfInBounds_self_of_lt (by simpa using hi)]
theorem getElem?_map_set_ne {f : Goroutine → Goroutine} {i m : Nat} {g' x : Goroutine} (hm : i ≠ m) (h : ((gs.map f).setIfInBounds i g')[m]? = some x) : ∃ y, gs[m]? = some y ∧ x = f y := by
  rw [Array.getElem?_setIfInBounds_ne hm, Array.getElem?_map] at h
  obtain ⟨y, hy, rfl⟩ := Option.map_eq_some_iff.1 h
  exact ⟨y, hy, rfl⟩

/-- AN OWN STEP. -/
theorem Alone.own (h : Alone P B dead gs w t q tau g) {K : KP CX} (hm : OwnMv P true B cstrict tau g K) (d : Nat) :
    ∃ gs' w' ops s' d' g', runT P (crowd gs (w.at d) sl') 0 = (.next (crowd gs' w' sl'), ops) ∧ Alone P B dead gs' w' (t ++ ops) q ⟨s', d', .alone⟩ g' ∧ K ⟨s', d', .alone⟩ g' := by
  obtain ⟨hrun, hm⟩ := hm
  obtain ⟨g', w', es, s', hst, hgu, _, hk⟩ := hm (w.at d) (h.sat.at d)
  have hil : 0 < gs.size := (Array.getElem?_eq_some_iff.1 h.g0).1
  refine ⟨_, w', _, s', _, g', runT_crowd_go h.g0 (show stepG P (0 == 0) g (w.at d) = _ from hst), ?_, by rw [← h.x]; exact hk⟩
  refine h.app (by simp) (fun m x h0 hx => ?_) (getElem?_map_set hil) hgu.size (appOk_own hgu.size h.com.base h.sat.lt hgu.ev _ _) (by rw [Deaf_own, h.deaf]) hgu.sat (fun c' hc' => (hgu.ids c' hc').imp (fun ⟨c, hc, hb, _⟩ => ⟨c, hc, hb⟩) id)
  obtain ⟨y, hy, rfl⟩ := getElem?_map_set_ne (Ne.symm h0) hx
  rw [woken_quitsD (h.com.leav m y h0 (fun x => x) hy)]
  exact hy

/-- A LEAVER's. -/
theorem Alone.slip (h : Alone P B dead gs w t q tau g) (hr : g.status = .running) {i : Nat} {x : Goroutine} (hi0 : i ≠ 0) (hi : gs[i]? = some x) (hrun : x.status = .running) (d : Nat) :
    ∃ gs' ops k, runT P (crowd gs (w.at d) sl') i = (.next (crowd gs' (w.at d) sl'), ops) ∧ q i = k + 1 ∧ gs'.size = gs.size ∧ i < gs.size ∧ Alone P B dead gs' (w.at d) (t ++ ops) (upd q i k) tau g := by
  obtain ⟨k, g', es, hk, hst, hmu, hq⟩ := h.com.slip (sl' := sl') (d := d) hi0 (fun x => x) hi hrun
  have hil : i < gs.size := (Array.getElem?_eq_some_iff.1 hi).1
  have hmt := mute_touch (i := i) (fn := x.frame.fn) (pos := x.frame.place) hmu
  refine ⟨_, _, k, hst, hk, by simp, hil, ?_⟩
  refine ⟨h.com.slipped hi0 (fun x => x) hil hmu hq (by simp) (getElem?_map_set hil) (fun m y h0 hne _ hy => ?_), h.x, ?_, ?_, h.sat.at d, h.nd, fun j y hy hm => ?_⟩
  · obtain ⟨z, hz, rfl⟩ := getElem?_map_set_ne (Ne.symm hne) hy
    rw [woken_quitsD (h.com.leav m z h0 (fun x => x) hz)]; exact hz
  · rw [Array.getElem?_setIfInBounds_ne hi0, Array.getElem?_map, h.g0]
    simp [woken_run hr]
  · rw [Deaf_other t hi0 _ fun op hop => (hmt op hop).1]; exact h.deaf
  · obtain ⟨hj, hy'⟩ := touch_still (g := i) (fun op hop => ⟨(hmt op hop).1, (hmt op hop).2.1⟩) hy
    exact (h.kn j y hy' hm).imp (·.app _) (·.app _ hj)
end

end Go.Proofs.Ytdmhgajamepgoaa.Q
