/-
  OWN TEXT. PIPE: THE MACHINE, (5): small laws for the single moves: who is let try again; what a parked one's move is; what the steps at the group list; lists.
-/
import Derived.Test.YtdmhgajamepgoaaQh
set_option linter.unusedVariables false
set_option linter.unusedSimpArgs false
set_option linter.unusedSectionVars false
namespace Go.Proofs.Ytdmhgajamepgoaa.Q
open Go Go.Conc
open Go.ConcN (sumTo upd sumTo_upd upd_ne upd_same)

section
variable {P : Program} {B : World} {Post : Value → World → Prop} {dead : Nat → Prop} {p : PRec} {k : Nat} {gs gs' : Array Goroutine} {w w' : World} {t u : Trace} {q q' : Nat → Nat} {ex ex' : Nat → Prop} {r s r' s' : Nat} {c c' : CPh} {oc oc' : Bool} {st sm st' sm' : Int} {sg sg' : List Chunk} {d d' : Nat} {g g' gw gw' : Goroutine} {tau tau' : Tau WX}

theorem CMv.running {tau : Tau CX} {K : KP CX} (h : CMv P B Post tau g K) : g.status = .running := by
  cases h with
  | own h => exact h.1
  | priv h => exact h.1
  | act hs _ => exact hs
theorem WMv.running {K : KP WX} (h : WMv P B tau g K) : g.status = .running := by
  cases h with
  | own h => exact h.1
  | priv h => exact h.1
  | act hs _ => exact hs
theorem jc_running {tau : Tau CX} (h : J (CMv P B Post) tau g) : g.status = .running := (J.out (cmoves P B Post) h).running
theorem jw_running (h : J (WMv P B) tau g) : g.status = .running := (J.out (wmoves P B) h).running

theorem Com.at (h : Com P B dead gs w t q ex) (dd : Nat) : Com P B dead gs (w.at dd) t q ex := ⟨h.tr, h.leav, h.above, h.base, h.deadlt⟩
theorem PC.at (h : PC P B dead p k gs w t q ex r s c oc st sm sg d g) (dd : Nat) : PC P B dead p k gs (w.at dd) t q ex r s c oc st sm sg d g :=
  ⟨h.com.at dd, h.k0, h.kl, h.cal, h.deaf, h.sat.at dd, h.sep, h.geo, ⟨h.sh.o, h.sh.s, h.sh.g⟩, h.rs, h.sl, h.compl, h.kn⟩
theorem WL.at (h : WL P B dead p k gs w t r s c oc st sm sg tau gw) (dd : Nat) : WL P B dead p k gs (w.at dd) t r s c oc st sm sg tau gw :=
  ⟨h.wor, h.xp, h.xs, h.oc, h.st, h.deaf, h.sat.at dd, h.sep, h.dis, h.stopped, h.kn, h.left⟩
theorem WG.at (h : WG B dead p k w t s c oc st sm sg) (dd : Nat) : WG B dead p k (w.at dd) t s c oc st sm sg := ⟨h.oc, h.st, h.left, h.rel⟩

theorem lt_of_some {w : World} {b : Nat} {o : Obj} (h : w.heap[b]? = some o) : b < w.heap.size := by
  rcases Nat.lt_or_ge b w.heap.size with h' | h'
  · exact h'
  · rw [Array.getElem?_eq_none h'] at h; cases h
theorem PC.lts (h : PC P B dead p k gs w t q ex r s c oc st sm sg d g) : p.O < w.heap.size ∧ p.S < w.heap.size ∧ p.G < w.heap.size := ⟨lt_of_some h.sh.o, lt_of_some h.sh.s, lt_of_some h.sh.g⟩

/-! ### who is let try again -/
theorem WAt.woken {b x y : Goroutine} (h : WAt P B tau c r b gw) (hrun : gw.status = .running) {cap s0 r0 cap2 s2 r2 : Nat} {b1 b2 : Array Value}
    (h1 : w'.heap[tau.x.p.O]? = some (.chan cap b1 false s0 r0 false)) (h2 : w'.heap[tau.x.p.S]? = some (.chan cap2 b2 false s2 r2 false)) : woken P x y w' b = b := by
  cases h with
  | run ha hr => exact woken_run hr
  | park v zo z hb _ _ _ _ _ =>
    unfold Go.Conc.woken
    split
    · rw [hb]; exact again_sel_open h1 h2
    · rfl
/-- .. who runs already is left as it is. -/
theorem WAt.status {b : Goroutine} (h : WAt P B tau c r b gw) : b.status = .running ∨ b.status = .blocked := by
  cases h with
  | run _ hr => exact .inl hr
  | park v zo z hb _ _ _ _ _ => exact .inr (by rw [hb]; rfl)
theorem CAt.status {a : Goroutine} (h : CAt P B p sg r s c oc sm a g) : a.status = .running ∨ a.status = .blocked := by
  cases h with
  | run _ hr => exact .inl hr
  | park z ha _ _ _ _ => exact .inr (by rw [ha]; rfl)
  | sem ha _ _ _ => exact .inr (by rw [ha])
theorem WAt.alike {b : Goroutine} (h : WAt P B tau c r b gw) : Alike b gw := by
  cases h with
  | run h _ => exact h
  | park v zo z hb _ _ _ _ _ => rw [hb]; exact ⟨rfl, rfl, rfl⟩
theorem CAt.alike {a : Goroutine} (h : CAt P B p sg r s c oc sm a g) : Alike a g := by
  cases h with
  | run h _ => exact h
  | park z ha _ _ _ _ => rw [ha]; exact ⟨rfl, rfl, rfl⟩
  | sem ha _ _ _ => rw [ha]; exact ⟨rfl, rfl, rfl⟩

/-- Another's step lets a goroutine be, or try again. -/
theorem woken_cases (x y o : Goroutine) (w' : World) (ho : o.status = .running ∨ o.status = .blocked) : woken P x y w' o = o ∨ (woken P x y w' o = { o with status := .running } ∧ o.status = .blocked) := by
  unfold Go.Conc.woken
  split
  · rcases ho with h | h
    · exact .inl (again_running _ (.inl h))
    · unfold Goroutine.again
      cases hof : o.offers with
      | none => right; simp [h]
      | some cs =>
        obtain ⟨cs, sh⟩ := cs
        simp only [h]
        split
        · right; simp
        · left; rfl
  · exact .inl rfl

/-- The caller under another's step that leaves (O and the semaphore) as they were, for its purposes. -/
theorem CAt.woken {a x y : Goroutine} (h : CAt P B p sg r s c oc sm a g) : CAt P B p sg r s c oc sm (woken P x y w' a) g := by
  rcases woken_cases x y a w' h.status with e | ⟨e, _⟩
  · rw [e]; exact h
  · rw [e]
    have := h.alike
    exact .run ⟨this.fr, this.cs, this.dy⟩ rfl
theorem WAt.woken' {b x y : Goroutine} (h : WAt P B tau c r b gw) : WAt P B tau c r (Go.Conc.woken P x y w' b) gw := by
  rcases woken_cases x y b w' h.status with e | ⟨e, _⟩
  · rw [e]; exact h
  · rw [e]
    have := h.alike
    exact .run ⟨this.fr, this.cs, this.dy⟩ rfl

/-! ### what a parked one's move is -/
theorem recv_of {tau : Tau CX} {K : KP CX} {z : Value} (hx : tau.x = .pump p r .recv) (hm : CMv P B Post tau g K) (hsat : Sat B tau.sg w)
    (hS : w.heap[p.S]? = some (.chan 0 #[] false 0 0 false)) (hst : ∀ w, Sat B tau.sg w → stepG P true g w = .comm g #[rcase p.O z] true (.recv true) w #[]) :
    tau.d = 0 ∧ (∀ v, p.All[r]? = some v → K ⟨tau.sg, tau.d, .pump p (r + 1) .recv⟩ (Go.Conc.served g (.tuple #[v, .bool true]))) ∧ (r = p.All.length → K ⟨tau.sg, tau.d, .pump p r .over⟩ (Go.Conc.served g (.tuple #[z, .bool false]))) := by
  have e := hst w hsat
  cases hm with
  | own h => obtain ⟨g', w', es, s', h1, _⟩ := h.2 w hsat; rw [e] at h1; cases h1
  | priv h =>
    obtain ⟨_, c, cap, buf, closed, s, r, _, ⟨v, z', _, h1, _⟩ | ⟨z', h1, _⟩⟩ := h
    · have := h1 w hsat; rw [e] at this; cases this
    · have := h1 w hsat; rw [e] at this; cases this
  | act _ h =>
    cases h with
    | recv p' r' z' h0 h1 h2 h3 h4 =>
      rw [hx] at h0
      cases h0
      have := h2 w hsat
      rw [e] at this
      simp only [GStep.comm.injEq, true_and, and_true, Array.mk.injEq, List.cons.injEq, rcase, CommCase.mk.injEq] at this
      rw [this]
      exact ⟨h1, h3, h4⟩
    | close p' r' c' g' h0 h01 h1 h2 h3 h4 =>
      rw [hx] at h0
      cases h0
      have := h3 w hsat hS
      rw [e] at this; cases this
    | spawn p' sc sw g' child h0 => rw [hx] at h0; cases h0
    | fin h0 => rw [hx] at h0; cases h0
    | load p' r' h0 => rw [hx] at h0; cases h0
    | load0 p' r' h0 => rw [hx] at h0; cases h0
    | cas p' r' h0 => rw [hx] at h0; cases h0
    | said p' r' g' h0 => rw [hx] at h0; cases h0
    | sem p' r' h0 => rw [hx] at h0; cases h0
    | load2 p' r' h0 => rw [hx] at h0; cases h0
    | acq p' r' g' h0 => rw [hx] at h0; cases h0
    | look p' r' c' g' h0 h1 => rw [hx] at h0; cases h0; exact absurd rfl h1

theorem send_of {K : KP WX} {v zo z : Value} (hx : tau.x.ph = .run false) (hm : WMv P B tau g K) (hsat : Sat B tau.sg w) {cap s0 r0 : Nat} {b0 : Array Value} (hO : w.heap[tau.x.p.O]? = some (.chan cap b0 false s0 r0 false))
    (hst : ∀ w, Sat B tau.sg w → stepG P false g w = .comm g #[scase tau.x.p.O v zo, rcase tau.x.p.S z] true .select w #[]) :
    tau.d = 0 ∧ tau.x.p.All[tau.x.s]? = some v ∧ K ⟨tau.sg, tau.d, ⟨tau.x.p, tau.x.s + 1, .run false⟩⟩ (Go.Conc.served g (.tuple #[goInt 0, .bool false, z])) ∧
      (tau.x.p.whole = false → K ⟨tau.sg, tau.d, ⟨tau.x.p, tau.x.s, .run true⟩⟩ (Go.Conc.served g (.tuple #[goInt 1, .bool false, z]))) := by
  have e := hst w hsat
  cases hm with
  | own h => obtain ⟨g', w', es, s', h1, _⟩ := h.2 w hsat; rw [e] at h1; cases h1
  | priv h =>
    obtain ⟨_, c, cap, buf, closed, s, r, _, ⟨v, z', _, h1, _⟩ | ⟨z', h1, _⟩⟩ := h
    · have := h1 w hsat; rw [e] at this; cases this
    · have := h1 w hsat; rw [e] at this; cases this
  | act _ h =>
    cases h with
    | send v' zo' z' h0 h1 h2 h3 h4 h5 =>
      have := h3 w hsat
      rw [e] at this
      simp only [GStep.comm.injEq, true_and, and_true, Array.mk.injEq, List.cons.injEq, rcase, scase, CommCase.mk.injEq, Option.some.injEq] at this
      obtain ⟨⟨rfl, rfl⟩, rfl⟩ := this
      exact ⟨h1, h2, h4, h5⟩
    | poll z' h0 h1 h2 _ _ => have := h2 w hsat; rw [e] at this; injection this with _ _ h3 _; cases h3
    | close st g' h0 h1 h2 h3 h4 _ => have := h4 w _ _ _ _ hsat hO; rw [e] at this; cases this
    | look g' h0 => rw [hx] at h0; cases h0
    | rel g' sw h0 => rw [hx] at h0; cases h0
    | add h0 => rw [hx] at h0; cases h0
    | load h0 => rw [hx] at h0; cases h0
    | store h0 => rw [hx] at h0; cases h0
    | sem h0 => rw [hx] at h0; cases h0
end

/-! ### lists -/
theorem buf_head {l : List Value} {r s : Nat} {v : Value} (hv : l[r]? = some v) (hrs : r < s) : ((l.take s).drop r).toArray.getD 0 undef = v := by
  have hl : r < l.length := (List.getElem?_eq_some_iff.1 hv).1
  have e : (l.take s).drop r = v :: (l.take s).drop (r + 1) := by
    rw [List.drop_eq_getElem_cons (by simp; omega)]
    congr 1
    simp [(List.getElem?_eq_some_iff.1 hv).2]
  rw [e]; rfl
theorem buf_tail (l : List Value) (r s : Nat) : (((l.take s).drop r).toArray.extract 1 ((l.take s).drop r).toArray.size) = ((l.take s).drop (r + 1)).toArray := by
  apply Array.ext'
  simp [List.drop_drop]
  exact List.take_of_length_le (by simp; omega)
theorem buf_push {l : List Value} {r s : Nat} {v : Value} (hv : l[s]? = some v) (hrs : r ≤ s) : (((l.take s).drop r).toArray.push v) = ((l.take (s + 1)).drop r).toArray := by
  have hl : s < l.length := (List.getElem?_eq_some_iff.1 hv).1
  apply Array.ext'
  simp only [List.push_toArray]
  rw [List.take_add_one, hv]
  simp only [Option.toList_some]
  rw [List.drop_append_of_le_length (by simp; omega)]
theorem buf_size {l : List Value} {r s : Nat} (hs : s ≤ l.length) : ((l.take s).drop r).toArray.size = s - r := by simp; omega
theorem buf_empty {l : List Value} {r s : Nat} (hs : s ≤ l.length) (h : r = s) : ((l.take s).drop r).toArray = #[] := by
  apply Array.eq_empty_of_size_eq_zero; rw [buf_size hs]; omega

end Go.Proofs.Ytdmhgajamepgoaa.Q
