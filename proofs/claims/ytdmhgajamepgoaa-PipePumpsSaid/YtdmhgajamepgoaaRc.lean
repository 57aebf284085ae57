/-
  OWN TEXT. PIPE: RULES FOR SINGLE OPERATIONS, (2): the state behind a step is a NEW state of which what stood stands ('Keep').
-/
import Derived.Test.YtdmhgajamepgoaaRa
import Derived.Conc.AtomicLaws2
import Derived.Conc.MarkLaws
import Derived.Conc.SmallLaws
set_option linter.unusedVariables false
set_option linter.unusedSimpArgs false
set_option linter.unusedSectionVars false
namespace Go.Proofs.Ytdmhgajamepgoaa.Q
open Go Go.Conc

/-- What stood in t stands in t', but for these blocks; nothing else has turned. -/
structure Keep {X : Type} (bs : List Nat) (t t' : Tau X) : Prop where
  sg : ∀ c ∈ t.sg, c.b ∉ bs → c ∈ t'.sg
  d : t'.d = t.d
  x : t'.x = t.x

theorem Keep.refl {X : Type} {bs : List Nat} {t : Tau X} : Keep bs t t := ⟨fun _ h _ => h, rfl, rfl⟩
theorem Keep.trans {X : Type} {bs : List Nat} {t t' t'' : Tau X} (h : Keep bs t t') (h' : Keep bs t' t'') : Keep bs t t'' :=
  ⟨fun c hc hn => h'.sg c (h.sg c hc hn) hn, h'.d.trans h.d, h'.x.trans h.x⟩
theorem Keep.weak {X : Type} {bs bs' : List Nat} {t t' : Tau X} (h : Keep bs t t') (hb : ∀ b ∈ bs, b ∈ bs') : Keep bs' t t' :=
  ⟨fun c hc hn => h.sg c hc fun hm => hn (hb _ hm), h.d, h.x⟩
theorem Keep.all {X : Type} {t t' : Tau X} (h : Keep [] t t') {c : Chunk} (hc : c ∈ t.sg) : c ∈ t'.sg := h.sg c hc (by simp)

/-- Two chunks of one block are one. -/
theorem Sat.uniq {B : World} {s : List Chunk} {w : World} (h : Sat B s w) {c c' : Chunk} (hc : c ∈ s) (hc' : c' ∈ s) (e : c.b = c'.b) : c = c' := by
  have hn := h.nodup
  clear h
  induction s with
  | nil => cases hc
  | cons a s ih =>
    simp only [List.map_cons, List.nodup_cons, List.mem_map, not_exists, not_and] at hn
    rcases List.mem_cons.1 hc with h1 | h1
    · rcases List.mem_cons.1 hc' with h2 | h2
      · rw [h1, h2]
      · exact absurd (h1 ▸ e.symm) (hn.1 c' h2)
    · rcases List.mem_cons.1 hc' with h2 | h2
      · exact absurd (h2 ▸ e) (hn.1 c h1)
      · exact ih h1 h2 hn.2

theorem Sat.obj {B : World} {s : List Chunk} {w : World} (h : Sat B s w) {b : Nat} {o : Obj} {own : Bool} (hc : (⟨b, o, own⟩ : Chunk) ∈ s) : w.heap[b]? = some o := h.here _ hc

theorem mem_setO_ne {s : List Chunk} {b : Nat} {o : Obj} {c : Chunk} (hc : c ∈ s) (hb : c.b ≠ b) : c ∈ setO s b o :=
  List.mem_map.2 ⟨c, hc, by simp [hb]⟩
theorem mem_setO_self {s : List Chunk} {b : Nat} {o o' : Obj} {own : Bool} (hc : (⟨b, o, own⟩ : Chunk) ∈ s) : (⟨b, o', own⟩ : Chunk) ∈ setO s b o' :=
  List.mem_map.2 ⟨_, hc, by simp⟩
theorem setO_b (s : List Chunk) (b : Nat) (o : Obj) : (setO s b o).map Chunk.b = s.map Chunk.b := by
  unfold setO
  rw [List.map_map]
  refine List.map_congr_left fun c _ => ?_
  simp only [Function.comp]
  split <;> rfl

/-- One block of the world turned. -/
def Upd (w : World) (b : Nat) (o : Obj) (w' : World) : Prop := w'.os = w.os ∧ w'.output = w.output ∧ w'.heap = w.heap.setIfInBounds b o

theorem upd_setCell {w : World} {b i : Nat} {C : Array Value} {ty : TypeId} {fr : Nat × Nat} (h : w.heap[b]? = some (.cells C ty fr)) (v : Value) : Upd w b (.cells (C.setIfInBounds i v) ty fr) (w.setCell ⟨b, i, none⟩ v) := by
  refine ⟨rfl, rfl, ?_⟩
  have hb : b < w.heap.size := (Array.getElem?_eq_some_iff.1 h).1
  apply Array.ext_getElem?
  intro j
  by_cases hj : b = j
  · subst hj
    rw [Array.getElem?_setIfInBounds_self_of_lt hb]
    simp only [World.setCell, Array.getElem?_modify, h, if_true, Option.map_some]
    simp
  · rw [Array.getElem?_setIfInBounds_ne hj]
    simp [World.setCell, Array.getElem?_modify, hj]
theorem ev_bool (P : Program) (w : World) (es : Array Event) (a : Addr) (m : Mode) (b : Bool) : (store a (.bool b) m).events P w es = storedEv P w es a (.bool b) m := events_store P w es a _ m rfl
theorem ev_slice (P : Program) (w : World) (es : Array Event) (a : Addr) (m : Mode) (b : Option Addr) (l c : Nat) : (store a (.slice b l c) m).events P w es = storedEv P w es a (.slice b l c) m := events_store P w es a _ m rfl
theorem ev_ptr (P : Program) (w : World) (es : Array Event) (a : Addr) (m : Mode) (b : Option Addr) : (store a (.pointer b) m).events P w es = storedEv P w es a (.pointer b) m := events_store P w es a _ m rfl
theorem ev_int (P : Program) (w : World) (es : Array Event) (a : Addr) (m : Mode) (k : IntKind) (n : Int) : (store a (.int k n) m).events P w es = storedEv P w es a (.int k n) m := events_store P w es a _ m rfl
theorem ev_chan (P : Program) (w : World) (es : Array Event) (a : Addr) (m : Mode) (c : Option Nat) : (store a (.chan c) m).events P w es = storedEv P w es a (.chan c) m := events_store P w es a _ m rfl
theorem get_set {C : Array Value} {j : Nat} {u : Value} (h : C[j]? = some u) (v : Value) : (C.setIfInBounds j v)[j]? = some v := Array.getElem?_setIfInBounds_self_of_lt (Array.getElem?_eq_some_iff.1 h).1
theorem Upd.trans {w w' w'' : World} {b : Nat} {o o' : Obj} (h : Upd w b o w') (h' : Upd w' b o' w'') : Upd w b o' w'' :=
  ⟨h'.1.trans h.1, h'.2.1.trans h.2.1, by rw [h'.2.2, h.2.2]; simp⟩
theorem Upd.obj {w w' : World} {b : Nat} {o ob : Obj} (h : Upd w b o w') (hb : w.heap[b]? = some ob) : w'.heap[b]? = some o := by
  rw [h.2.2, Array.getElem?_setIfInBounds_self_of_lt (Array.getElem?_eq_some_iff.1 hb).1]

theorem Sat.upd {B : World} {s : List Chunk} {w w' : World} (h : Sat B s w) {b : Nat} {o ob : Obj} (hc : (⟨b, ob, true⟩ : Chunk) ∈ s) (hu : Upd w b o w') : Sat B (setO s b o) w' := by
  have hbl : B.heap.size ≤ b := h.above _ hc
  have hsz : w'.heap.size = w.heap.size := by rw [hu.2.2]; simp
  have hne : ∀ j, j ≠ b → w'.heap[j]? = w.heap[j]? := fun j hj => by rw [hu.2.2, Array.getElem?_setIfInBounds_ne (Ne.symm hj)]
  refine ⟨hu.1.trans h.os, hu.2.1.trans h.out, by rw [hsz]; exact h.size, fun j hj => (hne j (by omega)).trans (h.low j hj), fun c hm => ?_, fun c hm => ?_, by rw [setO_b]; exact h.nodup⟩
  · obtain ⟨c', hc', e⟩ := List.mem_map.1 hm
    by_cases hb : c'.b = b
    · rw [if_pos hb] at e
      subst e
      show w'.heap[c'.b]? = _
      rw [hb]
      exact hu.obj (h.obj hc)
    · rw [if_neg hb] at e
      subst e
      rw [hne _ hb]
      exact h.here _ hc'
  · obtain ⟨c', hc', e⟩ := List.mem_map.1 hm
    have := h.above c' hc'
    by_cases hb : c'.b = b
    · rw [if_pos hb] at e; subst e; exact this
    · rw [if_neg hb] at e; subst e; exact this

theorem guar_upd {B : World} {s : List Chunk} {w w' : World} {es : Array Event} (h : Sat B s w) {b : Nat} {o ob : Obj} (hc : (⟨b, ob, true⟩ : Chunk) ∈ s) (hu : Upd w b o w') (he : ∀ e ∈ es, EvOk B s w.heap.size w'.heap.size e) : Guar B s w (setO s b o) w' es := by
  have hsz : w'.heap.size = w.heap.size := by rw [hu.2.2]; simp
  refine ⟨h.upd hc hu, by omega, fun j _ hm => ?_, fun c hm => ?_, he⟩
  · rw [hu.2.2, Array.getElem?_setIfInBounds_ne]
    intro e
    exact hm ⟨_, hc, e, rfl⟩
  · obtain ⟨c', hc', e⟩ := List.mem_map.1 hm
    refine .inl ⟨c', hc', ?_⟩
    by_cases hb : c'.b = b
    · rw [if_pos hb] at e; subst e; exact ⟨rfl, rfl⟩
    · rw [if_neg hb] at e; subst e; exact ⟨rfl, rfl⟩
theorem guar_still {B : World} {s : List Chunk} {w : World} {es : Array Event} (h : Sat B s w) (he : ∀ e ∈ es, EvOk B s w.heap.size w.heap.size e) : Guar B s w s w es :=
  ⟨h, Nat.le_refl _, fun _ _ _ => rfl, fun c hc => .inl ⟨c, hc, rfl, rfl⟩, he⟩
theorem keep_setO {X : Type} {t : Tau X} {b : Nat} {o : Obj} : Keep [b] t ⟨setO t.sg b o, t.d, t.x⟩ := ⟨fun c hc hb => mem_setO_ne hc (by simpa using hb), rfl, rfl⟩

section
variable {X : Type} {P : Program} {main : Bool} {B : World} {Mv : MvT X} {strict : X → Prop} (M : Moves P main B strict Mv) {fn : FuncId} {Q : Exit → Act → Tau X → Prop} {a : Act} {t : Tau X}
include M

/-- Facts that every world that fits shows. -/
theorem opsS_facts {ops : Array Oper} {i : Nat} {rest : List Nat} (h : ∀ w, Sat B t.sg w → OpsS Mv fn ops (i :: rest) Q a t) : OpsS Mv fn ops (i :: rest) Q a t := by
  by_cases hx : ∃ w, Sat B t.sg w
  · obtain ⟨w, hw⟩ := hx; exact h w hw
  · intro b k cs _ _ _
    exact J.own M ⟨rfl, fun w hw => absurd ⟨w, hw⟩ hx⟩
theorem wpS_facts {c : Code} (h : ∀ w, Sat B t.sg w → wpS Mv fn c Q a t) : wpS Mv fn c Q a t := by
  by_cases hx : ∃ w, Sat B t.sg w
  · obtain ⟨w, hw⟩ := hx; exact h w hw
  · intro b k cs _ _ _
    exact J.own M ⟨rfl, fun w hw => absurd ⟨w, hw⟩ hx⟩

/-- An operation that reads one block: a chunk, or one below. -/
theorem opsS_load {ops : Array Oper} {i : Nat} {rest : List Nat} {o : Oper} {b : Nat} (ho : ops[i]? = some o) (hw : Region.wanted o (yielded ops a.tmps) = true) (hns : ¬ strict t.x) (hb : Known t.sg b ∨ b < B.heap.size)
    (he : ∀ w, Sat B t.sg w → ∀ e ∈ (execOp a.eval o).events P w #[], ∃ j, e = ⟨.cell ⟨b, j, none⟩, false, false⟩)
    (h : ∀ w, Sat B t.sg w → ∀ K : Act → World → Prop, (∀ a', OpsS Mv fn ops rest Q a' t → K a' w) → uponK o a K ((execOp a.eval o).run P w)) : OpsS Mv fn ops (i :: rest) Q a t :=
  opsS_read M ho hw hns (fun w hs e hm => by
    obtain ⟨j, rfl⟩ := he w hs e (mem_listed hm)
    exact ⟨.read _ hb, by simp, by simp⟩) h

/-- An operation that turns one block of one's own. -/
theorem opsS_turn {ops : Array Oper} {i : Nat} {rest : List Nat} {o : Oper} {b : Nat} {ob : Obj} (ob' : Obj) (hc : (⟨b, ob, true⟩ : Chunk) ∈ t.sg) (ho : ops[i]? = some o) (hw : Region.wanted o (yielded ops a.tmps) = true) (hns : ¬ strict t.x)
    (he : ∀ w, Sat B t.sg w → ∀ e ∈ (execOp a.eval o).events P w #[], ∃ j wr sy, e = ⟨.cell ⟨b, j, none⟩, wr, sy⟩)
    (h : ∀ w, Sat B t.sg w → w.heap[b]? = some ob → ∀ K : Act → World → Prop, (∀ a' w', Upd w b ob' w' → (∀ t', Keep [b] t t' → (⟨b, ob', true⟩ : Chunk) ∈ t'.sg → OpsS Mv fn ops rest Q a' t') → K a' w') → uponK o a K ((execOp a.eval o).run P w)) : OpsS Mv fn ops (i :: rest) Q a t := by
  refine opsS_cons M ho hw fun w hs => ?_
  have hev : ∀ e ∈ listed P fn a o w, EvOk B t.sg w.heap.size w.heap.size e ∧ e.loc ≠ .mark .disable ∧ e.loc ≠ .mark .enable := fun e hm => by
    obtain ⟨j, wr, sy, rfl⟩ := he w hs e (mem_listed hm)
    exact ⟨.own _ _ _ (.inl ⟨_, hc, rfl, rfl⟩), by simp, by simp⟩
  have hd : deafBehind t.d (listed P fn a o w) = t.d := deafBehind_still (fun e hm => (hev e hm).2) _
  rw [hd]
  have key := h w hs (hs.obj hc) (fun a' w' => Upd w b ob' w' ∧ OpsS Mv fn ops rest Q a' ⟨setO t.sg b ob', t.d, t.x⟩) fun a' w' hu hn => ⟨hu, hn _ keep_setO (mem_setO_self hc)⟩
  revert key
  cases (execOp a.eval o).run P w with
  | ok x w' =>
    cases x <;> first | (rintro ⟨hu, hn⟩; exact ⟨_, guar_upd hs hc hu (fun e hm => by
      have hsz : w'.heap.size = w.heap.size := by rw [hu.2.2]; simp
      rw [hsz]; exact (hev e hm).1), fun hx => absurd hx hns, hn⟩) | exact id
  | halt _ _ => exact id

/-- A new block. -/
theorem opsS_new {ops : Array Oper} {i : Nat} {rest : List Nat} {o : Oper} (ob : Obj) (ho : ops[i]? = some o) (hw : Region.wanted o (yielded ops a.tmps) = true)
    (he : ∀ w, Sat B t.sg w → (execOp a.eval o).events P w #[] = #[])
    (h : ∀ w, Sat B t.sg w → ∀ K : Act → World → Prop, (∀ a', (∀ t', Keep [] t t' → (⟨w.heap.size, ob, true⟩ : Chunk) ∈ t'.sg → (∀ c ∈ t.sg, c.b ≠ w.heap.size) → B.heap.size ≤ w.heap.size → OpsS Mv fn ops rest Q a' t') → K a' (w.alloc ob)) → uponK o a K ((execOp a.eval o).run P w)) : OpsS Mv fn ops (i :: rest) Q a t :=
  opsS_alloc M ob ho hw he fun w hs K hK => h w hs K fun a' hn => hK a' (hn _ ⟨fun c hc _ => List.mem_cons_of_mem _ hc, rfl, rfl⟩ (List.mem_cons_self ..) (fun c hc e => by have := (hs.lt c hc).2; omega) hs.size)

/-- A step that is known at the machine's own grain. -/
theorem opsS_step {ops : Array Oper} {i : Nat} {rest : List Nat} {a' : Act}
    (h : ∀ (b : Frame) (k : List Item) (cs : List Frame), b.kind ≠ .early → ∀ w, Sat B t.sg w → ∃ w' es s', stepG P main (G (b.at a (.inRegion ops (i :: rest) :: k)) cs) w = .go (G (b.at a' (.inRegion ops rest :: k)) cs) w' es ∧ Guar B t.sg w s' w' es ∧
      (strict t.x → ∀ e ∈ es, Event.mute e = true) ∧ OpsS Mv fn ops rest Q a' ⟨s', deafBehind t.d es, t.x⟩) : OpsS Mv fn ops (i :: rest) Q a t := by
  intro b k cs hb hk hc
  refine J.own M ⟨rfl, fun w hs => ?_⟩
  obtain ⟨w', es, s', h1, h2, h3, h4⟩ := h b k cs hk w hs
  exact ⟨_, w', es, s', h1, h2, h3, h4 b k cs hb hk hc⟩

section
variable {ops : Array Oper} {i : Nat} {rest : List Nat} {o : Oper} {f : FuncId} {fu : Func} {as : Array Operand} {ats : Array TypeId}
  (ho : ops[i]? = some o) (hw : Region.wanted o (yielded ops a.tmps) = true) (hop : o.op = .call { callee := .value (.func f), args := as, argTypes := ats })
  (hf : P.funcs[f]? = some fu) (hname : (fu.name == "runtime.NumGoroutine") = false) (hb : fu.body.isNone = true) (hn : Extern.findNext fu = none)
include ho hw hop hf hname hb hn

theorem opsS_disable (he : Extern.find fu = some (fun _ => do mark .disable; pure Extern.Race.none_)) (h : OpsS Mv fn ops rest Q (a.put o.dst (.tuple #[])) ⟨t.sg, t.d + 1, t.x⟩) : OpsS Mv fn ops (i :: rest) Q a t :=
  opsS_step M fun b k cs hk w hs => ⟨w, _, t.sg, stepG_mark0 .disable (by simp) ho hw hk hop hf hname hb hn he, guar_still hs (by simp; exact .dis), by simp [Event.mute], h⟩
theorem opsS_enable (he : Extern.find fu = some (fun _ => do mark .enable; pure Extern.Race.none_)) (h : OpsS Mv fn ops rest Q (a.put o.dst (.tuple #[])) ⟨t.sg, t.d - 1, t.x⟩) : OpsS Mv fn ops (i :: rest) Q a t :=
  opsS_step M fun b k cs hk w hs => ⟨w, _, t.sg, stepG_mark0 .enable (by simp) ho hw hk hop hf hname hb hn he, guar_still hs (by simp; exact .ena), by simp [Event.mute], h⟩
theorem opsS_acquire (he : Extern.find fu = some (Extern.Race.marked .acquire)) {ad : Addr} (hm : Mine t.sg ad.block) (hns : ¬ strict t.x) (hx : (as.map a.eval)[0]? = some (.pointer (some ad))) (h : OpsS Mv fn ops rest Q (a.put o.dst (.tuple #[])) t) : OpsS Mv fn ops (i :: rest) Q a t :=
  opsS_step M fun b k cs hk w hs => ⟨w, _, t.sg, stepG_markAt .acquire (by simp) ho hw hk hop hf hname hb hn he hx, guar_still hs (by simp; exact .acq _ hm), fun hx => absurd hx hns, h⟩
theorem opsS_releaseMerge (he : Extern.find fu = some (Extern.Race.marked .releaseMerge)) {ad : Addr} (hm : Mine t.sg ad.block) (hns : ¬ strict t.x) (hx : (as.map a.eval)[0]? = some (.pointer (some ad))) (h : OpsS Mv fn ops rest Q (a.put o.dst (.tuple #[])) t) : OpsS Mv fn ops (i :: rest) Q a t :=
  opsS_step M fun b k cs hk w hs => ⟨w, _, t.sg, stepG_markAt .releaseMerge (by simp) ho hw hk hop hf hname hb hn he hx, guar_still hs (by simp; exact .rel _ hm), fun hx => absurd hx hns, h⟩
theorem opsS_said (he : Extern.find fu = some (Extern.Race.marked .read)) {ad : Addr} (hm : Mine t.sg ad.block) (hns : ¬ strict t.x) (hx : (as.map a.eval)[0]? = some (.pointer (some ad))) (h : OpsS Mv fn ops rest Q (a.put o.dst (.tuple #[])) t) : OpsS Mv fn ops (i :: rest) Q a t :=
  opsS_step M fun b k cs hk w hs => ⟨w, _, t.sg, stepG_markAt .read (by simp) ho hw hk hop hf hname hb hn he hx, guar_still hs (by simp; exact .said _ hm), fun hx => absurd hx hns, h⟩
end

section
variable {ops : Array Oper} {i : Nat} {rest : List Nat} {o : Oper} {f : FuncId} {fu : Func} {ats : Array TypeId} {x y z : Operand} {b j : Nat} {C : Array Value} {ty : TypeId} {v n : Int} {k : IntKind}

omit M in
theorem cell_of {w : World} (h : w.heap[b]? = some (.cells C ty)) (hj : C[j]? = some (.int k v)) : w.cell? ⟨b, j, none⟩ = some (.int k v) ∧ w.frozen? ⟨b, j, none⟩ = false := by
  simp [World.cell?, World.frozen?, h, hj]

omit M in
theorem evs_rw {w : World} {s : List Chunk} (hm : Mine s b) : ∀ e ∈ (#[⟨.cell ⟨b, j, none⟩, false, true⟩, ⟨.cell ⟨b, j, none⟩, true, true⟩] : Array Event), EvOk B s w.heap.size w.heap.size e := by
  intro e he
  simp at he
  rcases he with rfl | rfl <;> exact .own _ _ _ (.inl hm)

theorem opsS_cas (k : IntKind) (hc : (⟨b, .cells C ty, true⟩ : Chunk) ∈ t.sg) (hj : C[j]? = some (.int k v)) (ho : ops[i]? = some o) (hw : Region.wanted o (yielded ops a.tmps) = true) (hop : o.op = .call { callee := .value (.func f), args := #[x, y, z], argTypes := ats })
    (hf : P.funcs[f]? = some fu) (hname : (fu.name == "runtime.NumGoroutine") = false) (hb : fu.body.isNone = true) (hn : Extern.findNext fu = none)
    (he : Extern.find fu = some (Extern.Atomic.casT (.int k))) (hns : ¬ strict t.x)
    (hx : a.eval x = .pointer (some ⟨b, j, none⟩)) (hy : a.eval y = .int k v) (hz : a.eval z = .int k n)
    (h : ∀ t', Keep [b] t t' → (⟨b, .cells (C.setIfInBounds j (.int k n)) ty, true⟩ : Chunk) ∈ t'.sg → OpsS Mv fn ops rest Q (a.put o.dst (.bool true)) t') : OpsS Mv fn ops (i :: rest) Q a t :=
  opsS_step M fun fr kk cs hk w hs => by
    have hcell := cell_of (hs.obj hc) hj
    have hu := upd_setCell (i := j) (hs.obj hc) (.int k n)
    exact ⟨_, _, _, stepG_cas_hit ho hw hk hop hf hname hb hn k he hx hy hz hcell.1 hcell.2, guar_upd hs hc hu (by
      have hsz : (w.setCell ⟨b, j, none⟩ (.int k n)).heap.size = w.heap.size := by rw [hu.2.2]; simp
      rw [hsz]; exact evs_rw ⟨_, hc, rfl, rfl⟩), fun hx => absurd hx hns, by
      rw [deafBehind_still (by simp)]
      exact h _ keep_setO (mem_setO_self hc)⟩
theorem opsS_add (k : IntKind) (hc : (⟨b, .cells C ty, true⟩ : Chunk) ∈ t.sg) (hj : C[j]? = some (.int k v)) (ho : ops[i]? = some o) (hw : Region.wanted o (yielded ops a.tmps) = true) (hop : o.op = .call { callee := .value (.func f), args := #[x, y], argTypes := ats })
    (hf : P.funcs[f]? = some fu) (hname : (fu.name == "runtime.NumGoroutine") = false) (hb : fu.body.isNone = true) (hn : Extern.findNext fu = none)
    (he : Extern.find fu = some (Extern.Atomic.update (Op.intArith .add) k true)) (hns : ¬ strict t.x)
    (hx : a.eval x = .pointer (some ⟨b, j, none⟩)) (hy : a.eval y = .int k n)
    (h : ∀ t', Keep [b] t t' → (⟨b, .cells (C.setIfInBounds j (.int k (k.wrap (v + n)))) ty, true⟩ : Chunk) ∈ t'.sg → OpsS Mv fn ops rest Q (a.put o.dst (.int k (k.wrap (v + n)))) t') : OpsS Mv fn ops (i :: rest) Q a t :=
  opsS_step M fun fr kk cs hk w hs => by
    have hcell := cell_of (hs.obj hc) hj
    have hu := upd_setCell (i := j) (hs.obj hc) (.int k (k.wrap (v + n)))
    exact ⟨_, _, _, stepG_add_atomic ho hw hk hop hf hname hb hn k he hx hy hcell.1 hcell.2, guar_upd hs hc hu (by
      have hsz : (w.setCell ⟨b, j, none⟩ (.int k (k.wrap (v + n)))).heap.size = w.heap.size := by rw [hu.2.2]; simp
      rw [hsz]; exact evs_rw ⟨_, hc, rfl, rfl⟩), fun hx => absurd hx hns, by
      rw [deafBehind_still (by simp)]
      exact h _ keep_setO (mem_setO_self hc)⟩

/-- Through a call, the arguments named. -/
theorem opsS_callv {args : Array Operand} {vs : Array Value} {Post : Value → Tau X → Prop}
    (ho : ops[i]? = some o) (hw : Region.wanted o (yielded ops a.tmps) = true) (hop : o.op = .call { callee := .value (.func f), args, argTypes := ats })
    (hf : P.funcs[f]? = some fu) (hname : (fu.name == "runtime.NumGoroutine") = false) (hb : fu.body.isNone = false)
    (hcall : CallsS Mv P f vs t Post) (hargs : args.map a.eval = vs) (hnext : ∀ v t', Post v t' → OpsS Mv fn ops rest Q (a.put o.dst v) t') : OpsS Mv fn ops (i :: rest) Q a t :=
  opsS_call M ho hw hop hf hname hb (hargs ▸ hcall) hnext

omit M in
theorem run_unsafe {src dst tt : TypeId} {o : Oper} (hop : o.op = .convert src dst x) (hs : P.underlying src = some (.pointer tt)) (hd : P.underlying dst = some .unsafePointer) (hsz : (P.info? tt).map (fun i => decide (i.size = 0)) = some false)
    {ad : Addr} {u : Value} {w : World} (hx : a.eval x = .pointer (some ad)) (hc : w.cell? ad = some u) : (execOp a.eval o).run P w = .ok (.value (.pointer (some ad))) w ∧ (execOp a.eval o).events P w #[] = #[] := by
  unfold execOp
  simp [hop, hx, run_convert_to_unsafe hs hd hsz hc, events_convert_to_unsafe hs hd hsz hc]

/-- A pointer into a chunk, as an unsafe one. -/
theorem opsS_unsafe {src dst tt : TypeId} {own : Bool} {u : Value} (hc : (⟨b, .cells C ty, own⟩ : Chunk) ∈ t.sg) (hj : C[j]? = some u) (ho : ops[i]? = some o) (hw : Region.wanted o (yielded ops a.tmps) = true) (hop : o.op = .convert src dst x)
    (hs : P.underlying src = some (.pointer tt)) (hd : P.underlying dst = some .unsafePointer) (hsz : (P.info? tt).map (fun i => decide (i.size = 0)) = some false) (hx : a.eval x = .pointer (some ⟨b, j, none⟩))
    (h : OpsS Mv fn ops rest Q (a.put o.dst (.pointer (some ⟨b, j, none⟩))) t) : OpsS Mv fn ops (i :: rest) Q a t := by
  refine opsS_cons M ho hw fun w hw' => ?_
  have hcell : w.cell? ⟨b, j, none⟩ = some u := by simp [World.cell?, hw'.obj hc, hj]
  obtain ⟨hr, he⟩ := run_unsafe hop hs hd hsz hx hcell
  have hl : listed P fn a o w = #[] := by unfold listed; rw [he]; exact seen_none P fn
  rw [hr, hl]
  exact ⟨t.sg, Guar.idle hw', fun _ => by simp, h⟩

/-- One cell of a chunk read. -/
theorem opsS_ld {own : Bool} {u : Value} (hc : (⟨b, .cells C ty, own⟩ : Chunk) ∈ t.sg) (hj : C[j]? = some u) (ho : ops[i]? = some o) (hw : Region.wanted o (yielded ops a.tmps) = true) (hns : ¬ strict t.x)
    (he : ∀ w : World, w.cell? ⟨b, j, none⟩ = some u → ∀ e ∈ (execOp a.eval o).events P w #[], ∃ j, e = ⟨.cell ⟨b, j, none⟩, false, false⟩)
    (h : ∀ w : World, w.cell? ⟨b, j, none⟩ = some u → ∀ K : Act → World → Prop, (∀ a', OpsS Mv fn ops rest Q a' t → K a' w) → uponK o a K ((execOp a.eval o).run P w)) : OpsS Mv fn ops (i :: rest) Q a t :=
  have hcell : ∀ w, Sat B t.sg w → w.cell? ⟨b, j, none⟩ = some u := fun w hs => by simp [World.cell?, hs.obj hc, hj]
  opsS_load M ho hw hns (.inl ⟨_, hc, rfl⟩) (fun w hs => he w (hcell w hs)) fun w hs => h w (hcell w hs)
/-- One cell of a block below read. -/
theorem opsS_ldB {u : Value} {fr : Nat × Nat} (hc : B.heap[b]? = some (.cells C ty fr)) (hj : C[j]? = some u) (ho : ops[i]? = some o) (hw : Region.wanted o (yielded ops a.tmps) = true) (hns : ¬ strict t.x)
    (he : ∀ w : World, w.cell? ⟨b, j, none⟩ = some u → ∀ e ∈ (execOp a.eval o).events P w #[], ∃ j, e = ⟨.cell ⟨b, j, none⟩, false, false⟩)
    (h : ∀ w : World, w.cell? ⟨b, j, none⟩ = some u → ∀ K : Act → World → Prop, (∀ a', OpsS Mv fn ops rest Q a' t → K a' w) → uponK o a K ((execOp a.eval o).run P w)) : OpsS Mv fn ops (i :: rest) Q a t :=
  have hlt : b < B.heap.size := (Array.getElem?_eq_some_iff.1 hc).1
  have hcell : ∀ w, Sat B t.sg w → w.cell? ⟨b, j, none⟩ = some u := fun w hs => by simp [World.cell?, hs.low b hlt, hc, hj]
  opsS_load M ho hw hns (.inr hlt) (fun w hs => he w (hcell w hs)) fun w hs => h w (hcell w hs)
/-- One cell of a chunk written. -/
theorem opsS_st {u : Value} (v : Value) (hc : (⟨b, .cells C ty, true⟩ : Chunk) ∈ t.sg) (hj : C[j]? = some u) (ho : ops[i]? = some o) (hw : Region.wanted o (yielded ops a.tmps) = true) (hns : ¬ strict t.x)
    (he : ∀ w : World, w.cell? ⟨b, j, none⟩ = some u → w.frozen? ⟨b, j, none⟩ = false → ∀ e ∈ (execOp a.eval o).events P w #[], ∃ j wr sy, e = ⟨.cell ⟨b, j, none⟩, wr, sy⟩)
    (h : ∀ w : World, w.cell? ⟨b, j, none⟩ = some u → w.frozen? ⟨b, j, none⟩ = false → ∀ K : Act → World → Prop, (∀ a', (∀ t', Keep [b] t t' → (⟨b, .cells (C.setIfInBounds j v) ty, true⟩ : Chunk) ∈ t'.sg → OpsS Mv fn ops rest Q a' t') → K a' (w.setCell ⟨b, j, none⟩ v)) → uponK o a K ((execOp a.eval o).run P w)) : OpsS Mv fn ops (i :: rest) Q a t := by
  have hcell : ∀ w, Sat B t.sg w → w.cell? ⟨b, j, none⟩ = some u := fun w hs => by simp [World.cell?, hs.obj hc, hj]
  have hfr : ∀ w, Sat B t.sg w → w.frozen? ⟨b, j, none⟩ = false := fun w hs => by simp [World.frozen?, hs.obj hc]
  exact opsS_turn M (.cells (C.setIfInBounds j v) ty) hc ho hw hns (fun w hs => he w (hcell w hs) (hfr w hs)) fun w hs hob K hK => h w (hcell w hs) (hfr w hs) K fun a' hn => hK a' _ (upd_setCell hob v) hn
end
end

end Go.Proofs.Ytdmhgajamepgoaa.Q
