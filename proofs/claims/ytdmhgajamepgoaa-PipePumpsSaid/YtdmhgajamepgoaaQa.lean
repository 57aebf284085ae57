/-
  OWN TEXT. PIPE: THE JUDGEMENT. What one goroutine does, in whatever company, over the memory that it owns: 'J': the least fixed point of a monotone row of moves ('Mv'): no counts of steps, no rely: a step is asked in EVERY world that fits what the goroutine owns ('Sat').
-/
import Derived.Conc.Company
import Derived.Conc.CompanyCalls
import Derived.Conc.DeferLaws
import Derived.Conc.QuitsD
import Derived.Conc.CrowdComm
set_option linter.unusedVariables false
set_option linter.unusedSimpArgs false
set_option linter.unusedSectionVars false
namespace Go.Proofs.Ytdmhgajamepgoaa.Q
open Go Go.Conc

/-- A block that the goroutine knows: number, content; may it write there? -/
structure Chunk where
  b : Nat
  o : Obj
  own : Bool

structure Tau (X : Type) where
  sg : List Chunk
  d : Nat
  x : X

/-- The world fits: below the law's first world nothing has turned; the chunks stand. -/
structure Sat (B : World) (s : List Chunk) (w : World) : Prop where
  os : w.os = B.os
  out : w.output = B.output
  size : B.heap.size ≤ w.heap.size
  low : ∀ b, b < B.heap.size → w.heap[b]? = B.heap[b]?
  here : ∀ c ∈ s, w.heap[c.b]? = some c.o
  above : ∀ c ∈ s, B.heap.size ≤ c.b
  nodup : (s.map Chunk.b).Nodup

def Mine (s : List Chunk) (b : Nat) : Prop := ∃ c ∈ s, c.b = b ∧ c.own = true
def Known (s : List Chunk) (b : Nat) : Prop := ∃ c ∈ s, c.b = b

/-- What a step of one's own may list: n, n': how many blocks there are ahead of the step and behind it. -/
inductive EvOk (B : World) (s : List Chunk) (n n' : Nat) : Event → Prop
  | own (a : Addr) (wr sy : Bool) : Mine s a.block ∨ (n ≤ a.block ∧ a.block < n') → EvOk B s n n' ⟨.cell a, wr, sy⟩
  | read (a : Addr) : Known s a.block ∨ a.block < B.heap.size → EvOk B s n n' ⟨.cell a, false, false⟩
  | obj (r : Nat) (wr : Bool) : Mine s r → EvOk B s n n' ⟨.obj r, wr, true⟩
  | dis : EvOk B s n n' ⟨.mark .disable, false, true⟩
  | ena : EvOk B s n n' ⟨.mark .enable, false, true⟩
  | full : EvOk B s n n' ⟨.mark .noRoom, false, true⟩
  | acq (a : Addr) : Mine s a.block → EvOk B s n n' ⟨.mark (.acquire a), false, true⟩
  | rel (a : Addr) : Mine s a.block → EvOk B s n n' ⟨.mark (.releaseMerge a), false, true⟩
  | said (a : Addr) : Mine s a.block → EvOk B s n n' ⟨.mark (.read a), false, true⟩

structure Guar (B : World) (s : List Chunk) (w : World) (s' : List Chunk) (w' : World) (es : Array Event) : Prop where
  sat : Sat B s' w'
  size : w.heap.size ≤ w'.heap.size
  frame : ∀ b, b < w.heap.size → ¬ Mine s b → w'.heap[b]? = w.heap[b]?
  ids : ∀ c' ∈ s', (∃ c ∈ s, c.b = c'.b ∧ c.own = c'.own) ∨ w.heap.size ≤ c'.b
  ev : ∀ e ∈ es, EvOk B s w.heap.size w'.heap.size e

theorem Guar.idle {B : World} {s : List Chunk} {w : World} (h : Sat B s w) : Guar B s w s w #[] :=
  ⟨h, Nat.le_refl _, fun _ _ _ => rfl, fun c hc => .inl ⟨c, hc, rfl, rfl⟩, by simp⟩

abbrev KP (X : Type) := Tau X → Goroutine → Prop
abbrev MvT (X : Type) := Tau X → Goroutine → KP X → Prop

def J {X : Type} (Mv : MvT X) (t : Tau X) (g : Goroutine) : Prop := ∀ K : KP X, (∀ t g, Mv t g K → K t g) → K t g

/-- A step of one's own. 'strict': where it may list mute marks alone (the worker behind its release). -/
def OwnMv {X : Type} (P : Program) (main : Bool) (B : World) (strict : X → Prop) (t : Tau X) (g : Goroutine) (K : KP X) : Prop :=
  g.status = .running ∧ ∀ w, Sat B t.sg w → ∃ g' w' es s', stepG P main g w = .go g' w' es ∧ Guar B t.sg w s' w' es ∧ (strict t.x → ∀ e ∈ es, Event.mute e = true) ∧ K ⟨s', deafBehind t.d es, t.x⟩ g'

/-- One chunk's content laid anew. -/
def setO (s : List Chunk) (b : Nat) (o : Obj) : List Chunk := s.map fun c => if c.b = b then { c with o := o } else c

/-- A select of one case with a default, at a channel of one's own. -/
def PrivMv {X : Type} (P : Program) (main : Bool) (B : World) (t : Tau X) (g : Goroutine) (K : KP X) : Prop :=
  g.status = .running ∧ ∃ c cap buf closed s r, (⟨c, .chan cap buf closed s r false, true⟩ : Chunk) ∈ t.sg ∧
    ((∃ v z, closed = false ∧ (∀ w, Sat B t.sg w → stepG P main g w = .comm g #[scase c v z] false .select w #[]) ∧
        (buf.size < cap → K ⟨setO t.sg c (.chan cap (buf.push v) false (s + 1) r false), t.d, t.x⟩ (Go.Conc.served g (.tuple #[goInt 0, .bool false]))) ∧
        (cap ≤ buf.size → K t (Go.Conc.served g (.tuple #[goInt (-1), .bool false])))) ∨
     (∃ z, (∀ w, Sat B t.sg w → stepG P main g w = .comm g #[rcase c z] false .select w #[]) ∧
        (0 < buf.size → K ⟨setO t.sg c (.chan cap (buf.extract 1 buf.size) closed s (r + 1) false), t.d, t.x⟩ (Go.Conc.served g (.tuple #[goInt 0, .bool true, buf.getD 0 undef]))) ∧
        (buf.size = 0 → closed = true → K t (Go.Conc.served g (.tuple #[goInt 0, .bool false, z]))) ∧
        (buf.size = 0 → closed = false → K t (Go.Conc.served g (.tuple #[goInt (-1), .bool false, z])))))

theorem OwnMv.mono {X : Type} {P : Program} {main : Bool} {B : World} {strict : X → Prop} {t : Tau X} {g : Goroutine} {K K' : KP X} (h : OwnMv P main B strict t g K) (hk : ∀ t g, K t g → K' t g) : OwnMv P main B strict t g K' :=
  ⟨h.1, fun w hw => let ⟨g', w', es, s', h1, h2, h4, h3⟩ := h.2 w hw; ⟨g', w', es, s', h1, h2, h4, hk _ _ h3⟩⟩

theorem PrivMv.mono {X : Type} {P : Program} {main : Bool} {B : World} {t : Tau X} {g : Goroutine} {K K' : KP X} (h : PrivMv P main B t g K) (hk : ∀ t g, K t g → K' t g) : PrivMv P main B t g K' := by
  obtain ⟨hs, c, cap, buf, closed, s, r, hc, h⟩ := h
  refine ⟨hs, c, cap, buf, closed, s, r, hc, ?_⟩
  rcases h with ⟨v, z, h0, h1, h2, h3⟩ | ⟨z, h1, h2, h3, h4⟩
  · exact .inl ⟨v, z, h0, h1, fun x => hk _ _ (h2 x), fun x => hk _ _ (h3 x)⟩
  · exact .inr ⟨z, h1, fun x => hk _ _ (h2 x), fun x y => hk _ _ (h3 x y), fun x y => hk _ _ (h4 x y)⟩

/-- What is asked of the moves once and for all. -/
structure Moves {X : Type} (P : Program) (main : Bool) (B : World) (strict : X → Prop) (Mv : MvT X) : Prop where
  mono : ∀ {t g} {K K' : KP X}, (∀ t g, K t g → K' t g) → Mv t g K → Mv t g K'
  own : ∀ {t g} {K : KP X}, OwnMv P main B strict t g K → Mv t g K
  priv : ∀ {t g} {K : KP X}, PrivMv P main B t g K → Mv t g K

section
variable {X : Type} {P : Program} {main : Bool} {B : World} {Mv : MvT X} {strict : X → Prop} (M : Moves P main B strict Mv)
include M

theorem J.step {t : Tau X} {g : Goroutine} (h : Mv t g (J Mv)) : J Mv t g := fun K hK => hK _ _ (M.mono (fun _ _ hj => hj K hK) h)
/-- The other way: whoever is in J has a move. -/
theorem J.out {t : Tau X} {g : Goroutine} (h : J Mv t g) : Mv t g (J Mv) :=
  h (fun t g => Mv t g (J Mv)) fun _ _ hm => M.mono (fun _ _ hx => J.step M hx) hm
/-- Induction. -/
theorem J.ind {t : Tau X} {g : Goroutine} (h : J Mv t g) (K : KP X) (hK : ∀ t g, Mv t g (fun t g => K t g ∧ J Mv t g) → K t g) : K t g :=
  (h (fun t g => K t g ∧ J Mv t g) fun _ _ hm => ⟨hK _ _ hm, J.step M (M.mono (fun _ _ x => x.2) hm)⟩).1
theorem J.own {t : Tau X} {g : Goroutine} (h : OwnMv P main B strict t g (J Mv)) : J Mv t g := J.step M (M.own h)
theorem J.quiet {t : Tau X} {g g' : Goroutine} (hs : g.status = .running) (h : ∀ w, stepG P main g w = .go g' w #[]) (hj : J Mv t g') : J Mv t g :=
  J.own M ⟨hs, fun w hw => ⟨g', w, #[], t.sg, h w, Guar.idle hw, fun _ => by simp, hj⟩⟩
end

/-! ### code -/
section
variable {X : Type} (Mv : MvT X)
def After (b : Frame) (k : List Item) (cs : List Frame) : Exit → Act → Tau X → Prop
  | .normal, a, t => J Mv t (G (b.at a k) cs)
  | .exit id, a, t => ∃ k', exitTo id k = some k' ∧ J Mv t (G (b.at a k') cs)
  | .ret, a, t => ∀ todo, J Mv t (G { b.at a todo with mode := .returning } cs)
  | _, _, _ => False

def wpS (fn : FuncId) (c : Code) (Q : Exit → Act → Tau X → Prop) (a : Act) (t : Tau X) : Prop :=
  ∀ (b : Frame) (k : List Item) (cs : List Frame), b.fn = fn → b.kind ≠ .early → (∀ e a' t', Q e a' t' → After Mv b k cs e a' t') → J Mv t (G (b.at a (.code c :: k)) cs)

def OpsS (fn : FuncId) (ops : Array Oper) (todo : List Nat) (Q : Exit → Act → Tau X → Prop) (a : Act) (t : Tau X) : Prop :=
  ∀ (b : Frame) (k : List Item) (cs : List Frame), b.fn = fn → b.kind ≠ .early → (∀ e a' t', Q e a' t' → After Mv b k cs e a' t') → J Mv t (G (b.at a (.inRegion ops todo :: k)) cs)

/-- As Exit.then, over Tau. -/
def thenS (next : Act → Tau X → Prop) (Q : Exit → Act → Tau X → Prop) : Exit → Act → Tau X → Prop
  | .normal, a, t => next a t
  | e, a, t => Q e a t
def inBlockS (id : Nat) (Q : Exit → Act → Tau X → Prop) : Exit → Act → Tau X → Prop
  | .exit id', a, t => if id' = id then Q .normal a t else Q (.exit id') a t
  | e, a, t => Q e a t
end

section
variable {X : Type} {P : Program} {main : Bool} {B : World} {Mv : MvT X} {strict : X → Prop} (M : Moves P main B strict Mv) {fn : FuncId} {Q : Exit → Act → Tau X → Prop} {a : Act} {t : Tau X}

theorem After.push {b : Frame} {i : Item} {k : List Item} {cs : List Frame} {e : Exit} {a : Act} {t : Tau X} (hi : ∀ id, exitTo id (i :: k) = exitTo id k) (he : e ≠ .normal) (h : After Mv b k cs e a t) : After Mv b (i :: k) cs e a t := by
  cases e with
  | normal => exact absurd rfl he
  | exit id => obtain ⟨k', hk, hg⟩ := h; exact ⟨k', by rw [hi]; exact hk, hg⟩
  | ret => exact h
  | goto l => exact h
  | panic ch => exact h
  | outgrown => exact h

theorem wpS_mono {c : Code} {Q' : Exit → Act → Tau X → Prop} (h : wpS Mv fn c Q a t) (hq : ∀ e a t, Q e a t → Q' e a t) : wpS Mv fn c Q' a t :=
  fun b k cs hb hk hc => h b k cs hb hk fun e a' t' q => hc e a' t' (hq _ _ _ q)

include M
theorem wpS_skip (h : Q .normal a t) : wpS Mv fn .skip Q a t := fun b k cs _ _ hc => J.quiet M rfl (fun _ => stepG_skip) (hc _ _ _ h)
theorem wpS_label {l : Nat} (h : Q .normal a t) : wpS Mv fn (.label l) Q a t := fun b k cs _ _ hc => J.quiet M rfl (fun _ => stepG_label) (hc _ _ _ h)
theorem wpS_ret (h : Q .ret a t) : wpS Mv fn .ret Q a t := fun b k cs _ _ hc => J.quiet M rfl (fun _ => stepG_ret') (hc _ _ _ h _)
theorem wpS_exit {id : Nat} (h : Q (.exit id) a t) : wpS Mv fn (.exit id) Q a t := fun b k cs _ _ hc => by
  obtain ⟨k', hk', hg⟩ := hc _ _ _ h
  exact J.quiet M rfl (fun _ => stepG_exit hk') hg
theorem wpS_seq {x y : Code} (h : wpS Mv fn x (thenS (wpS Mv fn y Q) Q) a t) : wpS Mv fn (.seq x y) Q a t := by
  intro b k cs hb hk hc
  refine J.quiet M rfl (fun _ => stepG_seq) (h b (.code y :: k) cs hb hk fun e a' t' q => ?_)
  cases e with
  | normal => exact q b k cs hb hk hc
  | exit id => exact (hc _ _ _ q).push (fun _ => rfl) (by simp)
  | ret => exact (hc _ _ _ q).push (fun _ => rfl) (by simp)
  | goto l => exact hc _ _ _ q
  | panic ch => exact hc _ _ _ q
  | outgrown => exact hc _ _ _ q
theorem wpS_cond {c : Operand} {x y : Code} {v : Bool} (hc : a.eval c = .bool v) (h : wpS Mv fn (if v then x else y) Q a t) : wpS Mv fn (.cond c x y) Q a t :=
  fun b k cs hb hk hq => J.quiet M rfl (fun _ => stepG_cond hc) (h b k cs hb hk hq)
theorem wpS_cond_split {c : Operand} {x y : Code} {v : Bool} (hc : a.eval c = .bool v) (ht : v = true → wpS Mv fn x Q a t) (hf : v = false → wpS Mv fn y Q a t) : wpS Mv fn (.cond c x y) Q a t :=
  wpS_cond M hc (by cases v with | true => exact ht rfl | false => exact hf rfl)
theorem wpS_block {id : Nat} {c : Code} (h : wpS Mv fn c (inBlockS id Q) a t) : wpS Mv fn (.block id c) Q a t := by
  intro b k cs hb hk hc
  refine J.quiet M rfl (fun _ => stepG_block) (h b (.inBlock id :: k) cs hb hk fun e a' t' q => ?_)
  cases e with
  | normal => exact J.quiet M rfl (fun _ => stepG_inBlock) (hc _ _ _ q)
  | exit id' =>
    by_cases hid : id' = id
    · simp only [inBlockS, hid, if_true] at q
      exact ⟨k, by simp [exitTo, hid], hc _ _ _ q⟩
    · simp only [inBlockS, hid, if_false] at q
      obtain ⟨k', hk', hg⟩ := hc _ _ _ q
      have : (id == id') = false := by simp; exact fun h => hid h.symm
      exact ⟨k', by simp [exitTo, this, hk'], hg⟩
  | ret => exact fun todo => hc _ _ _ q todo
  | goto l => exact hc _ _ _ q
  | panic ch => exact hc _ _ _ q
  | outgrown => exact hc _ _ _ q
omit M in
theorem stepG_scope {b : Frame} {a : Act} {k : List Item} {cs : List Frame} {w : World} {c : Code} : stepG P main (G (b.at a (.code (.scope c) :: k)) cs) w = .go (G (b.at a (.code c :: .inScope c :: k)) cs) w := by simp [G, stepG, stepG.exec, Frame.at]
omit M in
theorem stepG_inScope {b : Frame} {a : Act} {k : List Item} {cs : List Frame} {w : World} {c : Code} : stepG P main (G (b.at a (.inScope c :: k)) cs) w = .go (G (b.at a k) cs) w := by simp [G, stepG, stepG.exec, Frame.at]
theorem wpS_scope {c : Code} (h : wpS Mv fn c Q a t) : wpS Mv fn (.scope c) Q a t := by
  intro b k cs hb hk hc
  refine J.quiet M rfl (fun _ => stepG_scope) (h b (.inScope c :: k) cs hb hk fun e a' t' q => ?_)
  cases e with
  | normal => exact J.quiet M rfl (fun _ => stepG_inScope) (hc _ _ _ q)
  | exit id => exact (hc _ _ _ q).push (fun _ => rfl) (by simp)
  | ret => exact (hc _ _ _ q).push (fun _ => rfl) (by simp)
  | goto l => exact hc _ _ _ q
  | panic ch => exact hc _ _ _ q
  | outgrown => exact hc _ _ _ q
/-- A LOOP: an invariant and a measure that every round lowers. -/
theorem wpS_loop {c : Code} (I : Act → Tau X → Prop) (m : Act → Tau X → Nat) (h₀ : I a t)
    (round : ∀ a t, I a t → wpS Mv fn c (thenS (fun a' t' => I a' t' ∧ m a' t' < m a t) Q) a t) : wpS Mv fn (.loop c) Q a t := by
  intro b k cs hb hk hc
  have key : ∀ N a t, m a t ≤ N → I a t → J Mv t (G (b.at a (.code c :: .inLoop c :: k)) cs) := by
    intro N
    induction N with
    | zero =>
      intro a t hm hI
      refine round a t hI b (.inLoop c :: k) cs hb hk fun e a' t' q => ?_
      cases e with
      | normal => exact absurd q.2 (by omega)
      | exit id => exact (hc _ _ _ q).push (fun _ => rfl) (by simp)
      | ret => exact (hc _ _ _ q).push (fun _ => rfl) (by simp)
      | goto l => exact hc _ _ _ q
      | panic ch => exact hc _ _ _ q
      | outgrown => exact hc _ _ _ q
    | succ N ih =>
      intro a t hm hI
      refine round a t hI b (.inLoop c :: k) cs hb hk fun e a' t' q => ?_
      cases e with
      | normal => exact J.quiet M rfl (fun _ => stepG_inLoop) (ih a' t' (by have := q.2; omega) q.1)
      | exit id => exact (hc _ _ _ q).push (fun _ => rfl) (by simp)
      | ret => exact (hc _ _ _ q).push (fun _ => rfl) (by simp)
      | goto l => exact hc _ _ _ q
      | panic ch => exact hc _ _ _ q
      | outgrown => exact hc _ _ _ q
  exact J.quiet M rfl (fun _ => stepG_loop) (key _ a t (Nat.le_refl _) h₀)

/-! ### regions -/
theorem wpS_region {id : Nat} {ops : Array Oper} (h : OpsS Mv fn ops (List.range ops.size) Q a t) : wpS Mv fn (.region id ops false) Q a t :=
  fun b k cs hb hk hc => J.quiet M rfl (fun _ => stepG_region) (h b k cs hb hk hc)
theorem opsS_nil {ops : Array Oper} (h : Q .normal a t) : OpsS Mv fn ops [] Q a t := fun b k cs _ _ hc => J.quiet M rfl (fun _ => stepG_region_end) (hc _ _ _ h)

/-- AN OPERATION OF ONE's OWN. -/
theorem opsS_cons {ops : Array Oper} {i : Nat} {rest : List Nat} {o : Oper} (ho : ops[i]? = some o) (hw : Region.wanted o (yielded ops a.tmps) = true)
    (h : ∀ w, Sat B t.sg w → uponK o a (fun a' w' => ∃ s', Guar B t.sg w s' w' (listed P fn a o w) ∧ (strict t.x → ∀ e ∈ listed P fn a o w, Event.mute e = true) ∧ OpsS Mv fn ops rest Q a' ⟨s', deafBehind t.d (listed P fn a o w), t.x⟩) ((execOp a.eval o).run P w)) : OpsS Mv fn ops (i :: rest) Q a t := by
  intro b k cs hb hk hc
  refine J.own M ⟨rfl, fun w hw' => ?_⟩
  have := h w hw'
  generalize hr : (execOp a.eval o).run P w = r at this
  match r, this with
  | .ok (.value v) w', ⟨s', hg, hst, hn⟩ => exact ⟨_, w', _, s', stepG_value ho hw hk hr, hb ▸ hg, hb ▸ hst, hb ▸ hn b k cs hb hk hc⟩
  | .ok .skip w', ⟨s', hg, hst, hn⟩ => exact ⟨_, w', _, s', stepG_none ho hw hk hr, hb ▸ hg, hb ▸ hst, hb ▸ hn b k cs hb hk hc⟩

/-- An operation that looks at no world. -/
theorem opsS_pure {ops : Array Oper} {i : Nat} {rest : List Nat} {o : Oper} {v : Value} (ho : ops[i]? = some o) (hw : Region.wanted o (yielded ops a.tmps) = true)
    (hr : ∀ w, (execOp a.eval o).run P w = .ok (.value v) w) (he : ∀ w, (execOp a.eval o).events P w #[] = #[]) (h : OpsS Mv fn ops rest Q (a.put o.dst v) t) : OpsS Mv fn ops (i :: rest) Q a t := by
  refine opsS_cons M ho hw fun w hw' => ?_
  have hl : listed P fn a o w = #[] := by unfold listed; rw [he w]; exact seen_none P fn
  rw [hr w, hl]
  exact ⟨t.sg, Guar.idle hw', fun _ => by simp, h⟩
theorem opsS_pure_k {ops : Array Oper} {i : Nat} {rest : List Nat} {o : Oper} (ho : ops[i]? = some o) (hw : Region.wanted o (yielded ops a.tmps) = true)
    (h : ∃ v, (∀ w, (execOp a.eval o).run P w = .ok (.value v) w) ∧ (∀ w, (execOp a.eval o).events P w #[] = #[]) ∧ OpsS Mv fn ops rest Q (a.put o.dst v) t) : OpsS Mv fn ops (i :: rest) Q a t :=
  let ⟨_, hr, he, hn⟩ := h; opsS_pure M ho hw hr he hn
theorem opsS_unwanted {ops : Array Oper} {i : Nat} {rest : List Nat} {o : Oper} (ho : ops[i]? = some o) (hw : Region.wanted o (yielded ops a.tmps) = false)
    (h : OpsS Mv fn ops rest Q (a.put o.dst undef) t) : OpsS Mv fn ops (i :: rest) Q a t :=
  fun b k cs hb hk hc => J.quiet M rfl (fun _ => stepG_unwanted ho hw) (h b k cs hb hk hc)
end

/-! ### calls -/
section
variable {X : Type} (Mv : MvT X)
/-- A contract: entered on top of any frame, the function comes back to it with a value, in a state, of Post. -/
def CallsS (P : Program) (f : FuncId) (args : Array Value) (t : Tau X) (Post : Value → Tau X → Prop) : Prop :=
  ∀ (fr : Frame) (cs : List Frame), (∀ v t', Post v t' → J Mv t' (G (fr.finish v) cs)) → J Mv t (G (Frame.enter P f args .normal) (fr :: cs))
/-- The same of a deferred call, of a frame that is on its way out by a plain return. -/
def DCallsS (P : Program) (f : FuncId) (args : Array Value) (t : Tau X) (Post : Tau X → Prop) : Prop :=
  ∀ (fr : Frame) (cs : List Frame), fr.mode = .returning → (∀ t', Post t' → J Mv t' (G fr cs)) → J Mv t (G (Frame.enter P f args .deferred) (fr :: cs))
/-- A frame on its way out. -/
def LeaveS (f : FuncId) (a : Act) (t : Tau X) (Post : Value → Tau X → Prop) : Prop :=
  ∀ (todo : List Item) (fr : Frame) (cs : List Frame), (∀ v t', Post v t' → J Mv t' (G (fr.finish v) cs)) → J Mv t (G { (base f).at a todo with mode := .returning } (fr :: cs))
def DLeaveS (f : FuncId) (a : Act) (t : Tau X) (Post : Tau X → Prop) : Prop :=
  ∀ (todo : List Item) (fr : Frame) (cs : List Frame), fr.mode = .returning → (∀ t', Post t' → J Mv t' (G fr cs)) → J Mv t (G { (baseD f).at a todo with mode := .returning } (fr :: cs))
def bodyPostS (L : Act → Tau X → Prop) : Exit → Act → Tau X → Prop
  | .normal, a, t | .ret, a, t => L a t
  | _, _, _ => False
end

section
variable {X : Type} {P : Program} {main : Bool} {B : World} {Mv : MvT X} {strict : X → Prop} (M : Moves P main B strict Mv) {t : Tau X}

theorem CallsS.mono {f : FuncId} {args : Array Value} {Post Post' : Value → Tau X → Prop} (h : CallsS Mv P f args t Post) (hp : ∀ v t, Post v t → Post' v t) : CallsS Mv P f args t Post' :=
  fun fr cs hn => h fr cs fun v t' p => hn v t' (hp v t' p)

include M
theorem callsS_of {f : FuncId} {fn : Func} {c : Code} {args : Array Value} {Post : Value → Tau X → Prop} (hf : P.funcs[f]? = some fn) (hb : fn.body = some c)
    (h : wpS Mv f c (bodyPostS fun a t => LeaveS Mv f a t Post) { tmps := args ++ Array.replicate (fn.ntmps - args.size) undef, defers := [] } t) : CallsS Mv P f args t Post := by
  intro fr cs hn
  rw [enter_at args hf hb]
  refine h (base f) [] (fr :: cs) rfl (by simp [base]) fun e a' t' q => ?_
  cases e with
  | normal => exact J.quiet M rfl (fun _ => stepG_end) (q [] fr cs hn)
  | ret => exact fun todo => q todo fr cs hn
  | exit id => exact q.elim
  | goto l => exact q.elim
  | panic ch => exact q.elim
  | outgrown => exact q.elim
theorem dcallsS_of {f : FuncId} {fn : Func} {c : Code} {args : Array Value} {Post : Tau X → Prop} (hf : P.funcs[f]? = some fn) (hb : fn.body = some c)
    (h : wpS Mv f c (bodyPostS fun a t => DLeaveS Mv f a t Post) { tmps := args ++ Array.replicate (fn.ntmps - args.size) undef, defers := [] } t) : DCallsS Mv P f args t Post := by
  intro fr cs hm hn
  rw [enter_atD args hf hb]
  refine h (baseD f) [] (fr :: cs) rfl (by simp [baseD]) fun e a' t' q => ?_
  cases e with
  | normal => exact J.quiet M rfl (fun _ => stepG_end) (q [] fr cs hm hn)
  | ret => exact fun todo => q todo fr cs hm hn
  | exit id => exact q.elim
  | goto l => exact q.elim
  | panic ch => exact q.elim
  | outgrown => exact q.elim
theorem leaveS_done {f : FuncId} {fn : Func} {a : Act} {v : Value} {Post : Value → Tau X → Prop} (hd : a.defers = []) (hf : P.funcs[f]? = some fn) (hr : ResultsC P fn a.tmps v) (hp : Post v t) : LeaveS Mv f a t Post :=
  fun todo fr cs hn => J.quiet M rfl (fun w => stepG_leave (b := base f) rfl hd hf (hr w).1 (hr w).2) (hn v t hp)
theorem dleaveS_done {f : FuncId} {fn : Func} {a : Act} {Post : Tau X → Prop} (hd : a.defers = []) (hf : P.funcs[f]? = some fn) (hr : fn.results = #[]) (hp : Post t) : DLeaveS Mv f a t Post :=
  fun todo fr cs hm hn => J.quiet M rfl (fun w => stepG_leave_deferred (b := baseD f) rfl hd hf (results_none hr _ P w) (events_results_none hr _ _) hm) (hn t hp)
/-- The next deferred call, of a function with a Go body. -/
theorem leaveS_defer {f g : FuncId} {gn : Func} {a : Act} {args : Array Value} {ds : List Deferred} {c : Code} {Post : Value → Tau X → Prop} (hd : a.defers = dcall g args :: ds) (hf : P.funcs[g]? = some gn)
    (hname : (gn.name == "runtime.NumGoroutine") = false) (hb : gn.body = some c) (h : DCallsS Mv P g args t fun t' => LeaveS Mv f ⟨a.tmps, ds⟩ t' Post) : LeaveS Mv f a t Post := by
  intro todo fr cs hn
  refine J.quiet M rfl (fun w => stepG_unwind_enter hd hf hname hb) ?_
  rw [← enter_atD args hf hb]
  exact h _ _ rfl fun t' hl => hl todo fr cs hn
/-- THROUGH A CALL. -/
theorem opsS_call {fn : FuncId} {Q : Exit → Act → Tau X → Prop} {a : Act} {ops : Array Oper} {i : Nat} {rest : List Nat} {o : Oper} {f : FuncId} {fu : Func} {args : Array Operand} {ats : Array TypeId} {Post : Value → Tau X → Prop}
    (ho : ops[i]? = some o) (hw : Region.wanted o (yielded ops a.tmps) = true) (hop : o.op = .call { callee := .value (.func f), args, argTypes := ats })
    (hf : P.funcs[f]? = some fu) (hname : (fu.name == "runtime.NumGoroutine") = false) (hb : fu.body.isNone = false)
    (hcall : CallsS Mv P f (args.map a.eval) t Post) (hnext : ∀ v t', Post v t' → OpsS Mv fn ops rest Q (a.put o.dst v) t') : OpsS Mv fn ops (i :: rest) Q a t := by
  intro b k cs hbf hk hc
  have hl : ∀ w, listed P b.fn a o w = #[] := fun w => by unfold listed; rw [events_call_body hop hf hname hb]; exact seen_none P _
  refine J.quiet M rfl (fun w => by rw [stepG_enter ho hw hk (run_call_body hop hf hname hb), hl w]) ?_
  refine hcall _ cs fun v t' hp => ?_
  have hfin : (b.at a (.inRegion ops (i :: rest) :: k)).finish v = b.at (a.put o.dst v) (.inRegion ops rest :: k) := by rw [Frame.finish_at, ho]; rfl
  rw [hfin]
  exact hnext v t' hp b k cs hbf hk hc
/-- A 'defer' of a function named outright. -/
theorem opsS_defer {fn : FuncId} {Q : Exit → Act → Tau X → Prop} {a : Act} {ops : Array Oper} {i : Nat} {rest : List Nat} {o : Oper} {f : FuncId} {as : Array Operand} {ats : Array TypeId}
    (ho : ops[i]? = some o) (hw : Region.wanted o (yielded ops a.tmps) = true) (hop : o.op = .defer { callee := .value (.func f), args := as, argTypes := ats })
    (h : OpsS Mv fn ops rest Q (Act.put ⟨a.tmps, dcall f (as.map a.eval) :: a.defers⟩ o.dst undef) t) : OpsS Mv fn ops (i :: rest) Q a t :=
  fun b k cs hbf hk hc => J.quiet M rfl (fun _ => stepG_defer ho hw hk hop) (h b k cs hbf hk hc)
end

end Go.Proofs.Ytdmhgajamepgoaa.Q
