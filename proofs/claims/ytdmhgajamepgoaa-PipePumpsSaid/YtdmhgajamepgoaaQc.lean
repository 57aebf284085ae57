/-
  OWN TEXT. PIPE: THE TRACE. What is held of it whoever runs ('TrB'); what one goroutine may append ('AppOk'); that no race comes of it, and what everybody then knows.
-/
import Derived.Test.YtdmhgajamepgoaaQb
import Derived.Conc.Beside
set_option linter.unusedVariables false
set_option linter.unusedSimpArgs false
set_option linter.unusedSectionVars false
namespace Go.Proofs.Ytdmhgajamepgoaa.Q
open Go Go.Conc

structure TrB (B : World) (n : Nat) (t : Trace) : Prop where
  clean : ∀ said, ¬ Race said t
  low : ∀ i x a, touchAt t i = some x → x.loc = .cell a → a.block < B.heap.size → x.write = false
  objs : ∀ i x r, touchAt t i = some x → x.loc = .obj r → x.kind = .atomic
  seen : ∀ op ∈ t, op.act.low n
  norel : ∀ op ∈ t, ∀ a, op.act ≠ .mark (.release a)

/-- What a touch may be: at a block of one's own, or a new one; a plain read at a block that one knows, or below; a channel's; at the group. -/
inductive TouchOk (B : World) (s : List Chunk) (n : Nat) (Gp : Nat → Prop) (g : Nat) : Touch → Prop
  | own (y : Touch) (a : Addr) : y.loc = .cell a → Mine s a.block ∨ n ≤ a.block → B.heap.size ≤ a.block → TouchOk B s n Gp g y
  | read (a : Addr) : Known s a.block ∨ a.block < B.heap.size → TouchOk B s n Gp g ⟨.cell a, false, .plain⟩
  | obj (r : Nat) : TouchOk B s n Gp g ⟨.obj r, false, .atomic⟩
  | grp (y : Touch) (a : Addr) : y.loc = .cell a → Gp a.block → B.heap.size ≤ a.block → y.kind ≠ .plain → (g ≠ 0 → y.kind = .atomic) → TouchOk B s n Gp g y

structure AppOk (B : World) (s : List Chunk) (n n' : Nat) (Gp : Nat → Prop) (g : Nat) (u : Trace) : Prop where
  gs : ∀ op ∈ u, op.g = g
  low : ∀ op ∈ u, op.act.low n'
  norel : ∀ op ∈ u, ∀ a, op.act ≠ .mark (.release a)
  touch : ∀ op ∈ u, ∀ y, op.act.touch? = some y → TouchOk B s n Gp g y

theorem touchAt_cases {t u : Trace} {i : Nat} {x : Touch} (h : touchAt (t ++ u) i = some x) : (i < t.size ∧ touchAt t i = some x) ∨ (t.size ≤ i ∧ ∃ op ∈ u, (t ++ u)[i]? = some op ∧ op.act.touch? = some x) := by
  obtain ⟨op, hop, hx⟩ := touch_of h
  rcases getElem?_append_cases hop with ⟨hi, ho⟩ | ⟨hi, ho⟩
  · exact .inl ⟨hi, by rw [touchAt_of ho]; exact hx⟩
  · exact .inr ⟨hi, op, ho, hop, hx⟩

theorem touchAt_lt {t : Trace} {i : Nat} {x : Touch} (h : touchAt t i = some x) : i < t.size := by
  obtain ⟨op, hop, _⟩ := touch_of h
  exact lt_size_of_getElem? hop

theorem TrB.lowc {B : World} {n : Nat} {t : Trace} (h : TrB B n t) {i : Nat} {x : Touch} {a : Addr} (ht : touchAt t i = some x) (hl : x.loc = .cell a) : a.block < n := by
  obtain ⟨op, hop, hx⟩ := touch_of ht
  have := h.seen op (mem_of_getElem? hop)
  cases hact : op.act with
  | access e =>
    rw [hact] at hx this
    simp only [MemAct.touch?, Option.some.injEq] at hx
    subst hx
    simp only at hl
    simpa [MemAct.low, hl, Loc.low] using this
  | mark m =>
    rw [hact] at hx this
    cases m <;> simp only [MemAct.touch?, Option.some.injEq, reduceCtorEq] at hx <;> subst hx <;> simp only [Loc.cell.injEq] at hl <;> subst hl <;> exact this
  | _ => rw [hact] at hx; simp [MemAct.touch?] at hx

section
variable {B : World} {s : List Chunk} {n n' : Nat} {Gp : Nat → Prop} {g : Nat} {t u : Trace} {bad : Nat → Touch → Prop}

/-- What is not known to who acts is none of what it may touch. -/
def Compat (s : List Chunk) (Gp : Nat → Prop) (g : Nat) (t : Trace) (bad : Nat → Touch → Prop) : Prop :=
  ∀ i x a, bad i x → touchAt t i = some x → x.loc = .cell a → ¬ Mine s a.block ∧ (Known s a.block → x.write = false) ∧ (Gp a.block → x.kind ≠ .plain ∧ (g = 0 → x.kind = .atomic))

theorem app_base (h : TrB B n t) (ha : AppOk B s n n' Gp g u) (hn : n ≤ n') (hk : ∀ i x, touchAt t i = some x → x.loc.isMemory = true → Knows t g i ∨ bad i x) (hc : Compat s Gp g t bad) : TrB B n' (t ++ u) := by
  refine ⟨fun said => noRace_append (h.clean said) ha.gs fun i x hx op hop y hy hconf => ?_, fun i x a hx hl hlow => ?_, fun i x r hx hl => ?_, ?_, ?_⟩
  · obtain ⟨hloc, hmem, hwr, hkind⟩ := hconf
    rcases hk i x hx hmem with hk | hb
    · exact hk
    exfalso
    have hT := ha.touch op hop y hy
    cases hT with
    | own _ a hya hown _ =>
      have hxa : x.loc = .cell a := hloc.trans hya
      obtain ⟨h1, _, _⟩ := hc i x a hb hx hxa
      rcases hown with ho | ho
      · exact h1 ho
      · have := h.lowc hx hxa; omega
    | read a hr =>
      have hxa : x.loc = .cell a := hloc
      obtain ⟨_, h2, _⟩ := hc i x a hb hx hxa
      have : x.write = false := by
        rcases hr with hr | hr
        · exact h2 hr
        · exact h.low i x a hx hxa hr
      simp [this] at hwr
    | obj r =>
      have hxa : x.loc = .obj r := hloc
      have := h.objs i x r hx hxa
      simp [this] at hkind
    | grp _ a hya hg _ hnp hat =>
      have hxa : x.loc = .cell a := hloc.trans hya
      obtain ⟨_, _, h3⟩ := hc i x a hb hx hxa
      obtain ⟨hxp, hx0⟩ := h3 hg
      rcases hkind with e | e | ⟨_, e1, e2⟩
      · exact hxp e
      · exact hnp e
      · by_cases h0 : g = 0
        · rw [hx0 h0] at e1; cases e1
        · rw [hat h0] at e2; cases e2
  · rcases touchAt_cases hx with ⟨_, hx'⟩ | ⟨_, op, hop, _, hy⟩
    · exact h.low i x a hx' hl hlow
    · have hT := ha.touch op hop x hy
      cases hT with
      | own _ a' hya _ hB => rw [hl] at hya; cases hya; omega
      | read a' _ => rfl
      | obj r => rfl
      | grp _ a' hya _ hB _ _ => rw [hl] at hya; cases hya; omega
  · rcases touchAt_cases hx with ⟨_, hx'⟩ | ⟨_, op, hop, _, hy⟩
    · exact h.objs i x r hx' hl
    · have hT := ha.touch op hop x hy
      cases hT with
      | own _ a' hya _ _ => rw [hl] at hya; cases hya
      | read a' _ => cases hl
      | obj r => rfl
      | grp _ a' hya _ _ _ _ => rw [hl] at hya; cases hya
  · exact seen_app (fun op hop => MemAct.low_mono hn (h.seen op hop)) ha.low
  · intro op hop
    rcases Array.mem_append.1 hop with h1 | h1
    · exact h.norel op h1
    · exact ha.norel op h1

/-- What who acts knows behind it. -/
theorem app_me (ha : ∀ op ∈ u, op.g = g) (hk : ∀ i x, touchAt t i = some x → x.loc.isMemory = true → Knows t g i ∨ bad i x) :
    ∀ i x, touchAt (t ++ u) i = some x → x.loc.isMemory = true → Knows (t ++ u) g i ∨ (touchAt t i = some x ∧ bad i x) := by
  intro i x hx hm
  rcases touchAt_cases hx with ⟨_, hx'⟩ | ⟨_, op, hop, hi, _⟩
  · exact (hk i x hx' hm).imp (·.app u) fun hb => ⟨hx', hb⟩
  · have := knows_own hi
    rw [ha op hop] at this
    exact .inl this

/-- What anybody else knows. -/
theorem app_other {g' : Nat} (hk : ∀ i x, touchAt t i = some x → x.loc.isMemory = true → Knows t g' i ∨ bad i x) :
    ∀ i x, touchAt (t ++ u) i = some x → x.loc.isMemory = true → Knows (t ++ u) g' i ∨ (touchAt t i = some x ∧ bad i x) ∨ (t.size ≤ i ∧ ∃ op ∈ u, (t ++ u)[i]? = some op ∧ op.act.touch? = some x) := by
  intro i x hx hm
  rcases touchAt_cases hx with ⟨_, hx'⟩ | h
  · exact (hk i x hx' hm).imp (·.app u) fun hb => .inl ⟨hx', hb⟩
  · exact .inr (.inr h)
end

/-! ### an own step's entries -/
theorem appOk_own {B : World} {s : List Chunk} {n n' : Nat} {Gp : Nat → Prop} {g : Nat} {es : Array Event} (hn : n ≤ n') (hB : B.heap.size ≤ n) (hs : ∀ c ∈ s, B.heap.size ≤ c.b ∧ c.b < n) (he : ∀ e ∈ es, EvOk B s n n' e) (fn : FuncId) (pos : String) :
    AppOk B s n n' Gp g (MemOp.ofEvents g fn pos es) := by
  have hmine : ∀ b, Mine s b → B.heap.size ≤ b ∧ b < n := fun b ⟨c, hc, hb, _⟩ => hb ▸ hs c hc
  have hknown : ∀ b, Known s b → B.heap.size ≤ b ∧ b < n := fun b ⟨c, hc, hb⟩ => hb ▸ hs c hc
  refine ⟨?_, ?_, ?_, ?_⟩
  · intro op hop
    obtain ⟨e, _, hop⟩ := Go.Conc.mem_ofEvents hop
    subst hop
    rfl
  · intro op hop
    obtain ⟨e, hm, hop⟩ := Go.Conc.mem_ofEvents hop
    subst hop
    cases he e hm with
    | own a wr sy h =>
      have : a.block < n' := h.elim (fun h => Nat.lt_of_lt_of_le (hmine _ h).2 hn) (·.2)
      cases wr <;> cases sy <;> exact this
    | read a h => exact (h.elim (fun h => Nat.lt_of_lt_of_le (hknown _ h).2 hn) (fun h => by omega) : a.block < n')
    | obj r wr h => cases wr <;> exact (by have := (hmine _ h).2; omega : r < n')
    | dis => trivial
    | ena => trivial
    | full => trivial
    | acq a h => exact (by have := (hmine _ h).2; omega : a.block < n')
    | rel a h => exact (by have := (hmine _ h).2; omega : a.block < n')
    | said a h => exact (by have := (hmine _ h).2; omega : a.block < n')
  · intro op hop a
    obtain ⟨e, hm, hop⟩ := Go.Conc.mem_ofEvents hop
    subst hop
    cases he e hm with
    | own a wr sy h => cases wr <;> cases sy <;> simp [MemAct.ofEvent]
    | read a h => simp [MemAct.ofEvent]
    | obj r wr h => cases wr <;> simp [MemAct.ofEvent]
    | dis => simp [MemAct.ofEvent]
    | ena => simp [MemAct.ofEvent]
    | full => simp [MemAct.ofEvent]
    | acq a h => simp [MemAct.ofEvent]
    | rel a h => simp [MemAct.ofEvent]
    | said a h => simp [MemAct.ofEvent]
  · intro op hop y hy
    obtain ⟨e, hm, hop⟩ := Go.Conc.mem_ofEvents hop
    subst hop
    cases he e hm with
    | own a wr sy h =>
      have hB' : B.heap.size ≤ a.block := h.elim (fun h => (hmine _ h).1) (fun h => Nat.le_trans hB h.1)
      refine .own y a ?_ (h.imp id (·.1)) hB'
      cases wr <;> cases sy <;> simp [MemAct.ofEvent, MemAct.touch?] at hy <;> subst hy <;> rfl
    | read a h => simp [MemAct.ofEvent, MemAct.touch?] at hy; subst hy; exact .read a h
    | obj r wr h =>
      cases wr
      · simp [MemAct.ofEvent, MemAct.touch?] at hy; subst hy; exact .obj r
      · simp [MemAct.ofEvent, MemAct.touch?] at hy
    | dis => simp [MemAct.ofEvent, MemAct.touch?] at hy
    | ena => simp [MemAct.ofEvent, MemAct.touch?] at hy
    | full => simp [MemAct.ofEvent, MemAct.touch?] at hy
    | acq a h => simp [MemAct.ofEvent, MemAct.touch?] at hy
    | rel a h => simp [MemAct.ofEvent, MemAct.touch?] at hy
    | said a h => simp [MemAct.ofEvent, MemAct.touch?] at hy; subst hy; exact .own _ a rfl (.inl h) (hmine _ h).1

end Go.Proofs.Ytdmhgajamepgoaa.Q
