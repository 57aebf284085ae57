/-
  OWN TEXT. PIPE: THE MACHINE, (6): the steps at the group and at the channels: what they list, what they leave.
-/
import Derived.Test.YtdmhgajamepgoaaQi
set_option linter.unusedVariables false
set_option linter.unusedSimpArgs false
set_option linter.unusedSectionVars false
namespace Go.Proofs.Ytdmhgajamepgoaa.Q
open Go Go.Conc
open Go.ConcN (sumTo upd sumTo_upd upd_ne upd_same)

inductive EvG (G n g : Nat) : Event → Prop
  | at (a : Addr) (wr : Bool) : a.block = G → EvG G n g ⟨.cell a, wr, true⟩
  | dis : EvG G n g ⟨.mark .disable, false, true⟩
  | ena : EvG G n g ⟨.mark .enable, false, true⟩
  | acq (a : Addr) : a.block = G → EvG G n g ⟨.mark (.acquire a), false, true⟩
  | rel (a : Addr) : a.block = G → EvG G n g ⟨.mark (.releaseMerge a), false, true⟩
  | said (a : Addr) : a.block = G → g = 0 → EvG G n g ⟨.mark (.write a), false, true⟩
  | obj (r : Nat) (wr : Bool) : r < n → EvG G n g ⟨.obj r, wr, true⟩

theorem appOk_grp {B : World} {s : List Chunk} {n G g : Nat} {es : Array Event} (hG : G < n) (hB : B.heap.size ≤ G) (he : ∀ e ∈ es, EvG G n g e) (fn : FuncId) (pos : String) :
    AppOk B s n n (· = G) g (MemOp.ofEvents g fn pos es) := by
  refine ⟨?_, ?_, ?_, ?_⟩
  · intro op hop
    obtain ⟨e, _, hop⟩ := Go.Conc.mem_ofEvents hop
    subst hop; rfl
  · intro op hop
    obtain ⟨e, hm, hop⟩ := Go.Conc.mem_ofEvents hop
    subst hop
    cases he e hm with
    | «at» a wr h => cases wr <;> exact (h ▸ hG : a.block < n)
    | dis => trivial
    | ena => trivial
    | acq a h => exact (h ▸ hG : a.block < n)
    | rel a h => exact (h ▸ hG : a.block < n)
    | said a h _ => exact (h ▸ hG : a.block < n)
    | obj r wr h => cases wr <;> exact h
  · intro op hop a
    obtain ⟨e, hm, hop⟩ := Go.Conc.mem_ofEvents hop
    subst hop
    cases he e hm with
    | «at» a wr h => cases wr <;> simp [MemAct.ofEvent]
    | obj r wr h => cases wr <;> simp [MemAct.ofEvent]
    | _ => simp [MemAct.ofEvent]
  · intro op hop y hy
    obtain ⟨e, hm, hop⟩ := Go.Conc.mem_ofEvents hop
    subst hop
    cases he e hm with
    | «at» a wr h =>
      have e : y = ⟨.cell a, wr, .atomic⟩ := by cases wr <;> simp [MemAct.ofEvent, MemAct.touch?] at hy <;> exact hy.symm
      subst e
      exact .grp _ a rfl h (h ▸ hB) (by simp) (fun _ => rfl)
    | said a h h0 =>
      simp [MemAct.ofEvent, MemAct.touch?] at hy
      subst hy
      exact .grp _ a rfl h (h ▸ hB) (by simp) (fun e => absurd h0 e)
    | obj r wr h =>
      cases wr
      · simp [MemAct.ofEvent, MemAct.touch?] at hy; subst hy; exact .obj r
      · simp [MemAct.ofEvent, MemAct.touch?] at hy
    | dis => simp [MemAct.ofEvent, MemAct.touch?] at hy
    | ena => simp [MemAct.ofEvent, MemAct.touch?] at hy
    | acq a h => simp [MemAct.ofEvent, MemAct.touch?] at hy
    | rel a h => simp [MemAct.ofEvent, MemAct.touch?] at hy

/-- All that is said while one is deaf. -/
theorem mute_of {t : Trace} {k : Nat} {fn : FuncId} {pos : String} {es : Array Event} {G : Nat} (h : ∀ j, j ≤ es.size → 0 < deafBehind (Deaf t k) (es.extract 0 j)) : Mute t (MemOp.ofEvents k fn pos es) G := by
  rintro j op x a hj hop _ _ _ ⟨g, hg, hd⟩
  have hlt := lt_size_of_getElem? hop
  have hgk : g = k := by
    rcases getElem?_append_cases hop with ⟨hl, _⟩ | ⟨_, hm⟩
    · omega
    · obtain ⟨e, _, he⟩ := Go.Conc.mem_ofEvents hm
      simp [Trace.g?, hop, he] at hg
      exact hg.symm
  subst hgk
  have hs : (MemOp.ofEvents g fn pos es).size = es.size := by rw [ofEvents_eq]; simp
  have hj' : j - t.size ≤ es.size := by rw [Array.size_append, hs] at hlt; omega
  have := Go.Conc.deaf_inside t g fn pos es (j - t.size) hj'
  rw [show t.size + (j - t.size) = j by omega, hd] at this
  have := h _ hj'
  omega
theorem mute_none {t u : Trace} {G : Nat} (h : ∀ op ∈ u, ∀ x a, op.act.touch? = some x → x.loc = .cell a → a.block ≠ G) : Mute t u G := by
  intro j op x a hj hop hx hxa hG
  rcases getElem?_append_cases hop with ⟨hl, _⟩ | ⟨_, hm⟩
  · omega
  · exact absurd hG (h op hm x a hx hxa)
theorem mute_own {B : World} {s : List Chunk} {n n' g : Nat} {t : Trace} {es : Array Event} {G : Nat} (he : ∀ e ∈ es, EvOk B s n n' e) (h1 : ¬ Mine s G) (h2 : ¬ Known s G) (h3 : G < n) (h4 : B.heap.size ≤ G) (fn : FuncId) (pos : String) : Mute t (MemOp.ofEvents g fn pos es) G := by
  refine mute_none fun op hop x a hx hxa hG => ?_
  obtain ⟨e, hm, hop⟩ := Go.Conc.mem_ofEvents hop
  subst hop
  cases he e hm with
  | own a' wr sy h =>
    have : a' = a := by cases wr <;> cases sy <;> simp [MemAct.ofEvent, MemAct.touch?] at hx <;> subst hx <;> exact Loc.cell.inj hxa
    subst this
    rcases h with h | h
    · exact h1 (hG ▸ h)
    · omega
  | read a' h =>
    simp [MemAct.ofEvent, MemAct.touch?] at hx; subst hx
    obtain rfl : a' = a := Loc.cell.inj hxa
    rcases h with h | h
    · exact h2 (hG ▸ h)
    · omega
  | obj r wr h => cases wr <;> simp [MemAct.ofEvent, MemAct.touch?] at hx; subst hx; cases hxa
  | said a' h =>
    simp [MemAct.ofEvent, MemAct.touch?] at hx; subst hx
    obtain rfl : a' = a := Loc.cell.inj hxa
    exact h1 (hG ▸ h)
  | dis => simp [MemAct.ofEvent, MemAct.touch?] at hx
  | ena => simp [MemAct.ofEvent, MemAct.touch?] at hx
  | full => simp [MemAct.ofEvent, MemAct.touch?] at hx
  | acq a h => simp [MemAct.ofEvent, MemAct.touch?] at hx
  | rel a h => simp [MemAct.ofEvent, MemAct.touch?] at hx

/-! ### the group's cells -/
section
variable {w : World} {G : Nat} {ty : TypeId} {st sm v : Int}
theorem set_st (h : w.heap[G]? = some (wgO ty st sm)) : (w.setCell (stA G) (.int .u64 v)).heap[G]? = some (wgO ty v sm) := by
  simp [World.setCell, stA, Array.getElem?_modify, h, wgO]
theorem set_sm (h : w.heap[G]? = some (wgO ty st sm)) : (w.setCell (smA G) (.int .u32 v)).heap[G]? = some (wgO ty st v) := by
  simp [World.setCell, smA, Array.getElem?_modify, h, wgO]
theorem set_cell_ne {a : Addr} {x : Value} {b : Nat} (h : b ≠ a.block) : (w.setCell a x).heap[b]? = w.heap[b]? := by
  simp [World.setCell, Array.getElem?_modify, Ne.symm h]
theorem set_cell_size {a : Addr} {x : Value} : (w.setCell a x).heap.size = w.heap.size := by simp [World.setCell]
end

end Go.Proofs.Ytdmhgajamepgoaa.Q
