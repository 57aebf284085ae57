/-
  OWN TEXT. PIPE: RULES FOR SINGLE OPERATIONS over OpsS.
-/
import Derived.Test.YtdmhgajamepgoaaQy
import Derived.Conc.CompanyMem
set_option linter.unusedVariables false
set_option linter.unusedSimpArgs false
set_option linter.unusedSectionVars false
namespace Go.Proofs.Ytdmhgajamepgoaa.Q
open Go Go.Conc

section
variable {X : Type} {P : Program} {main : Bool} {B : World} {Mv : MvT X} {strict : X → Prop} (M : Moves P main B strict Mv) {fn : FuncId} {Q : Exit → Act → Tau X → Prop} {a : Act} {t : Tau X}
include M

/-- An operation that turns nothing and lists nothing: what it yields is reckoned under a variable. -/
theorem opsS_look {ops : Array Oper} {i : Nat} {rest : List Nat} {o : Oper} (ho : ops[i]? = some o) (hw : Region.wanted o (yielded ops a.tmps) = true)
    (he : ∀ w, (execOp a.eval o).events P w #[] = #[])
    (h : ∀ w, Sat B t.sg w → ∀ K : Act → World → Prop, (∀ a', OpsS Mv fn ops rest Q a' t → K a' w) → uponK o a K ((execOp a.eval o).run P w)) : OpsS Mv fn ops (i :: rest) Q a t := by
  refine opsS_cons M ho hw fun w hs => ?_
  have hl : listed P fn a o w = #[] := by unfold listed; rw [he w]; exact seen_none P fn
  rw [hl]
  have key := h w hs (fun a' w' => w' = w ∧ OpsS Mv fn ops rest Q a' t) fun a' x => ⟨rfl, x⟩
  revert key
  cases (execOp a.eval o).run P w with
  | ok x w' => cases x <;> first | (rintro ⟨rfl, hn⟩; exact ⟨t.sg, Guar.idle hs, fun _ => by simp, hn⟩) | exact id
  | halt _ _ => exact id

/-- An operation that reads: the world stands; what it lists it may read. -/
theorem opsS_read {ops : Array Oper} {i : Nat} {rest : List Nat} {o : Oper} (ho : ops[i]? = some o) (hw : Region.wanted o (yielded ops a.tmps) = true) (hns : ¬ strict t.x)
    (he : ∀ w, Sat B t.sg w → ∀ e ∈ listed P fn a o w, EvOk B t.sg w.heap.size w.heap.size e ∧ e.loc ≠ .mark .disable ∧ e.loc ≠ .mark .enable)
    (h : ∀ w, Sat B t.sg w → ∀ K : Act → World → Prop, (∀ a', OpsS Mv fn ops rest Q a' t → K a' w) → uponK o a K ((execOp a.eval o).run P w)) : OpsS Mv fn ops (i :: rest) Q a t := by
  refine opsS_cons M ho hw fun w hs => ?_
  have hd : deafBehind t.d (listed P fn a o w) = t.d := deafBehind_still (fun e hm => ⟨(he w hs e hm).2.1, (he w hs e hm).2.2⟩) _
  rw [hd]
  have key := h w hs (fun a' w' => w' = w ∧ OpsS Mv fn ops rest Q a' t) fun a' x => ⟨rfl, x⟩
  revert key
  cases (execOp a.eval o).run P w with
  | ok x w' => cases x <;> first | (rintro ⟨rfl, hn⟩; exact ⟨t.sg, ⟨hs, Nat.le_refl _, fun _ _ _ => rfl, fun c hc => .inl ⟨c, hc, rfl, rfl⟩, fun e hm => (he _ hs e hm).1⟩, fun hx => absurd hx hns, hn⟩) | exact id
  | halt _ _ => exact id
end

theorem Sat.alloc {B : World} {s : List Chunk} {w : World} (h : Sat B s w) (ob : Obj) : Sat B (⟨w.heap.size, ob, true⟩ :: s) (w.alloc ob) := by
  have hne : ∀ b, b < w.heap.size → (w.alloc ob).heap[b]? = w.heap[b]? := fun b hb => by
    show (w.heap.push ob)[b]? = _
    rw [Array.getElem?_push, if_neg (by omega)]
  refine ⟨h.os, h.out, by show _ ≤ (w.heap.push ob).size; simp; have := h.size; omega, fun b hb => (hne b (Nat.lt_of_lt_of_le hb h.size)).trans (h.low b hb), fun c hc => ?_, fun c hc => ?_, ?_⟩
  · rcases List.mem_cons.1 hc with rfl | hc
    · show (w.heap.push ob)[w.heap.size]? = _
      simp
    · exact (hne c.b (h.lt c hc).2).trans (h.here c hc)
  · rcases List.mem_cons.1 hc with rfl | hc
    · exact h.size
    · exact h.above c hc
  · simp only [List.map_cons, List.nodup_cons]
    refine ⟨fun hm => ?_, h.nodup⟩
    obtain ⟨c, hc, e⟩ := List.mem_map.1 hm
    have := (h.lt c hc).2; omega

section
variable {X : Type} {P : Program} {main : Bool} {B : World} {Mv : MvT X} {strict : X → Prop} (M : Moves P main B strict Mv) {fn : FuncId} {Q : Exit → Act → Tau X → Prop} {a : Act} {t : Tau X}
include M
/-- An operation that lays one new block and lists nothing. -/
theorem opsS_alloc {ops : Array Oper} {i : Nat} {rest : List Nat} {o : Oper} (ob : Obj) (ho : ops[i]? = some o) (hw : Region.wanted o (yielded ops a.tmps) = true)
    (he : ∀ w, Sat B t.sg w → (execOp a.eval o).events P w #[] = #[])
    (h : ∀ w, Sat B t.sg w → ∀ K : Act → World → Prop, (∀ a', OpsS Mv fn ops rest Q a' ⟨⟨w.heap.size, ob, true⟩ :: t.sg, t.d, t.x⟩ → K a' (w.alloc ob)) → uponK o a K ((execOp a.eval o).run P w)) : OpsS Mv fn ops (i :: rest) Q a t := by
  refine opsS_cons M ho hw fun w hs => ?_
  have hl : listed P fn a o w = #[] := by unfold listed; rw [he w hs]; exact seen_none P fn
  rw [hl]
  have hsz : (w.alloc ob).heap.size = w.heap.size + 1 := by show (w.heap.push ob).size = _; simp
  have key := h w hs (fun a' w' => w' = w.alloc ob ∧ OpsS Mv fn ops rest Q a' ⟨⟨w.heap.size, ob, true⟩ :: t.sg, t.d, t.x⟩) fun a' x => ⟨rfl, x⟩
  have hgu : Guar B t.sg w (⟨w.heap.size, ob, true⟩ :: t.sg) (w.alloc ob) #[] := ⟨hs.alloc ob, by omega, fun b hb _ => by
    show (w.heap.push ob)[b]? = _
    rw [Array.getElem?_push, if_neg (by omega)], fun c hc => (List.mem_cons.1 hc).elim (fun e => .inr (by rw [e]; exact Nat.le_refl _)) fun hc => .inl ⟨c, hc, rfl, rfl⟩, by simp⟩
  revert key
  cases (execOp a.eval o).run P w with
  | ok x w' => cases x <;> first | (rintro ⟨rfl, hn⟩; exact ⟨_, hgu, fun _ => by simp, hn⟩) | exact id
  | halt _ _ => exact id
end

end Go.Proofs.Ytdmhgajamepgoaa.Q
