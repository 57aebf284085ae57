/-
  OWN TEXT. PIPE: FROM THE ENTRY.
-/
import Derived.Test.YtdmhgajamepgoaaQw
set_option linter.unusedVariables false
set_option linter.unusedSimpArgs false
set_option linter.unusedSectionVars false
namespace Go.Proofs.Ytdmhgajamepgoaa.Q
open Go Go.Conc

theorem touchAt_nil (i : Nat) (x : Touch) : touchAt (#[] : Trace) i ≠ some x := by simp [touchAt, Trace.act?]

theorem alone_start (P : Program) (W : World) (g : Goroutine) : Alone P W (fun _ => False) #[g] W #[] (fun _ => 0) ⟨[], 0, .alone⟩ g := by
  refine ⟨⟨⟨past_nil.clean, fun i x a h => absurd h (touchAt_nil i x), fun i x r h => absurd h (touchAt_nil i x), by simp, by simp⟩, fun i x h0 _ hx => ?_, fun _ _ => rfl, Nat.le_refl _, fun b hb => hb.elim⟩, rfl, rfl, rfl,
    ⟨rfl, rfl, Nat.le_refl _, fun _ _ => rfl, by simp, by simp, by simp⟩, by simp, fun i x h => absurd h (touchAt_nil i x)⟩
  have : i < 1 := by simpa using (Array.getElem?_eq_some_iff.1 hx).1
  omega

/-- ████ A LAW WHOSE ENTRY IS IN J: as the rows want it. ████ -/
theorem runs_of_j {P : Program} {W : World} {Post : Value → World → Prop} {g : Goroutine} (hj : J (CMv P W Post) ⟨[], 0, .alone⟩ g) :
    ∃ M last o w' t', runNT P (M + 1) (solo g W) #[] = (.ended o w', t') ∧ runN P M (solo g W) = .next last ∧ step P last = .ended o w' ∧ Good P Post last o w' t' :=
  (j_ends hj).1 _ _ _ none _ _ (alone_start P W g)

end Go.Proofs.Ytdmhgajamepgoaa.Q
