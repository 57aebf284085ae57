/-
  OWN TEXT. PIPE: the plain law of PipeOrder: what the queue holds when all, or as many as wanted, have been worked on.
-/
import Derived.Test.YtdmhgajamepgoaaRv
set_option linter.unusedVariables false
set_option linter.unusedSimpArgs false
set_option linter.unusedSectionVars false
namespace Go.Proofs.Ytdmhgajamepgoaa.Q
open Go Go.Conc

def oOut (n : Nat) : List Int → Int → List Int := fun l x => if l.length < n then [x] else []
def oNx (n : Nat) : List Int → Int → List Int := fun l x => putL n l false x

theorem foldO (n : Nat) : ∀ (L σ : List Int), σ.length ≤ n → L.foldl (oNx n) σ = (σ ++ L).take n := by
  intro L
  induction L with
  | nil => intro σ h; simp [List.take_of_length_le h]
  | cons x L ih =>
    intro σ h
    by_cases hl : σ.length < n
    · have e : oNx n σ x = σ ++ [x] := by simp [oNx, putL, hl]
      rw [List.foldl_cons, e, ih _ (by simp; omega)]
      simp
    · have e : oNx n σ x = σ := by simp [oNx, putL, hl]
      rw [List.foldl_cons, e, ih _ h, List.take_append_of_le_length (by omega), List.take_append_of_le_length (by omega)]
theorem allO (n : Nat) : ∀ (L σ : List Int), σ.length ≤ n → allOut (oOut n) (oNx n) σ L = L.take (n - σ.length) := by
  intro L
  induction L with
  | nil => intro σ h; simp [allOut]
  | cons x L ih =>
    intro σ h
    by_cases hl : σ.length < n
    · have e : oNx n σ x = σ ++ [x] := by simp [oNx, putL, hl]
      have e2 : oOut n σ x = [x] := by simp [oOut, hl]
      have e3 : n - σ.length = (n - (σ ++ [x]).length) + 1 := by simp; omega
      simp only [allOut]
      rw [e, e2, ih _ (by simp; omega), e3]
      rfl
    · have e : oNx n σ x = σ := by simp [oNx, putL, hl]
      have e2 : oOut n σ x = [] := by simp [oOut, hl]
      have e3 : n - σ.length = 0 := by omega
      simp only [allOut]
      rw [e, e2, ih _ h, e3]
      simp
theorem finO {n : Nat} {I : List Int → List Chunk → Prop} {L : List Int} {s : Nat} {sw : List Chunk} {wh : Bool} (h : FinOf I (oOut n) (oNx n) [] L wh s sw) (hs : (L.take n).length ≤ s) : I (L.take n) sw := by
  obtain ⟨pre, suf, rfl, h1, h2, -⟩ := h
  rw [foldO n pre [] (by simp)] at h2
  rw [allO n pre [] (by simp)] at h1
  simp only [List.nil_append, List.length_nil, Nat.sub_zero] at h1 h2
  have e : pre.take n = (pre ++ suf).take n := by
    by_cases hn : n ≤ pre.length
    · rw [List.take_append_of_le_length hn]
    · have : suf = [] := by
        apply List.eq_nil_of_length_eq_zero
        simp at h1 hs
        omega
      rw [this]; simp
  rw [← e]; exact h2
end Go.Proofs.Ytdmhgajamepgoaa.Q
