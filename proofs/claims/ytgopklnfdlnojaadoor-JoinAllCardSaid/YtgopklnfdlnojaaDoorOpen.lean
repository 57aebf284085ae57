/- What came in as data, read as lists: slices of whatever elements, field by field. No conditions. -/
import Derived.Test.YtgopklnfdlnojaaDoorWWords
import Derived.ProofKit
import Derived.OpenShut
import Derived.Deep.Slices
namespace Go.Proofs.YtgopklnfdlnojaaDoor.Open
open Go.ChangeShapes Go.WideShapes Go.ChangeAt Go.RowKit Go.Proofs.YtgopklnfdlnojaaDoorW.PrintWords
set_option linter.unusedVariables false

section
variable {H : Type} {enc : TypeId × Value → H} {P : Program} {W : World}

/-- Whatever cells read as data of type t are a thing of kind d, and G holds of it. -/
def Opens {α : Type} (enc : TypeId × Value → H) (P : Program) (W : World) (t : TypeId) (d : Kd α) (G : α → Prop) : Prop :=
  ∀ n cs y, DataW.trod enc P W 0 (fun _ => true) true n t cs = some y → ∃ a, d.K W a cs ∧ G a

theorem opens_int {t : TypeId} {k : IntKind} (ht : P.underlying t = some (.int k)) : Opens enc P W t (Kd.int k) (fun x => (Lit.int k x).wf = true) := by
  intro n cs y h
  obtain ⟨x, rfl, _, hw⟩ := DataW.trod_int ht h
  exact ⟨x, rfl, hw⟩

theorem opens_bool {t : TypeId} (ht : P.underlying t = some .bool) : Opens enc P W t Kd.bool (fun _ => True) := by
  intro n cs y h
  obtain ⟨b, rfl, _⟩ := DataW.trod_bool ht h
  exact ⟨b, rfl, trivial⟩

theorem build {α : Type} {Q : Nat → α → Prop} (n : Nat) (h : ∀ i, i < n → ∃ a, Q i a) : ∃ xs : List α, xs.length = n ∧ ∀ (i : Nat) (x : α), xs[i]? = some x → Q i x := by
  induction n with
  | zero => exact ⟨[], rfl, fun i x hx => by simp at hx⟩
  | succ n ih =>
    obtain ⟨xs, hl, hq⟩ := ih (fun i hi => h i (by omega))
    obtain ⟨a, ha⟩ := h n (by omega)
    refine ⟨xs ++ [a], by simp [hl], fun i x hx => ?_⟩
    by_cases hi : i < n
    · rw [List.getElem?_append_left (by omega)] at hx
      exact hq i x hx
    · have hlt := (List.getElem?_eq_some_iff.1 hx).1
      simp only [List.length_append, List.length_singleton] at hlt
      obtain rfl : i = n := by omega
      rw [List.getElem?_append_right (by omega), hl, Nat.sub_self] at hx
      simp at hx
      exact hx ▸ ha

theorem opens_slice {α : Type} {t e : TypeId} {d : Kd α} {G : α → Prop} (ht : P.underlying t = some (.slice e)) (hsz : P.cellsOf e = d.sz) (h : Opens enc P W e d G) :
    Opens enc P W t (Kd.slice e d) (fun xs => (∀ a ∈ xs, G a) ∧ xs.length ≤ maxLen) := by
  intro n cs y hy
  rcases Go.Deep.open_slice ht hy with ⟨rfl, _⟩ | ⟨a, len, cap, m, n', D, Pl, rfl, _, hl, hm, hmm, _, hx⟩
  · exact ⟨[], ⟨none, 0, rfl, Nat.le_refl _, rfl, by simp, fun h => absurd h (Nat.lt_irrefl 0)⟩, fun a ha => by simp at ha, Nat.zero_le _⟩
  · have hlm : len ≤ m := by rw [hmm]; simp; exact hl
    have key : ∀ i, i < len → ∃ z, G z ∧ ∃ c : List Value, c.length = d.sz ∧ d.K W z c ∧ ∀ j u, c[j]? = some u → W.cell? (a.add (i * d.sz + j)) = some u := by
      intro i hi
      obtain ⟨cs', h1, h2⟩ := hx i (by omega)
      obtain ⟨z, hz, hg⟩ := h n' cs' _ h2
      rw [hsz] at h1
      obtain ⟨_, h3, h4⟩ := World.cells?_some h1
      refine ⟨z, hg, cs', h3, hz, fun j u hu => ?_⟩
      have hj : j < d.sz := by
        have := (List.getElem?_eq_some_iff.1 hu).1
        omega
      have := h4 j hj
      rw [Go.Deep.add_add] at this
      rw [this]
      exact hu
    obtain ⟨xs, hxl, hxs⟩ := build len key
    have hmx : len ≤ maxLen := Nat.le_trans hl hm
    refine ⟨xs, ⟨some a, cap, by rw [hxl], by omega, by rw [hxl], by rw [hxl]; unfold maxLen at hmx; omega, fun _ => ⟨a, rfl, fun j p hp => (hxs j p hp).2⟩⟩, fun z hz => ?_, by omega⟩
    obtain ⟨j, hj, rfl⟩ := List.mem_iff_getElem.1 hz
    exact (hxs j _ (List.getElem?_eq_getElem hj)).1
end

end Go.Proofs.YtgopklnfdlnojaaDoor.Open
