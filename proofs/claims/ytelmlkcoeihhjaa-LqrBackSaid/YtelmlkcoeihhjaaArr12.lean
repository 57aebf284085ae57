/- An array of twelve numbers of 32 bits that came in as an argument, opened. No conditions. -/
import Derived.Test.YtelmlkcoeihhjaaProg
import Derived.WalkKit
import Derived.ProofKit
import Derived.OpenShut
import Derived.Below
namespace Go.Proofs.Ytelmlkcoeihhjaa.Arr12
open Go.ChangeShapes Go.WideShapes Go.ChangeAt Go.RowKit
set_option linter.unusedVariables false

theorem cells30 : Try.prog.cellsOf 30 = 12 := by kernel_rfl
theorem cells29 : Try.prog.cellsOf 29 = 1 := by kernel_rfl

theorem list12 {α : Type} (l : List α) (h : l.length = 12) : ∃ c0 c1 c2 c3 c4 c5 c6 c7 c8 c9 c10 c11, l = [c0, c1, c2, c3, c4, c5, c6, c7, c8, c9, c10, c11] := by
  match l, h with
  | [c0, c1, c2, c3, c4, c5, c6, c7, c8, c9, c10, c11], _ => exact ⟨c0, c1, c2, c3, c4, c5, c6, c7, c8, c9, c10, c11, rfl⟩

theorem open12 {H : Type} {enc : TypeId × Value → H} {W : World} {base : Nat} {v : Value} {d : DataW H} {p : List MemPlace}
    (hv : Value.okWide Try.prog W .any base 30 v) (h : DataW.Trod enc Try.prog W 0 (fun _ => true) true 30 v d p) :
    ∃ a0 a1 a2 a3 a4 a5 a6 a7 a8 a9 a10 a11 : Int, v = .agg #[.int .u32 a0, .int .u32 a1, .int .u32 a2, .int .u32 a3, .int .u32 a4, .int .u32 a5, .int .u32 a6, .int .u32 a7, .int .u32 a8, .int .u32 a9, .int .u32 a10, .int .u32 a11] ∧
      (∀ x ∈ [a0, a1, a2, a3, a4, a5, a6, a7, a8, a9, a10, a11], (Lit.int .u32 x).wf = true) := by
  obtain ⟨cs, rfl, hsz, _⟩ : ∃ cs, v = .agg cs ∧ cs.size = Try.prog.cellsOf 30 ∧ Row.okWide Try.prog W .any base 30 cs := by
    simpa [Value.okWide, Try.underlying30] using hv
  rw [cells30] at hsz
  obtain ⟨l⟩ := cs
  obtain ⟨c0, c1, c2, c3, c4, c5, c6, c7, c8, c9, c10, c11, rfl⟩ := list12 l (by simpa using hsz)
  obtain ⟨fuel, hf⟩ := h
  obtain ⟨xs, m, rfl, hx, _, hl, hel⟩ := DataW.trod_array Try.underlying30 hf
  rw [cells29] at hel
  have key : ∀ (i : Nat) (c : Value), [c0, c1, c2, c3, c4, c5, c6, c7, c8, c9, c10, c11][i]? = some c → ∃ x, c = .int .u32 x ∧ (Lit.int .u32 x).wf = true := by
    intro i c hi
    have hlt : i < 12 := by
      have := (List.getElem?_eq_some_iff.1 hi).1
      simpa using this
    have e := hel i hlt
    rw [List.getElem?_eq_getElem (by omega)] at e
    obtain ⟨x, e0, _, w0⟩ := DataW.trod_int Try.underlying29 e
    have hd : (List.drop (i * 1) (Value.cells (.agg #[c0, c1, c2, c3, c4, c5, c6, c7, c8, c9, c10, c11])).toList)[0]? = some c := by
      rw [List.getElem?_drop]
      simpa [Value.cells] using hi
    cases hh : List.drop (i * 1) (Value.cells (.agg #[c0, c1, c2, c3, c4, c5, c6, c7, c8, c9, c10, c11])).toList with
    | nil => rw [hh] at hd; simp at hd
    | cons y ys =>
      rw [hh] at hd e0
      simp at hd e0
      exact ⟨x, by rw [← hd, e0], w0⟩
  obtain ⟨a0, rfl, w0⟩ := key 0 c0 rfl
  obtain ⟨a1, rfl, w1⟩ := key 1 c1 rfl
  obtain ⟨a2, rfl, w2⟩ := key 2 c2 rfl
  obtain ⟨a3, rfl, w3⟩ := key 3 c3 rfl
  obtain ⟨a4, rfl, w4⟩ := key 4 c4 rfl
  obtain ⟨a5, rfl, w5⟩ := key 5 c5 rfl
  obtain ⟨a6, rfl, w6⟩ := key 6 c6 rfl
  obtain ⟨a7, rfl, w7⟩ := key 7 c7 rfl
  obtain ⟨a8, rfl, w8⟩ := key 8 c8 rfl
  obtain ⟨a9, rfl, w9⟩ := key 9 c9 rfl
  obtain ⟨a10, rfl, w10⟩ := key 10 c10 rfl
  obtain ⟨a11, rfl, w11⟩ := key 11 c11 rfl
  exact ⟨a0, a1, a2, a3, a4, a5, a6, a7, a8, a9, a10, a11, rfl, by simp [w0, w1, w2, w3, w4, w5, w6, w7, w8, w9, w10, w11]⟩

end Go.Proofs.Ytelmlkcoeihhjaa.Arr12
