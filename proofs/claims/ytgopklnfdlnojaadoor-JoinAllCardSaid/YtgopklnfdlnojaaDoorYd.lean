/- Packets and signs that came in, opened. -/
import Derived.Test.YtgopklnfdlnojaaDoorOp
namespace Go.Proofs.YtgopklnfdlnojaaDoor.Yd
open Go.ChangeShapes Go.WideShapes Go.ChangeAt Go.RowKit Go.Proofs.YtgopklnfdlnojaaDoor.Open Go.Proofs.YtgopklnfdlnojaaDoor.Op Go.Proofs.YtgopklnfdlnojaaDoorW.PrintWords
set_option linter.unusedVariables false
variable {H : Type} {enc : TypeId × Value → H} {W : World}
set_option maxRecDepth 100000 in
theorem open_packets {base : Nat} {v : Value} {d : DataW H} {ps : List MemPlace} (hv : Value.okWide Tryd.prog W .any base 81 v) (h : DataW.Trod enc Tryd.prog W 0 (fun _ => true) true 81 v d ps) :
    ∃ A l c, v = .slice A (List.length l) c ∧ l.length ≤ c ∧ (Kd.slice 5 (Kd.int .u8)).C W A l.length l := by
  obtain ⟨A, n, c, rfl⟩ := okWide_slice Tryd.underlying81 hv
  obtain ⟨fuel, hf⟩ := h
  obtain ⟨l, ⟨A', c', e, hl, hC⟩, hg, _⟩ := opens_slice (enc := enc) (W := W) Tryd.underlying81 cells1.2.2.1 opens_bytes _ _ _ hf
  simp [Value.cells] at e
  obtain ⟨rfl, rfl, rfl⟩ := e
  exact ⟨A, l, c, rfl, hl, hC⟩
set_option maxRecDepth 100000 in
theorem open_bools {base : Nat} {v : Value} {d : DataW H} {ps : List MemPlace} (hv : Value.okWide Tryd.prog W .any base 82 v) (h : DataW.Trod enc Tryd.prog W 0 (fun _ => true) true 82 v d ps) :
    ∃ A l c, v = .slice A (List.length l) c ∧ l.length ≤ c ∧ Kd.bool.C W A l.length l := by
  obtain ⟨A, n, c, rfl⟩ := okWide_slice Tryd.underlying82 hv
  obtain ⟨fuel, hf⟩ := h
  obtain ⟨l, ⟨A', c', e, hl, hC⟩, hg, _⟩ := opens_slice (enc := enc) (W := W) Tryd.underlying82 cells1.1 (opens_bool Tryd.underlying4) _ _ _ hf
  simp [Value.cells] at e
  obtain ⟨rfl, rfl, rfl⟩ := e
  exact ⟨A, l, c, rfl, hl, hC⟩

end Go.Proofs.YtgopklnfdlnojaaDoor.Yd
