/- A piece that came in, opened: its parts, and its octets as a list. -/
import Derived.Test.YtgopklnfdlnojaaDoorOpen
import Derived.Test.YtgopklnfdlnojaaDoorGp
namespace Go.Proofs.YtgopklnfdlnojaaDoor.Op
open Go.ChangeShapes Go.WideShapes Go.ChangeAt Go.RowKit Go.Proofs.YtgopklnfdlnojaaDoor.Open Go.Proofs.YtgopklnfdlnojaaDoor.Gp Go.Proofs.YtgopklnfdlnojaaDoorW.PrintWords Go.Proofs.YtgopklnfdlnojaaDoorW.PrintLast Go.Proofs.YtgopklnfdlnojaaDoorW.PrintMore
set_option linter.unusedVariables false
variable {H : Type} {enc : TypeId × Value → H} {W : World}

theorem cells1 : Tryd.prog.cellsOf 4 = 1 ∧ Tryd.prog.cellsOf 3 = 1 ∧ Tryd.prog.cellsOf 22 = 1 ∧ Tryd.prog.cellsOf 24 = 4 ∧ Tryd.prog.cellsOf 5 = 1 := ⟨by kernel_rfl, by kernel_rfl, by kernel_rfl, by kernel_rfl, by kernel_rfl⟩
theorem opens_bytes : Opens enc Tryd.prog W 22 (Kd.slice 5 (Kd.int .u8)) (fun xs => (∀ a ∈ xs, (Lit.int .u8 a).wf = true) ∧ xs.length ≤ maxLen) :=
  opens_slice Tryd.underlying22 cells1.2.2.2.2 (opens_int Tryd.underlying5)
theorem list_one {α : Type} {l : List α} {x : α} (n : Nat) (h : (l.drop n).take 1 = [x]) : l[n]? = some x := by
  have : ((l.drop n).take 1)[0]? = some x := by rw [h]; rfl
  rw [List.getElem?_take, if_pos (by decide), List.getElem?_drop] at this
  simpa using this

set_option maxRecDepth 100000 in
theorem open_piece {base : Nat} {v : Value} {d : DataW H} {ps : List MemPlace} (hv : Value.okWide Tryd.prog W .any base 24 v) (h : DataW.Trod enc Tryd.prog W 0 (fun _ => true) true 24 v d ps) :
    ∃ b e num A xs c, v = pc b e num A (List.length xs) c ∧ xs.length ≤ c ∧ (Kd.int .u8).C W A xs.length xs ∧ ∀ x ∈ xs, 0 ≤ x ∧ x ≤ 255 := by
  obtain ⟨cs, rfl, hsz, _⟩ : ∃ cs, v = .agg cs ∧ cs.size = Tryd.prog.cellsOf 24 ∧ Row.okWide Tryd.prog W .any base 24 cs := by
    simpa [Value.okWide, Tryd.underlying24] using hv
  rw [cells1.2.2.2.1] at hsz
  obtain ⟨fuel, hf⟩ := h
  obtain ⟨xs, n, rfl, _, _, hn, hf⟩ := DataW.trod_struct Tryd.underlying24 hf
  have hn2 : xs.length = 4 := hn
  have e : (Value.cells (.agg cs)).toList = cs.toList := by simp [Value.cells]
  rw [e] at hf
  have f0 : DataW.trod enc Tryd.prog W 0 (fun _ => true) true n 4 ((cs.toList.drop 0).take (Tryd.prog.cellsOf 4)) = xs[0]? := hf 0 _ rfl
  rw [cells1.1] at f0
  have f1 : DataW.trod enc Tryd.prog W 0 (fun _ => true) true n 4 ((cs.toList.drop 1).take (Tryd.prog.cellsOf 4)) = xs[1]? := hf 1 _ rfl
  rw [cells1.1] at f1
  have f2 : DataW.trod enc Tryd.prog W 0 (fun _ => true) true n 3 ((cs.toList.drop 2).take (Tryd.prog.cellsOf 3)) = xs[2]? := hf 2 _ rfl
  rw [cells1.2.1] at f2
  have f3 : DataW.trod enc Tryd.prog W 0 (fun _ => true) true n 22 ((cs.toList.drop 3).take (Tryd.prog.cellsOf 22)) = xs[3]? := hf 3 _ rfl
  rw [cells1.2.2.1] at f3
  rw [List.getElem?_eq_getElem (by omega)] at f0 f1 f2 f3
  obtain ⟨b, e0, _⟩ := DataW.trod_bool Tryd.underlying4 f0
  obtain ⟨b', e1, _⟩ := DataW.trod_bool Tryd.underlying4 f1
  obtain ⟨num, e2, _, _⟩ := DataW.trod_int Tryd.underlying3 f2
  obtain ⟨ys, ⟨A, c, e3, l3, g3⟩, hys⟩ := opens_bytes _ _ _ f3
  have key : cs.toList = [.bool b, .bool b', .int .i64 num, .slice A ys.length c] := by
    have g0 := list_one 0 e0
    have g1 := list_one 1 e1
    have g2 := list_one 2 e2
    have g3 := list_one 3 e3
    obtain ⟨l⟩ := cs
    match l, hsz with
    | [a0, a1, a2, a3], _ =>
      simp at g0 g1 g2 g3
      simp [g0, g1, g2, g3]
  refine ⟨b, b', num, A, ys, c, ?_, l3, g3, fun x hx => bounds_u8 (hys.1 x hx)⟩
  obtain ⟨l⟩ := cs
  simp only at key
  subst key
  rfl

end Go.Proofs.YtgopklnfdlnojaaDoor.Op
