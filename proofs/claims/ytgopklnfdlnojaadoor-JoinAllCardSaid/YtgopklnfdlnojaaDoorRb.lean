/- The laid table of shapes, opened: what the rows of frag give the walks. -/
import Derived.Test.YtgopklnfdlnojaaDoorRows
import Derived.Test.YtgopklnfdlnojaaDoorGb
import Derived.ProofKit
import Derived.LaidMore
import Derived.OpenShut
namespace Go.Proofs.YtgopklnfdlnojaaDoor.Rb
open Go.ChangeShapes Go.WideShapes Go.ChangeAt Go.WideMaps Go.WideElems Go.RowKit Go.Proofs.YtgopklnfdlnojaaDoor.Gb
set_option linter.unusedVariables false

theorem own : ownKnob Tryd.prog.godebug = none := by kernel_rfl
theorem gShapes : Tryd.prog.globalNamed "marline/frag.shapes" = some 0 := by kernel_rfl
theorem tShapes : (Tryd.prog.globals[0]?).map (·.type) = some 112 := by kernel_rfl
noncomputable def laidF {H : Type} : List (String × DataW H) := [("marline/frag.shapes", Rows.laid_marline_frag_shapes)]
theorem door_met (os : Os) (args : Array Value) : laidMetH Tryd.prog laidF ((World.doorLaid Tryd.prog 400 os).forCall (fun _ _ => 0) ⟨#[], args, []⟩).memory :=
  laidMetH_of_parts3 (fuel := 8) (laidMet_of_run' 8 (by kernel_rfl) (by kernel_rfl)) (by kernel_rfl) (by kernel_rfl)

theorem shape_open {W : World} {m : Nat} {c0 c1 c2 : Value} {a b c : Int} {q : List MemPlace} (h : DataW.trod (fun x => ()) Tryd.prog W 0 (fun x => true) false m 91 [c0, c1, c2] = some (.agg [.lit (.int .i64 a), .lit (.int .i64 b), .lit (.int .u8 c)], q)) :
    c0 = .int .i64 a ∧ c1 = .int .i64 b ∧ c2 = .int .u8 c := by
  obtain ⟨xs, n, _, hx, hl, hlen, hf⟩ := DataW.trod_struct Tryd.underlying91 h
  have f0 := hf 0 _ rfl
  have f1 := hf 1 _ rfl
  have f2 := hf 2 _ rfl
  clear hf hl h
  match xs, hlen, hx, f0, f1, f2 with
  | [x0, x1, x2], _, hx, f0, f1, f2 =>
    simp only [List.map_cons, List.map_nil, Prod.mk.injEq, DataW.agg.injEq, List.cons.injEq, and_true] at hx
    have c3 : Tryd.prog.cellsOf 3 = 1 := by kernel_rfl
    have c5 : Tryd.prog.cellsOf 5 = 1 := by kernel_rfl
    obtain ⟨k0, e0, e1, _⟩ := DataW.trod_int Tryd.underlying3 f0
    obtain ⟨k1, e2, e3, _⟩ := DataW.trod_int Tryd.underlying3 f1
    obtain ⟨k2, e4, e5, _⟩ := DataW.trod_int Tryd.underlying5 f2
    rw [e1, e3, e5] at hx
    simp [c3, c5] at e0 e2 e4 hx
    obtain ⟨⟨h0, h1, h2⟩, _⟩ := hx
    subst h0 h1 h2
    exact ⟨e0, e2, e4⟩

set_option maxRecDepth 100000 in
theorem of_laid {W : World} (h : laidMetH Tryd.prog laidF W) : Shapes W := by
  rw [MakeChecks.laidMetH_plain _ _ _ (by kernel_rfl)] at h
  obtain ⟨ps, ⟨g0, t0, cs0, f0, p0, q0, hg0, ht0, hv0, hd0, _, _⟩, _, _⟩ := h
  obtain rfl := Option.some.inj (gShapes.symm.trans hg0)
  obtain rfl := Option.some.inj (tShapes.symm.trans ht0)
  obtain ⟨xs, m1, rfl, hx1, hlen, hn3, hel⟩ := DataW.trod_array Tryd.underlying112 hd0
  have h0 := hel 0 (by decide)
  have h1 := hel 1 (by decide)
  have c3 : Tryd.prog.cellsOf 91 = 3 := by kernel_rfl
  clear hd0 hel
  have c6 : Tryd.prog.cellsOf 112 = 6 := by kernel_rfl
  rw [c6] at hlen
  rw [c3] at h0 h1
  have hv := World.var?_cell gShapes hv0
  obtain ⟨l⟩ := cs0
  match l, hlen, xs, hn3, h0, h1, hx1, hv with
  | [a0, a1, a2, a3, a4, a5], _, [x0, x1], _, h0, h1, hx1, hv =>
    simp only [List.map_cons, List.map_nil, Prod.mk.injEq, Rows.laid_marline_frag_shapes, DataW.agg.injEq, List.cons.injEq, and_true] at hx1
    obtain ⟨⟨e0, e1⟩, _⟩ := hx1
    have s0 := shape_open (q := x0.2) (h0.trans (by show some x0 = _; rw [e0]))
    have s1 := shape_open (q := x1.2) (h1.trans (by show some x1 = _; rw [e1]))
    obtain ⟨rfl, rfl, rfl⟩ := s0
    obtain ⟨rfl, rfl, rfl⟩ := s1
    exact ⟨by simpa using hv 0, by simpa using hv 1, by simpa using hv 2, by simpa using hv 3, by simpa using hv 4, by simpa using hv 5⟩

end Go.Proofs.YtgopklnfdlnojaaDoor.Rb
