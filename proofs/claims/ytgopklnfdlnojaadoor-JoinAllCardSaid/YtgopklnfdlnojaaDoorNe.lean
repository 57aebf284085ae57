/- What a joiner is asked to do (law24.Act): pieces by links, as data that came in. -/
import Derived.Test.YtgopklnfdlnojaaDoorNd
import Derived.Test.YtgopklnfdlnojaaDoorOp
namespace Go.Proofs.YtgopklnfdlnojaaDoor.Ne
open Go.ChangeShapes Go.WideShapes Go.ChangeAt Go.RowKit Go.Proofs.YtgopklnfdlnojaaDoor.Ga Go.Proofs.YtgopklnfdlnojaaDoor.Open Go.Proofs.YtgopklnfdlnojaaDoor.Op Go.Proofs.YtgopklnfdlnojaaDoor.Gp Go.Proofs.YtgopklnfdlnojaaDoor.Ja Go.Proofs.YtgopklnfdlnojaaDoor.Jb Go.Proofs.YtgopklnfdlnojaaDoor.Jc Go.Proofs.YtgopklnfdlnojaaDoorW.PrintWords Go.Proofs.YtgopklnfdlnojaaDoorW.PrintLast Go.Proofs.YtgopklnfdlnojaaDoorW.PrintMore
set_option linter.unusedVariables false

structure S67 where
  f0 : Int
  f1 : S24
def z67 : S67 := ⟨0, z24⟩
def k67 : Kd S67 := Kd.iso (Kd.pair (Kd.int .i64) k24) (fun x : S67 => (x.f0, x.f1))
theorem k67_open {w : World} {x : S67} {cs : List Value} (h : k67.K w x cs) : ∃ A4 c4, cs = [.int .i64 x.f0, .bool x.f1.f0, .bool x.f1.f1, .int .i64 x.f1.f2, .slice A4 x.f1.f3.length c4] ∧ x.f1.f3.length ≤ c4 ∧ (Kd.int .u8).C w A4 x.f1.f3.length x.f1.f3 := by
  obtain ⟨_, _, rfl, rfl, s1⟩ := h
  obtain ⟨A4, c4, rfl, l4, g4⟩ := k24_open s1
  exact ⟨A4, c4, rfl, l4, g4⟩
theorem k67_mk (w : World) (x : S67) {A4 : Option Addr} {c4 : Nat} (l4 : x.f1.f3.length ≤ c4) (g4 : (Kd.int .u8).C w A4 x.f1.f3.length x.f1.f3) : k67.K w x [.int .i64 x.f0, .bool x.f1.f0, .bool x.f1.f1, .int .i64 x.f1.f2, .slice A4 x.f1.f3.length c4] := ⟨[.int .i64 x.f0], [.bool x.f1.f0, .bool x.f1.f1, .int .i64 x.f1.f2, .slice A4 x.f1.f3.length c4], rfl, rfl, (k24_mk w x.f1 l4 g4)⟩
theorem at_T67 {w : World} {A : Option Addr} {n : Nat} {xs : List S67} (h : Kd.C k67 w A n xs) (i : Nat) (h1 : i < n) : ∃ ad A4 c4, A = some ad ∧ w.cell? (ad.add (i * 5)) = some (.int .i64 (xs.getD i z67).f0) ∧ w.cell? ⟨(ad.add (i * 5)).block, (ad.add (i * 5)).off + 1, none⟩ = some (.bool (xs.getD i z67).f1.f0) ∧ w.cell? ⟨(ad.add (i * 5)).block, (ad.add (i * 5)).off + 2, none⟩ = some (.bool (xs.getD i z67).f1.f1) ∧ w.cell? ⟨(ad.add (i * 5)).block, (ad.add (i * 5)).off + 3, none⟩ = some (.int .i64 (xs.getD i z67).f1.f2) ∧ w.cell? ⟨(ad.add (i * 5)).block, (ad.add (i * 5)).off + 4, none⟩ = some (.slice A4 (xs.getD i z67).f1.f3.length c4) ∧ (xs.getD i z67).f1.f3.length ≤ c4 ∧ (Kd.int .u8).C w A4 (xs.getD i z67).f1.f3.length (xs.getD i z67).f1.f3 := by
  obtain ⟨ad, c, e, _, hK, hc0⟩ := Kd.C_get h z67 (i : Int) (by omega) (by omega)
  have hc : ∀ j u, c[j]? = some u → w.cell? (ad.add (i * 5 + j)) = some u := hc0
  obtain ⟨A4, c4, rfl, l4, g4⟩ := k67_open hK
  exact ⟨ad, A4, c4, e, hc 0 _ rfl, by rw [← add_field _ _ 1 (by omega)]; exact hc 1 _ rfl, by rw [← add_field _ _ 2 (by omega)]; exact hc 2 _ rfl, by rw [← add_field _ _ 3 (by omega)]; exact hc 3 _ rfl, by rw [← add_field _ _ 4 (by omega)]; exact hc 4 _ rfl, l4, g4⟩

section
variable {H : Type} {enc : TypeId × Value → H} {W : World}
def Good (x : S24) : Prop := (Lit.int .i64 x.f2).wf = true ∧ ∀ a ∈ x.f3, (Lit.int .u8 a).wf = true
set_option maxRecDepth 100000 in
theorem opens_piece : Opens enc Tryd.prog W 24 k24 Good := by
  intro n cs y h
  obtain ⟨xs, n', rfl, hy, hcl, hn, hf⟩ := DataW.trod_struct Tryd.underlying24 h
  have hn2 : xs.length = 4 := hn
  rw [cells1.2.2.2.1] at hcl
  have f0 : DataW.trod enc Tryd.prog W 0 (fun _ => true) true n' 4 ((cs.drop 0).take (Tryd.prog.cellsOf 4)) = xs[0]? := hf 0 _ rfl
  rw [cells1.1] at f0
  have f1 : DataW.trod enc Tryd.prog W 0 (fun _ => true) true n' 4 ((cs.drop 1).take (Tryd.prog.cellsOf 4)) = xs[1]? := hf 1 _ rfl
  rw [cells1.1] at f1
  have f2 : DataW.trod enc Tryd.prog W 0 (fun _ => true) true n' 3 ((cs.drop 2).take (Tryd.prog.cellsOf 3)) = xs[2]? := hf 2 _ rfl
  rw [cells1.2.1] at f2
  have f3 : DataW.trod enc Tryd.prog W 0 (fun _ => true) true n' 22 ((cs.drop 3).take (Tryd.prog.cellsOf 22)) = xs[3]? := hf 3 _ rfl
  rw [cells1.2.2.1] at f3
  rw [List.getElem?_eq_getElem (by omega)] at f0 f1 f2 f3
  obtain ⟨b, e0, _⟩ := DataW.trod_bool Tryd.underlying4 f0
  obtain ⟨b', e1, _⟩ := DataW.trod_bool Tryd.underlying4 f1
  obtain ⟨num, e2, _, wnum⟩ := DataW.trod_int Tryd.underlying3 f2
  obtain ⟨ys, ⟨A, c, e3, l3, g3⟩, hys⟩ := opens_bytes _ _ _ f3
  have key : cs = [.bool b, .bool b', .int .i64 num, .slice A ys.length c] := by
    have g0 := list_one 0 e0
    have g1 := list_one 1 e1
    have g2 := list_one 2 e2
    have g3 := list_one 3 e3
    match cs, hcl with
    | [a0, a1, a2, a3], _ =>
      simp at g0 g1 g2 g3
      simp [g0, g1, g2, g3]
  subst key
  exact ⟨⟨b, b', num, ys⟩, k24_mk W ⟨b, b', num, ys⟩ l3 g3, wnum, hys.1⟩
theorem cells67 : Tryd.prog.cellsOf 67 = 5 := by kernel_rfl
set_option maxRecDepth 100000 in
theorem opens_act : Opens enc Tryd.prog W 67 k67 (fun x => (Lit.int .i64 x.f0).wf = true ∧ Good x.f1) := by
  intro n cs y h
  obtain ⟨xs, n', rfl, hy, hcl, hn, hf⟩ := DataW.trod_struct Tryd.underlying67 h
  have hn2 : xs.length = 2 := hn
  rw [cells67] at hcl
  have f0 : DataW.trod enc Tryd.prog W 0 (fun _ => true) true n' 3 ((cs.drop 0).take (Tryd.prog.cellsOf 3)) = xs[0]? := hf 0 _ rfl
  rw [cells1.2.1] at f0
  have f1 : DataW.trod enc Tryd.prog W 0 (fun _ => true) true n' 24 ((cs.drop 1).take (Tryd.prog.cellsOf 24)) = xs[1]? := hf 1 _ rfl
  rw [cells1.2.2.2.1] at f1
  rw [List.getElem?_eq_getElem (by omega)] at f0 f1
  obtain ⟨num, e0, _, wnum⟩ := DataW.trod_int Tryd.underlying3 f0
  obtain ⟨p, hp, hg⟩ := opens_piece _ _ _ f1
  obtain ⟨A, c, e1, l4, g4⟩ := k24_open hp
  have key : cs = [.int .i64 num, .bool p.f0, .bool p.f1, .int .i64 p.f2, .slice A p.f3.length c] := by
    have g0 := list_one 0 e0
    match cs, hcl with
    | [a0, a1, a2, a3, a4], _ =>
      simp at g0 e1
      simp [g0, e1]
  subst key
  exact ⟨⟨num, p⟩, k67_mk W ⟨num, p⟩ l4 g4, wnum, hg⟩
set_option maxRecDepth 100000 in
theorem open_acts {base : Nat} {v : Value} {d : DataW H} {ps : List MemPlace} (hv : Value.okWide Tryd.prog W .any base 55 v) (h : DataW.Trod enc Tryd.prog W 0 (fun _ => true) true 55 v d ps) :
    ∃ A l c, v = .slice A (List.length l) c ∧ l.length ≤ c ∧ k67.C W A l.length l ∧ ∀ x ∈ l, (Lit.int .i64 x.f0).wf = true ∧ Good x.f1 := by
  obtain ⟨A, n, c, rfl⟩ := okWide_slice Tryd.underlying55 hv
  obtain ⟨fuel, hf⟩ := h
  obtain ⟨l, ⟨A', c', e, hl, hC⟩, hg, _⟩ := opens_slice (enc := enc) (W := W) Tryd.underlying55 cells67 opens_act _ _ _ hf
  simp [Value.cells] at e
  obtain ⟨rfl, rfl, rfl⟩ := e
  exact ⟨A, l, c, rfl, hl, hC, hg⟩
end

/-- A joiner writes nothing below its base. -/
theorem mut_ge {W : World} {base g bm : Nat} {vl vd ve : Value} {wv : List (Int × Value)} {er : List (List Value)} {J : Jn} (h : JM W base g bm vl vd ve wv er J) (k : Nat) (hk : Mut g bm vl vd ve k) : base ≤ k := by
  rcases hk with e | e | e | e | e
  · rw [e]; exact h.hgb
  · rw [e]; exact h.hbm
  · exact Kd.R_base h.hlast k e.symm
  · exact Kd.R_base h.hdata k e.symm
  · exact Kd.R_base h.hevs k e.symm
/-- Octets that came in lie apart from a joiner. -/
theorem sl_came {W0 W : World} {base g bm : Nat} {vl vd ve : Value} {wv : List (Int × Value)} {er : List (List Value)} {J : Jn} {A : Option Addr} {n : Nat} {xs : List Int} (h : (Kd.int .u8).C W0 A n xs) (hb : Below W0.heap.size W0 W) (hJ : JM W base g bm vl vd ve wv er J) (hbs : W0.heap.size ≤ base) : Sl0 W (Mut g bm vl vd ve) A n xs :=
  Kd.F_mono (Kd.F_below (Kd.C_F (Kd.heap_int .u8) h) hb) fun k hk => ⟨Nat.lt_of_lt_of_le hk hb.size, fun hm => by have := mut_ge hJ k hm; omega⟩

end Go.Proofs.YtgopklnfdlnojaaDoor.Ne
