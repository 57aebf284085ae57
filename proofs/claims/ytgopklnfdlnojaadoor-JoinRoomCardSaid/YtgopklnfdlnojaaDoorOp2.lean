/- Pieces that came in, opened, and how long each one's octets can be: what the bound on an input's size gives. -/
import Derived.SizedLaws
import Derived.Test.YtgopklnfdlnojaaDoorOp
namespace Go.Proofs.YtgopklnfdlnojaaDoor.Op2
open Go.ChangeShapes Go.WideShapes Go.ChangeAt Go.RowKit Go.Proofs.YtgopklnfdlnojaaDoor.Ga Go.Proofs.YtgopklnfdlnojaaDoor.Open Go.Proofs.YtgopklnfdlnojaaDoor.Op Go.Proofs.YtgopklnfdlnojaaDoor.Gp Go.Proofs.YtgopklnfdlnojaaDoorW.PrintWords Go.Proofs.YtgopklnfdlnojaaDoorW.PrintLast Go.Proofs.YtgopklnfdlnojaaDoorW.PrintMore
set_option linter.unusedVariables false
variable {H : Type} {enc : TypeId × Value → H} {W : World} {P : Program}

/-- Whatever cells read as data of type t that is no heavier than a machine bears are a thing of kind d, and G holds of it. -/
def OpensW {α : Type} (enc : TypeId × Value → H) (P : Program) (W : World) (t : TypeId) (d : Kd α) (G : α → Prop) : Prop :=
  ∀ n cs y, DataW.trod enc P W 0 (fun _ => true) true n t cs = some y → (∀ k ∈ y.1.weights P t, k ≤ reachBytes) → ∃ a, d.K W a cs ∧ G a

theorem OpensW.of {α : Type} {t : TypeId} {d : Kd α} {G : α → Prop} (h : Opens enc P W t d G) : OpensW enc P W t d G := fun n cs y hy _ => h n cs y hy

theorem weights_all {e : TypeId} : ∀ {l : List (DataW H)} {d : DataW H}, d ∈ l → ∀ k ∈ d.weights P e, k ∈ DataW.weightsAll P e l
  | d :: l, _, .head _, k, hk => by rw [DataW.weightsAll]; exact List.mem_append_left _ hk
  | d :: l, d', .tail _ h, k, hk => by rw [DataW.weightsAll]; exact List.mem_append_right _ (weights_all h k hk)

theorem opensW_slice {α : Type} {t e : TypeId} {d : Kd α} {G : α → Prop} (ht : P.underlying t = some (.slice e)) (hsz : P.cellsOf e = d.sz) (h : OpensW enc P W e d G) :
    OpensW enc P W t (Kd.slice e d) (fun xs => (∀ a ∈ xs, G a) ∧ xs.length * P.bytesOf e ≤ reachBytes) := by
  intro n cs y hy hw
  rcases Go.Deep.open_slice ht hy with ⟨rfl, _⟩ | ⟨a, len, cap, m, n', D, Pl, rfl, _, hl, hm, hmm, hyy, hx⟩
  · exact ⟨[], ⟨none, 0, rfl, Nat.le_refl _, rfl, by simp, fun h => absurd h (Nat.lt_irrefl 0)⟩, fun a ha => by simp at ha, by simp⟩
  · have hlm : len ≤ m := by rw [hmm]; simp; exact hl
    subst hyy
    have hw1 : (len + (m - len)) * P.bytesOf e ≤ reachBytes := by
      have := hw ((((List.range len).map D).length + ((List.range (m - len)).map fun j => D (len + j)).length) * P.bytesOf e) (by simp only [DataW.weights, ht]; exact List.mem_cons_self ..)
      simpa using this
    have hw2 : ∀ i, i < len → ∀ k ∈ (D i).weights P e, k ≤ reachBytes := by
      intro i hi k hk
      refine hw k ?_
      simp only [DataW.weights, ht]
      refine List.mem_cons_of_mem _ (List.mem_append_left _ (weights_all (d := D i) ?_ k hk))
      exact List.mem_map.2 ⟨i, List.mem_range.2 hi, rfl⟩
    have key : ∀ i, i < len → ∃ z, G z ∧ ∃ c : List Value, c.length = d.sz ∧ d.K W z c ∧ ∀ j u, c[j]? = some u → W.cell? (a.add (i * d.sz + j)) = some u := by
      intro i hi
      obtain ⟨cs', h1, h2⟩ := hx i (by omega)
      obtain ⟨z, hz, hg⟩ := h n' cs' _ h2 (hw2 i hi)
      rw [hsz] at h1
      obtain ⟨_, h3, h4⟩ := World.cells?_some h1
      refine ⟨z, hg, cs', h3, hz, fun j u hu => ?_⟩
      have hj : j < d.sz := by
        have := (List.getElem?_eq_some_iff.1 hu).1
        omega
      have := h4 j hj
      rw [Go.Deep.add_add] at this
      rw [this]
      exact hu
    obtain ⟨xs, hxl, hxs⟩ := build len key
    have hmx : len ≤ maxLen := Nat.le_trans hl hm
    refine ⟨xs, ⟨some a, cap, by rw [hxl], by omega, by rw [hxl], by rw [hxl]; unfold maxLen at hmx; omega, fun _ => ⟨a, rfl, fun j p hp => (hxs j p hp).2⟩⟩, fun z hz => ?_, ?_⟩
    · obtain ⟨j, hj, rfl⟩ := List.mem_iff_getElem.1 hz
      exact (hxs j _ (List.getElem?_eq_getElem hj)).1
    · rw [hxl]
      exact Nat.le_trans (Nat.mul_le_mul_right _ (by omega)) hw1

theorem bytes1 : Tryd.prog.bytesOf 5 = 1 := by kernel_rfl
theorem opensW_bytes : OpensW enc Tryd.prog W 22 (Kd.slice 5 (Kd.int .u8)) (fun xs => xs.length ≤ reachBytes) := by
  intro n cs y hy hw
  obtain ⟨xs, hk, _, hl⟩ := opensW_slice (enc := enc) (W := W) Tryd.underlying22 cells1.2.2.2.2 (OpensW.of (opens_int Tryd.underlying5)) n cs y hy hw
  rw [bytes1, Nat.mul_one] at hl
  exact ⟨xs, hk, hl⟩

set_option maxRecDepth 100000 in
theorem opensW_piece : OpensW enc Tryd.prog W 24 k24 (fun x => x.f3.length ≤ reachBytes) := by
  intro n cs y h hw
  obtain ⟨xs, n', rfl, hy, hcl, hn, hf⟩ := DataW.trod_struct Tryd.underlying24 h
  have hn2 : xs.length = 4 := hn
  rw [cells1.2.2.2.1] at hcl
  have f0 : DataW.trod enc Tryd.prog W 0 (fun _ => true) true n' 4 ((cs.drop 0).take (Tryd.prog.cellsOf 4)) = xs[0]? := hf 0 _ rfl
  rw [cells1.1] at f0
  have f1 : DataW.trod enc Tryd.prog W 0 (fun _ => true) true n' 4 ((cs.drop 1).take (Tryd.prog.cellsOf 4)) = xs[1]? := hf 1 _ rfl
  rw [cells1.1] at f1
  have f2 : DataW.trod enc Tryd.prog W 0 (fun _ => true) true n' 3 ((cs.drop 2).take (Tryd.prog.cellsOf 3)) = xs[2]? := hf 2 _ rfl
  rw [cells1.2.1] at f2
  have f3 : DataW.trod enc Tryd.prog W 0 (fun _ => true) true n' 22 ((cs.drop 3).take (Tryd.prog.cellsOf 22)) = xs[3]? := hf 3 _ rfl
  rw [cells1.2.2.1] at f3
  rw [List.getElem?_eq_getElem (by omega)] at f0 f1 f2 f3
  obtain ⟨b, e0, _⟩ := DataW.trod_bool Tryd.underlying4 f0
  obtain ⟨b', e1, _⟩ := DataW.trod_bool Tryd.underlying4 f1
  obtain ⟨num, e2, _, _⟩ := DataW.trod_int Tryd.underlying3 f2
  obtain ⟨ys, ⟨A, c, e3, l3, g3⟩, hys⟩ := opensW_bytes _ _ _ f3 (fun k hk => hw k (by
    rw [hy]
    simp only [DataW.weights, Tryd.underlying24]
    exact DataW.weights_mem_each (j := 3) (t := 22) (d := xs[3].1) rfl (by rw [List.getElem?_map, List.getElem?_eq_getElem (by omega)]; rfl) k hk))
  have key : cs = [.bool b, .bool b', .int .i64 num, .slice A ys.length c] := by
    have g0 := list_one 0 e0
    have g1 := list_one 1 e1
    have g2 := list_one 2 e2
    have g3 := list_one 3 e3
    match cs, hcl with
    | [a0, a1, a2, a3], _ =>
      simp at g0 g1 g2 g3
      simp [g0, g1, g2, g3]
  subst key
  exact ⟨⟨b, b', num, ys⟩, k24_mk W ⟨b, b', num, ys⟩ l3 g3, hys⟩

set_option maxRecDepth 100000 in
theorem open_pieces {base : Nat} {v : Value} {d : DataW H} {ps : List MemPlace} (hv : Value.okWide Tryd.prog W .any base 38 v) (h : DataW.Trod enc Tryd.prog W 0 (fun _ => true) true 38 v d ps) (hw : ∀ k ∈ d.weights Tryd.prog 38, k ≤ reachBytes) :
    ∃ A l c, v = .slice A (List.length l) c ∧ l.length ≤ c ∧ k24.C W A l.length l ∧ ∀ x ∈ l, x.f3.length ≤ 140737488351232 := by
  obtain ⟨A, n, c, rfl⟩ := okWide_slice Tryd.underlying38 hv
  obtain ⟨fuel, hf⟩ := h
  obtain ⟨l, ⟨A', c', e, hl, hC⟩, hg, _⟩ := opensW_slice (enc := enc) (W := W) Tryd.underlying38 cells1.2.2.2.1 opensW_piece _ _ _ hf hw
  simp [Value.cells] at e
  obtain ⟨rfl, rfl, rfl⟩ := e
  exact ⟨A, l, c, rfl, hl, hC, fun x hx => by have := hg x hx; unfold reachBytes at this; exact this⟩

end Go.Proofs.YtgopklnfdlnojaaDoor.Op2
