/- Rows of structs as rows of bare cells: what is copied cell by cell reads as it read. No conditions. -/
import Derived.Test.YtgopklnfdlnojaaDoorWWords
import Derived.Test.YtgopklnfdlnojaaDoorWMore
namespace Go.Proofs.YtgopklnfdlnojaaDoor.My
open Go.RowKit Go.Proofs.YtgopklnfdlnojaaDoorW.PrintWords
set_option linter.unusedVariables false

/-- Cells, just as they lie. -/
def rawK (n : Nat) : Kd (List Value) where
  sz := n
  E := []
  K := fun _ x cs => cs = x ∧ x.length = n ∧ ∀ u ∈ x, u.oneCell' = true
  M := fun _ _ _ x cs => cs = x ∧ x.length = n ∧ ∀ u ∈ x, u.oneCell' = true
  K_len := fun h => by rw [h.1]; exact h.2.1
  K_one := fun h => by rw [h.1]; exact h.2.2
  K_below := fun _ h => h
  K_of_M := fun h => h
  M_mono := fun _ h => h
  M_bound := fun h => h
  M_move := fun _ h => h
  M_lower := fun _ h => h

/-- Each of some things reads off its own cells. -/
def Each {α : Type} (d : Kd α) (w : World) (xs : List α) (rows : List (List Value)) : Prop :=
  rows.length = xs.length ∧ ∀ (j : Nat) (x : α) (r : List Value), xs[j]? = some x → rows[j]? = some r → d.K w x r

theorem Each.below {α : Type} {d : Kd α} {w w' : World} {xs : List α} {rows : List (List Value)} (h : Each d w xs rows) (hb : Below w.heap.size w w') : Each d w' xs rows :=
  ⟨h.1, fun j x r hx hr => d.K_below hb (h.2 j x r hx hr)⟩

theorem raw_of {α : Type} {d : Kd α} {w : World} {A : Option Addr} {n : Nat} {xs : List α} (h : d.C w A n xs) : ∃ rows, (rawK d.sz).C w A n rows ∧ Each d w xs rows := by
  obtain ⟨hl, hm, hc⟩ := h
  by_cases hn : 0 < n
  · obtain ⟨ad, rfl, hcell⟩ := hc hn
    have key : ∀ j : Nat, ∃ r : List Value, ∀ x, xs[j]? = some x → r.length = d.sz ∧ d.K w x r ∧ ∀ i u, r[i]? = some u → w.cell? (ad.add (j * d.sz + i)) = some u := by
      intro j
      cases hx : xs[j]? with
      | none => exact ⟨[], fun x h => by cases h⟩
      | some x =>
        obtain ⟨r, h1, h2, h3⟩ := hcell j x hx
        exact ⟨r, fun y hy => by cases hy; exact ⟨h1, h2, h3⟩⟩
    obtain ⟨f, hf⟩ : ∃ f : Nat → List Value, ∀ j x, xs[j]? = some x → (f j).length = d.sz ∧ d.K w x (f j) ∧ ∀ i u, (f j)[i]? = some u → w.cell? (ad.add (j * d.sz + i)) = some u :=
      ⟨fun j => Classical.choose (key j), fun j x hx => Classical.choose_spec (key j) x hx⟩
    have hget : ∀ j r, ((List.range xs.length).map f)[j]? = some r → j < xs.length ∧ r = f j := by
      intro j r hj
      rw [List.getElem?_map] at hj
      by_cases hlt : j < xs.length
      · rw [List.getElem?_range hlt] at hj
        exact ⟨hlt, by simpa using hj.symm⟩
      · rw [List.getElem?_eq_none (by simpa using hlt)] at hj
        simp at hj
    refine ⟨(List.range xs.length).map f, ⟨by simpa using hl, hm, fun _ => ⟨ad, rfl, fun j r hj => ?_⟩⟩, by simp, fun j x r hx hr => ?_⟩
    · obtain ⟨hlt, rfl⟩ := hget j r hj
      obtain ⟨h1, h2, h3⟩ := hf j _ (List.getElem?_eq_getElem hlt)
      exact ⟨f j, h1, ⟨rfl, h1, d.K_one h2⟩, h3⟩
    · obtain ⟨hlt, rfl⟩ := hget j r hr
      exact (hf j x hx).2.1
  · have hn0 : n = 0 := by omega
    subst hn0
    have : xs = [] := List.length_eq_zero_iff.1 hl
    subst this
    exact ⟨[], ⟨rfl, hm, fun h => absurd h (by omega)⟩, rfl, fun j x r hx => by simp at hx⟩

theorem of_raw {α : Type} {d : Kd α} {w : World} {A : Option Addr} {n : Nat} {xs : List α} {rows : List (List Value)} (h : (rawK d.sz).C w A n rows) (he : Each d w xs rows) : d.C w A n xs := by
  obtain ⟨hl, hm, hc⟩ := h
  refine ⟨he.1.symm.trans hl, hm, fun hn => ?_⟩
  obtain ⟨ad, rfl, hcell⟩ := hc hn
  refine ⟨ad, rfl, fun j x hx => ?_⟩
  have hlt : j < rows.length := by
    have := (List.getElem?_eq_some_iff.1 hx).1
    rw [he.1]
    exact this
  obtain ⟨c, h1, h2, h3⟩ := hcell j _ (List.getElem?_eq_getElem hlt)
  have e : c = rows[j] := h2.1
  subst e
  exact ⟨rows[j], h1, he.2 j x _ hx (List.getElem?_eq_getElem hlt), h3⟩

/-- The cells of one element of a row of bare cells. -/
theorem raw_get {n : Nat} {w : World} {A : Option Addr} {len : Nat} {rows : List (List Value)} (h : (rawK n).C w A len rows) (k : Nat) (hk : k < len) :
    ∃ ad, A = some ad ∧ ∃ r, rows[k]? = some r ∧ r.length = n ∧ (∀ u ∈ r, u.oneCell' = true) ∧ ∀ i u, r[i]? = some u → w.cell? (ad.add (k * n + i)) = some u := by
  obtain ⟨hl, hm, hc⟩ := h
  obtain ⟨ad, e, hcell⟩ := hc (by omega)
  have hlt : k < rows.length := by omega
  obtain ⟨c, h1, h2, h3⟩ := hcell k _ (List.getElem?_eq_getElem hlt)
  have e2 : c = rows[k] := h2.1
  subst e2
  exact ⟨ad, e, rows[k], List.getElem?_eq_getElem hlt, h1, h2.2.2, h3⟩

theorem raw_M {n : Nat} (w : World) (base : Nat) (ok : Nat → Prop) (r : List Value) (hl : r.length = n) (h1 : ∀ u ∈ r, u.oneCell' = true) : (rawK n).M w base ok r r := ⟨rfl, hl, h1⟩

/-- A whole block, written anew. -/
theorem put_all {w : World} {g t : Nat} {old : Array Value} {vs : List Value} (h : w.heap[g]? = some (.cells old t (0, 0))) (hs : old.size = vs.length) :
    (w.setCells g 0 vs).heap[g]? = some (.cells vs.toArray t (0, 0)) := by
  obtain ⟨cur, h1, h2, h3⟩ := setCells_row vs 0 w old h (by omega)
  rw [h1]
  have : cur.toList = vs := by
    rw [h3, List.take_zero, List.nil_append, Nat.zero_add, List.drop_of_length_le (by rw [Array.length_toList]; omega), List.append_nil]
  rw [← this]
theorem below_puts {B : Nat} {w0 w : World} {g o : Nat} {vs : List Value} (hb : Below B w0 w) (hg : B ≤ g) : Below B w0 (w.setCells g o vs) := by
  obtain ⟨h1, h2, h3, h4⟩ := setCells_same g vs o w
  exact ⟨h1.trans hb.os, h2.trans hb.tape, h3.trans hb.output, by rw [h4]; exact hb.size, fun k hk => (setCells_far vs o k (by omega)).trans (hb.block k hk)⟩
theorem R_puts {α : Type} {d : Kd α} {e : Nat} {w : World} {base : Nat} {v : Value} {xs : List α} (h : d.R e w base (fun _ => True) v xs) {g o : Nat} {vs : List Value} (hg : g < base) :
    d.R e (w.setCells g o vs) base (fun _ => True) v xs :=
  Kd.R_mono (Kd.R_move (Kd.R_bound h) (fun k hk => setCells_far vs o k (by have := hk.2.1; omega))) (fun _ _ => trivial)

end Go.Proofs.YtgopklnfdlnojaaDoor.My
