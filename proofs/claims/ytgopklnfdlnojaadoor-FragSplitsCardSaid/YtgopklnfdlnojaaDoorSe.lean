/- The pieces of a packet, joined, are the packet. Plain, no program. -/
import Derived.Test.YtgopklnfdlnojaaDoorSb
import Derived.Test.YtgopklnfdlnojaaDoorSd
namespace Go.Proofs.YtgopklnfdlnojaaDoor.Se
open Go.RowKit Go.Proofs.YtgopklnfdlnojaaDoor.Ga Go.Proofs.YtgopklnfdlnojaaDoor.Gb Go.Proofs.YtgopklnfdlnojaaDoor.Gp Go.Proofs.YtgopklnfdlnojaaDoor.Sa Go.Proofs.YtgopklnfdlnojaaDoor.Sb Go.Proofs.YtgopklnfdlnojaaDoor.Sd Go.Proofs.YtgopklnfdlnojaaDoorW.PrintWords
set_option linter.unusedVariables false
set_option linter.unusedSimpArgs false

theorem rd_pcs (first nm : Int) (m N : Nat) (xs : List Int) (k : Nat) (h : k < N) : rd_T29 (pcs first nm m N xs) k = ⟨((k : Int) == 0), ((k : Int) == (N : Int) - 1), (first + k) % nm, (xs.drop (k * m)).take m⟩ := by
  rw [rd_T29, Int.toNat_natCast, List.getD_eq_getElem?_getD]
  simp [pcs, List.getElem?_range h]

theorem form_pcs (first nm : Int) (m N : Nat) (xs : List Int) (k : Nat) (h : k < N) : formAt (pcs first nm m N xs) k = true := by
  rw [formAt, rd_pcs _ _ _ _ _ _ h, pcs_len]
  simp

theorem want_pcs (first nm : Int) (m N : Nat) (xs : List Int) (h0 : 0 < nm) : ∀ k, k < N → wantAt nm (pcs first nm m N xs) k = (first + k) % nm
  | 0, h => by
    rw [wantAt]
    have := rd_pcs first nm m N xs 0 h
    rw [show ((0 : Nat) : Int) = 0 from rfl] at this
    rw [this]
    rfl
  | k + 1, h => by
    rw [wantAt, want_pcs first nm m N xs h0 k (by omega)]
    rw [Int.emod_add_emod]
    congr 1
    push_cast
    omega

theorem loss_pcs (first nm : Int) (m N : Nat) (xs : List Int) (h0 : 0 < nm) (k : Nat) (h : k < N) : lossAt nm (pcs first nm m N xs) k = true := by
  rw [lossAt, want_pcs _ _ _ _ _ h0 _ h, rd_pcs _ _ _ _ _ _ h]
  have h1 := Int.emod_nonneg (first + k) (show nm ≠ 0 by omega)
  have h2 := Int.emod_lt_of_pos (first + k) h0
  simp [h1, h2]

theorem flat_upto (xs : List Int) (m : Nat) : ∀ N, (List.range N).flatMap (fun k => (xs.drop (k * m)).take m) = xs.take (N * m)
  | 0 => by simp
  | N + 1 => by
    rw [List.range_succ, List.flatMap_append, flat_upto xs m N]
    simp only [List.flatMap_cons, List.flatMap_nil, List.append_nil]
    rw [Nat.succ_mul, List.take_add]

theorem cnt_ge (m n : Nat) (hm : 1 ≤ m) : n ≤ cnt m n * m := by
  have := (cnt_lt m n (cnt m n) hm).2
  omega

theorem flat_pcs (first nm : Int) (m : Nat) (xs : List Int) (hm : 1 ≤ m) : (pcs first nm m (nP m xs.length) xs).flatMap (·.f3) = xs := by
  have h : (pcs first nm m (nP m xs.length) xs).flatMap (·.f3) = (List.range (nP m xs.length)).flatMap (fun k => (xs.drop (k * m)).take m) := by
    rw [pcs, List.flatMap_map]
  rw [h, flat_upto]
  apply List.take_of_length_le
  have h1 := cnt_ge m xs.length hm
  have h2 : cnt m xs.length * m ≤ nP m xs.length * m := Nat.mul_le_mul_right m (Nat.le_max_right _ _)
  omega

theorem glue_pcs (short : Bool) (first : Int) (m : Nat) (xs : List Int) (hm : 1 ≤ m) : glueP short (pcs first (numbers short) m (nP m xs.length) xs) = (xs, 0) := by
  have h0 : 0 < numbers short := by cases short <;> decide
  have hN : 0 < nP m xs.length := by unfold nP; omega
  rw [glue_ok (by rw [pcs_len]; exact hN) (fun i hi => form_pcs _ _ _ _ _ _ (by rwa [pcs_len] at hi)) (fun i hi => loss_pcs _ _ _ _ _ h0 _ (by rwa [pcs_len] at hi)), flat_pcs _ _ _ _ hm]

end Go.Proofs.YtgopklnfdlnojaaDoor.Se
