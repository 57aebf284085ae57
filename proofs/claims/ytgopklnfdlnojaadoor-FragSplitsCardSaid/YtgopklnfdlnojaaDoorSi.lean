/- What the document's Split, Glue, Few and Same answer, in the words of the package's. Plain, no program. -/
import Derived.Test.YtgopklnfdlnojaaDoorSe
import Derived.Test.YtgopklnfdlnojaaDoorGu
import Derived.Test.YtgopklnfdlnojaaDoorGa2
import Derived.Test.YtgopklnfdlnojaaDoorGa3
namespace Go.Proofs.YtgopklnfdlnojaaDoor.Si
open Go.RowKit Go.Proofs.YtgopklnfdlnojaaDoor.Ga Go.Proofs.YtgopklnfdlnojaaDoor.Gb Go.Proofs.YtgopklnfdlnojaaDoor.Gp Go.Proofs.YtgopklnfdlnojaaDoor.Gu Go.Proofs.YtgopklnfdlnojaaDoor.Sa Go.Proofs.YtgopklnfdlnojaaDoor.Sb Go.Proofs.YtgopklnfdlnojaaDoor.Sc Go.Proofs.YtgopklnfdlnojaaDoor.Sd Go.Proofs.YtgopklnfdlnojaaDoor.Se Go.Proofs.YtgopklnfdlnojaaDoorW.PrintWords
set_option linter.unusedVariables false
set_option linter.unusedSimpArgs false

/-- The pieces in the making. -/
def mk (first nm : Int) (m : Nat) (xs : List Int) (i : Nat) : List S24 := (List.range i).map fun (k : Nat) => ⟨decide (k = 0), false, (first + k) % nm, (xs.drop (k * m)).take m⟩
theorem mk_len (first nm : Int) (m : Nat) (xs : List Int) (i : Nat) : (mk first nm m xs i).length = i := by simp [mk]
theorem mk_succ (first nm : Int) (m : Nat) (xs : List Int) (i : Nat) : mk first nm m xs (i + 1) = mk first nm m xs i ++ [⟨decide (i = 0), false, (first + i) % nm, (xs.drop (i * m)).take m⟩] := by
  simp [mk, List.range_succ]

theorem mk_end (first nm : Int) (m : Nat) (xs : List Int) (N : Nat) (hN : 0 < N) (hN2 : N ≤ 1000) : (mk first nm m xs N).set ((wrap64 (((mk first nm m xs N).length : Int) - 1)).toNat) ⟨(rd_T24 (mk first nm m xs N) (wrap64 (((mk first nm m xs N).length : Int) - 1))).f0, true, (rd_T24 (mk first nm m xs N) (wrap64 (((mk first nm m xs N).length : Int) - 1))).f2, (rd_T24 (mk first nm m xs N) (wrap64 (((mk first nm m xs N).length : Int) - 1))).f3⟩ = (pcs first nm m N xs).map of29 := by
  have hw : wrap64 (((mk first nm m xs N).length : Int) - 1) = ((N - 1 : Nat) : Int) := by rw [mk_len]; unfold wrap64; omega
  rw [hw, Int.toNat_natCast]
  have hrd : rd_T24 (mk first nm m xs N) ((N - 1 : Nat) : Int) = ⟨decide (N - 1 = 0), false, (first + ((N - 1 : Nat) : Int)) % nm, (xs.drop ((N - 1) * m)).take m⟩ := by
    rw [rd_T24, Int.toNat_natCast, List.getD_eq_getElem?_getD]
    simp [mk, List.getElem?_range (show N - 1 < N by omega)]
  rw [hrd]
  have hmk : ∀ j, j < N → (mk first nm m xs N)[j]? = some ⟨decide (j = 0), false, (first + j) % nm, (xs.drop (j * m)).take m⟩ := fun j hj => by simp [mk, List.getElem?_range hj]
  have hpc : ∀ j, j < N → ((pcs first nm m N xs).map of29)[j]? = some ⟨((j : Int) == 0), ((j : Int) == (N : Int) - 1), (first + j) % nm, (xs.drop (j * m)).take m⟩ := fun j hj => by simp [pcs, List.getElem?_range hj, of29]
  have hz : ∀ j : Nat, decide (j = 0) = ((j : Int) == 0) := fun j => by
    by_cases h : j = 0
    · subst h; rfl
    · rw [decide_eq_false h]
      symm
      simpa using h
  apply List.ext_getElem?
  intro j
  by_cases hj : j < N
  · rw [hpc j hj, ← hz j]
    by_cases h1 : N - 1 = j
    · rw [h1, List.getElem?_set_self (by rw [mk_len]; exact hj)]
      have e : ((j : Int) == (N : Int) - 1) = true := by simp; omega
      rw [e]
    · rw [List.getElem?_set_ne h1, hmk j hj]
      have e : ((j : Int) == (N : Int) - 1) = false := by simp; omega
      rw [e]
  · rw [List.getElem?_eq_none (by rw [List.length_set, mk_len]; omega), List.getElem?_eq_none (by rw [List.length_map, pcs_len]; omega)]

theorem split_loop (short : Bool) (first : Int) (m : Nat) (xs : List Int) (hm : 1 ≤ m) (h0 : 0 ≤ first) (h1 : first < numbers short) (hn : xs.length ≤ 1000) :
    ∀ (d i K : Nat), i + d = nP m xs.length → 3 * d + 2 ≤ K →
      marlineref23_Split.l0 K short m (mk first (numbers short) m xs i) ((first + i) % numbers short) (xs.drop (i * m)) (decide (i = 0)) = some ((pcs first (numbers short) m (nP m xs.length) xs).map of29, (first + (nP m xs.length : Nat)) % numbers short, 0) := by
  have hnm : numbers short = 4096 ∨ numbers short = 16777216 := by cases short <;> simp [numbers]
  have hN0 : 0 < nP m xs.length := by unfold nP; omega
  have hNle : nP m xs.length ≤ 1000 := by have := cnt_le m xs.length hm; unfold nP; omega
  intro d
  induction d with
  | zero =>
    intro i K hi hK
    obtain ⟨K, rfl⟩ : ∃ q, K = q + 2 := ⟨K - 2, by omega⟩
    obtain rfl : i = nP m xs.length := by omega
    have hi0 : decide (nP m xs.length = 0) = false := decide_eq_false (by omega)
    have hr : xs.drop (nP m xs.length * m) = [] := by
      apply List.drop_of_length_le
      have h1 := cnt_ge m xs.length hm
      have h2 : cnt m xs.length * m ≤ nP m xs.length * m := Nat.mul_le_mul_right m (Nat.le_max_right _ _)
      omega
    rw [hi0, hr, marlineref23_Split.l0, if_neg (by decide), marlineref23_Split.j2, if_neg (by simp)]
    have hw : wrap64 (((mk first (numbers short) m xs (nP m xs.length)).length : Int) - 1) = ((nP m xs.length - 1 : Nat) : Int) := by rw [mk_len]; unfold wrap64; omega
    rw [if_pos (by rw [hw]; omega), if_pos (by rw [hw, mk_len]; omega)]
    rw [mk_end _ _ _ _ _ hN0 hNle]
  | succ d ih =>
    intro i K hi hK
    obtain ⟨K, rfl⟩ : ∃ q, K = q + 3 := ⟨K - 3, by omega⟩
    have hrl : (xs.drop (i * m)).length = xs.length - i * m := List.length_drop
    have hgo : marlineref23_Split.l0 (K + 3) short m (mk first (numbers short) m xs i) ((first + i) % numbers short) (xs.drop (i * m)) (decide (i = 0)) = marlineref23_Split.j2 (K + 2) short m (mk first (numbers short) m xs i) ((first + i) % numbers short) (xs.drop (i * m)) (decide (i = 0)) true := by
      rw [marlineref23_Split.l0]
      by_cases hi0 : i = 0
      · rw [if_pos (decide_eq_true hi0)]
      · rw [if_neg (by simpa using hi0)]
        have hc : i < cnt m xs.length := by unfold nP at hi; omega
        have := (cnt_lt m xs.length i hm).1 hc
        rw [decide_eq_true (show ((xs.drop (i * m)).length : Int) > 0 by omega)]
    have hj3 : marlineref23_Split.j2 (K + 2) short m (mk first (numbers short) m xs i) ((first + i) % numbers short) (xs.drop (i * m)) (decide (i = 0)) true = marlineref23_Split.j3 (K + 1) short m (mk first (numbers short) m xs i) ((first + i) % numbers short) (xs.drop (i * m)) (decide (i = 0)) ((min m (xs.drop (i * m)).length : Nat) : Int) := by
      rw [marlineref23_Split.j2, if_pos rfl]
      by_cases hlt : ((xs.drop (i * m)).length : Int) > m
      · rw [if_pos hlt, show min m (xs.drop (i * m)).length = m by omega]
      · rw [if_neg hlt, show min m (xs.drop (i * m)).length = (xs.drop (i * m)).length by omega]
    rw [hgo, hj3, marlineref23_Split.j3, if_pos (by omega), if_pos (by omega), if_pos (by rw [mk_len]; omega)]
    have ht : (xs.drop (i * m)).take (min m (xs.drop (i * m)).length) = (xs.drop (i * m)).take m := by
      by_cases hlt : m ≤ (xs.drop (i * m)).length
      · rw [Nat.min_eq_left hlt]
      · rw [Nat.min_eq_right (by omega), List.take_of_length_le (Nat.le_refl _), List.take_of_length_le (by omega)]
    have hd : (xs.drop (i * m)).drop (min m (xs.drop (i * m)).length) = xs.drop ((i + 1) * m) := by
      rw [Nat.succ_mul, ← List.drop_drop]
      by_cases hlt : m ≤ (xs.drop (i * m)).length
      · rw [Nat.min_eq_left hlt]
      · rw [Nat.min_eq_right (by omega), List.drop_of_length_le (Nat.le_refl _), List.drop_of_length_le (by omega)]
    rw [Int.toNat_natCast, ht, hd]
    simp only [Option.bind_some, mod_plain]
    rw [← mk_succ]
    have hdv : wrap64 (Int.tdiv (numbers short) 2) = Int.tdiv (numbers short) 2 ∧ 1000 < Int.tdiv (numbers short) 2 := by
      have e1 : Int.tdiv 4096 2 = 2048 := rfl
      have e2 : Int.tdiv 16777216 2 = 8388608 := rfl
      rcases hnm with h | h <;> rw [h] <;> (first | rw [e1] | rw [e2]) <;> (unfold wrap64; omega)
    rw [if_neg (by omega), if_neg (by rw [hdv.1, mk_len]; have := hdv.2; omega)]
    have hb := Int.emod_nonneg (first + i) (show numbers short ≠ 0 by omega)
    have hb2 := Int.emod_lt_of_pos (first + i) (show 0 < numbers short by omega)
    have hnum : Int.tmod (wrap64 ((first + i) % numbers short + 1)) (numbers short) = (first + ((i + 1 : Nat) : Int)) % numbers short := by
      have hw : wrap64 ((first + i) % numbers short + 1) = (first + i) % numbers short + 1 := by
        generalize (first + i) % numbers short = q at hb hb2
        unfold wrap64
        omega
      rw [hw, Int.tmod_eq_emod_of_nonneg (by omega), Int.emod_add_emod]
      congr 1
      push_cast
      omega
    rw [hnum]
    have hf : (false : Bool) = decide (i + 1 = 0) := (decide_eq_false (by omega)).symm
    rw [hf]
    exact ih (i + 1) K (by omega) (by omega)

theorem ref_split (short : Bool) (first most : Int) (xs : List Int) (hn : xs.length ≤ 1000) : ∃ K, marlineref23_Split.f K short first most xs = some ((splitP short first most xs).1.map of29, (splitP short first most xs).2.1, (splitP short first most xs).2.2) := by
  refine ⟨3 * nP most.toNat xs.length + 3, ?_⟩
  rw [marlineref23_Split.f, splitP]
  by_cases hm : most < 1
  · rw [if_pos hm, if_pos hm]
    rfl
  rw [if_neg hm, if_neg hm]
  have hnm : numbers short = 4096 ∨ numbers short = 16777216 := by cases short <;> simp [numbers]
  by_cases h0 : first < 0
  · rw [if_pos h0, if_pos (by omega), marlineref23_Split.j0, if_pos rfl]
    rfl
  rw [if_neg h0, mod_plain, Option.bind_some, marlineref23_Split.j0]
  by_cases h1 : first ≥ numbers short
  · rw [if_pos (decide_eq_true h1), if_pos (by omega)]
    rfl
  rw [if_neg (by simpa using h1), if_neg (by omega)]
  obtain ⟨m, rfl⟩ : ∃ m : Nat, most = (m : Int) := ⟨most.toNat, by omega⟩
  rw [Int.toNat_natCast]
  have := split_loop short first m xs (by omega) (by omega) (by omega) hn (nP m xs.length) 0 (3 * nP m xs.length + 2) (by omega) (by omega)
  simp only [mk, List.range_zero, List.map_nil, Nat.zero_mul, List.drop_zero] at this
  rw [show (first + ((0 : Nat) : Int)) % numbers short = first by rw [Int.natCast_zero, Int.add_zero]; exact Int.emod_eq_of_lt (by omega) (by omega)] at this
  exact this

end Go.Proofs.YtgopklnfdlnojaaDoor.Si
