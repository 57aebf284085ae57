/- Pieces of which one is left out, told twice, or out of its order can't be joined. Plain, no program. -/
import Derived.Test.YtgopklnfdlnojaaDoorSe
namespace Go.Proofs.YtgopklnfdlnojaaDoor.Sh
open Go.RowKit Go.Proofs.YtgopklnfdlnojaaDoor.Ga Go.Proofs.YtgopklnfdlnojaaDoor.Gb Go.Proofs.YtgopklnfdlnojaaDoor.Gp Go.Proofs.YtgopklnfdlnojaaDoor.Sa Go.Proofs.YtgopklnfdlnojaaDoor.Sb Go.Proofs.YtgopklnfdlnojaaDoor.Sd Go.Proofs.YtgopklnfdlnojaaDoor.Se Go.Proofs.YtgopklnfdlnojaaDoorW.PrintWords
set_option linter.unusedVariables false
set_option linter.unusedSimpArgs false

theorem rd_get (l : List S29) (i : Nat) : rd_T29 l (i : Int) = (l[i]?).getD z29 := by
  rw [rd_T29, Int.toNat_natCast, List.getD_eq_getElem?_getD]
theorem rd_less (l : List S29) (k i : Nat) (hk : k < l.length) : rd_T29 (l.take k ++ l.drop (k + 1)) (i : Int) = if i < k then rd_T29 l (i : Int) else rd_T29 l ((i + 1 : Nat) : Int) := by
  rw [rd_get, rd_get, rd_get]
  by_cases h : i < k
  · rw [if_pos h, List.getElem?_append_left (by rw [List.length_take]; omega), List.getElem?_take, if_pos h]
  · rw [if_neg h, List.getElem?_append_right (by rw [List.length_take]; omega), List.getElem?_drop, List.length_take]
    congr 2
    omega
theorem rd_twice (l : List S29) (k i : Nat) (hk : k < l.length) : rd_T29 (l.take (k + 1) ++ l.drop k) (i : Int) = if i < k + 1 then rd_T29 l (i : Int) else rd_T29 l ((i - 1 : Nat) : Int) := by
  rw [rd_get, rd_get, rd_get]
  by_cases h : i < k + 1
  · rw [if_pos h, List.getElem?_append_left (by rw [List.length_take]; omega), List.getElem?_take, if_pos h]
  · rw [if_neg h, List.getElem?_append_right (by rw [List.length_take]; omega), List.getElem?_drop, List.length_take]
    congr 2
    omega

theorem want_of (nm b : Int) (l : List S29) (h : rd_T29 l 0 = rd_T29 l 0) (h0 : (rd_T29 l 0).f2 = b % nm) : ∀ k : Nat, wantAt nm l k = (b + k) % nm
  | 0 => by rw [wantAt, h0]; simp
  | k + 1 => by
    rw [wantAt, want_of nm b l h h0 k, Int.emod_add_emod]
    congr 1
    push_cast
    omega

theorem bad_err {short : Bool} {l : List S29} (h0 : 0 < l.length) (h : ∃ i < l.length, formAt l i = false ∨ lossAt (numbers short) l i = false) : (glueP short l).2 = 4 ∨ (glueP short l).2 = 14 := by
  obtain ⟨i, hi, h⟩ := h
  unfold glueP
  rw [if_neg (by omega)]
  by_cases h1 : (List.range l.length).all (formAt l) = false
  · rw [if_pos h1]; exact .inl rfl
  · rw [if_neg h1]
    have h2 : (List.range l.length).all (lossAt (numbers short) l) = false := by
      rw [List.all_eq_false]
      refine ⟨i, List.mem_range.2 hi, ?_⟩
      rcases h with h | h
      · have h3 := List.all_eq_true.1 (by simpa using h1) i (List.mem_range.2 hi)
        rw [h] at h3
        cases h3
      · rw [h]; decide
    rw [if_pos h2]; exact .inr rfl

theorem mod_ne (b nm : Int) (h : nm = 4096 ∨ nm = 16777216) : (b + 1) % nm ≠ b % nm := by
  rcases h with rfl | rfl <;> omega
theorem nm_of (short : Bool) : numbers short = 4096 ∨ numbers short = 16777216 := by cases short <;> simp [numbers]

theorem loss_ne {nm : Int} {l : List S29} {k : Nat} (h : (rd_T29 l k).f2 ≠ wantAt nm l k) : lossAt nm l k = false := by
  rw [lossAt]
  have : ((rd_T29 l k).f2 == wantAt nm l k) = false := by simpa using h
  rw [this, Bool.and_false]
theorem form_ne0 {l : List S29} {k : Nat} (h : (rd_T29 l k).f0 ≠ ((k : Int) == 0)) : formAt l k = false := by
  rw [formAt]
  have : ((rd_T29 l k).f0 == ((k : Int) == 0)) = false := by simpa using h
  rw [this, Bool.false_and]
theorem form_ne1 {l : List S29} {k : Nat} (h : (rd_T29 l k).f1 ≠ ((k : Int) == (l.length : Int) - 1)) : formAt l k = false := by
  rw [formAt]
  have : ((rd_T29 l k).f1 == ((k : Int) == (l.length : Int) - 1)) = false := by simpa using h
  rw [this, Bool.and_false]

section
variable (short : Bool) (bg : Int) (m N : Nat) (xs : List Int)
theorem less_err (k : Nat) (hk : k < N) : (glueP short ((pcs bg (numbers short) m N xs).take k ++ (pcs bg (numbers short) m N xs).drop (k + 1))).2 ≠ 0 := by
  have hl := pcs_len bg (numbers short) m N xs
  have hr := fun i => rd_less (pcs bg (numbers short) m N xs) k i (by omega)
  have hp := fun i h => rd_pcs bg (numbers short) m N xs i h
  generalize pcs bg (numbers short) m N xs = l at hl hr hp ⊢
  have hll : (l.take k ++ l.drop (k + 1)).length = N - 1 := by rw [List.length_append, List.length_take, List.length_drop]; omega
  by_cases hN : N = 1
  · rw [glueP, if_pos (by omega)]; decide
  have key : ∃ i < (l.take k ++ l.drop (k + 1)).length, formAt (l.take k ++ l.drop (k + 1)) i = false ∨ lossAt (numbers short) (l.take k ++ l.drop (k + 1)) i = false := by
    rw [hll]
    by_cases h0 : k = 0
    · refine ⟨0, by omega, .inl (form_ne0 ?_)⟩
      rw [hr 0, if_neg (by omega), hp 1 (by omega)]
      show (((1 : Nat) : Int) == 0) ≠ (((0 : Nat) : Int) == 0)
      decide
    by_cases h1 : k = N - 1
    · refine ⟨N - 2, by omega, .inl (form_ne1 ?_)⟩
      rw [hr, if_pos (by omega), hp _ (by omega), hll]
      have e1 : (((N - 2 : Nat) : Int) == (N : Int) - 1) = false := by simp; omega
      have e2 : (((N - 2 : Nat) : Int) == ((N - 1 : Nat) : Int) - 1) = true := by simp; omega
      rw [e1, e2]
      show false ≠ true
      decide
    · refine ⟨k, by omega, .inr (loss_ne ?_)⟩
      have hr0 := hr 0
      rw [if_pos (by omega), hp 0 (by omega)] at hr0
      rw [want_of (numbers short) bg _ rfl (by have := congrArg S29.f2 hr0; simpa using this), hr, if_neg (by omega), hp _ (by omega)]
      have := mod_ne (bg + k) (numbers short) (nm_of short)
      simpa [Int.add_assoc] using this
  rcases bad_err (by rw [hll]; omega) key with h | h <;> rw [h] <;> decide

theorem twice_err (k : Nat) (hk : k < N) : (glueP short ((pcs bg (numbers short) m N xs).take (k + 1) ++ (pcs bg (numbers short) m N xs).drop k)).2 ≠ 0 := by
  have hl := pcs_len bg (numbers short) m N xs
  have hr := fun i => rd_twice (pcs bg (numbers short) m N xs) k i (by omega)
  have hp := fun i h => rd_pcs bg (numbers short) m N xs i h
  generalize pcs bg (numbers short) m N xs = l at hl hr hp ⊢
  have hll : (l.take (k + 1) ++ l.drop k).length = N + 1 := by rw [List.length_append, List.length_take, List.length_drop]; omega
  have key : ∃ i < (l.take (k + 1) ++ l.drop k).length, formAt (l.take (k + 1) ++ l.drop k) i = false ∨ lossAt (numbers short) (l.take (k + 1) ++ l.drop k) i = false := by
    rw [hll]
    refine ⟨k + 1, by omega, .inr (loss_ne ?_)⟩
    have hr0 := hr 0
    rw [if_pos (by omega), hp 0 (by omega)] at hr0
    rw [want_of (numbers short) bg _ rfl (by have := congrArg S29.f2 hr0; simpa using this), hr, if_neg (by omega), Nat.add_sub_cancel, hp _ (by omega)]
    have := mod_ne (bg + k) (numbers short) (nm_of short)
    intro h
    apply this
    rw [Int.add_assoc]
    exact_mod_cast h.symm
  rcases bad_err (by rw [hll]; omega) key with h | h <;> rw [h] <;> decide

theorem turned_err (k : Nat) (hk : k < N) (hk0 : 0 < k) : (glueP short (((pcs bg (numbers short) m N xs).set (k - 1) (rd_T29 (pcs bg (numbers short) m N xs) (k : Int))).set k (rd_T29 (pcs bg (numbers short) m N xs) ((k - 1 : Nat) : Int)))).2 = 4 ∨ (glueP short (((pcs bg (numbers short) m N xs).set (k - 1) (rd_T29 (pcs bg (numbers short) m N xs) (k : Int))).set k (rd_T29 (pcs bg (numbers short) m N xs) ((k - 1 : Nat) : Int)))).2 = 14 := by
  have hl := pcs_len bg (numbers short) m N xs
  have hp := fun i h => rd_pcs bg (numbers short) m N xs i h
  generalize pcs bg (numbers short) m N xs = l at hl hp ⊢
  have hll : ((l.set (k - 1) (rd_T29 l (k : Int))).set k (rd_T29 l ((k - 1 : Nat) : Int))).length = N := by simp [hl]
  have hr1 : rd_T29 ((l.set (k - 1) (rd_T29 l (k : Int))).set k (rd_T29 l ((k - 1 : Nat) : Int))) ((k - 1 : Nat) : Int) = rd_T29 l (k : Int) := by
    rw [rd_get, List.getElem?_set_ne (by omega), List.getElem?_set_self (by omega)]
    rfl
  apply bad_err (by rw [hll]; omega)
  rw [hll]
  by_cases h1 : k = 1
  · subst h1
    refine ⟨0, by omega, .inl (form_ne0 ?_)⟩
    have h2 : rd_T29 ((l.set (1 - 1) (rd_T29 l ((1 : Nat) : Int))).set 1 (rd_T29 l ((1 - 1 : Nat) : Int))) ((0 : Nat) : Int) = rd_T29 l ((1 : Nat) : Int) := hr1
    rw [h2, hp 1 (by omega)]
    show (((1 : Nat) : Int) == 0) ≠ (((0 : Nat) : Int) == 0)
    decide
  · refine ⟨k - 1, by omega, .inr (loss_ne ?_)⟩
    have hr0 : rd_T29 ((l.set (k - 1) (rd_T29 l (k : Int))).set k (rd_T29 l ((k - 1 : Nat) : Int))) ((0 : Nat) : Int) = rd_T29 l ((0 : Nat) : Int) := by
      rw [rd_get _ 0, rd_get l 0, List.getElem?_set_ne (by omega), List.getElem?_set_ne (by omega)]
    rw [hp 0 (by omega)] at hr0
    rw [want_of (numbers short) bg _ rfl (by have := congrArg S29.f2 hr0; simpa using this), hr1, hp _ hk]
    have := mod_ne (bg + ((k - 1 : Nat) : Int)) (numbers short) (nm_of short)
    have e : bg + ((k - 1 : Nat) : Int) + 1 = bg + (k : Int) := by omega
    rw [e] at this
    exact this
end

end Go.Proofs.YtgopklnfdlnojaaDoor.Sh
