/- What the document's Glue, Few and Same answer. Plain, no program. -/
import Derived.Test.YtgopklnfdlnojaaDoorSi
namespace Go.Proofs.YtgopklnfdlnojaaDoor.Sj
open Go.RowKit Go.Proofs.YtgopklnfdlnojaaDoor.Ga Go.Proofs.YtgopklnfdlnojaaDoor.Gb Go.Proofs.YtgopklnfdlnojaaDoor.Gp Go.Proofs.YtgopklnfdlnojaaDoor.Gu Go.Proofs.YtgopklnfdlnojaaDoor.Sa Go.Proofs.YtgopklnfdlnojaaDoor.Sb Go.Proofs.YtgopklnfdlnojaaDoor.Sc Go.Proofs.YtgopklnfdlnojaaDoor.Sd Go.Proofs.YtgopklnfdlnojaaDoor.Se Go.Proofs.YtgopklnfdlnojaaDoor.Si Go.Proofs.YtgopklnfdlnojaaDoorW.PrintWords
set_option linter.unusedVariables false
set_option linter.unusedSimpArgs false

theorem rd_map (l : List S24) (i : Nat) : rd_T29 (l.map of24) (i : Int) = of24 (rd_T24 l (i : Int)) := by
  rw [rd_T29, rd_T24, Int.toNat_natCast, List.getD_eq_getElem?_getD, List.getD_eq_getElem?_getD, List.getElem?_map]
  cases l[i]? <;> rfl
theorem flat_map (l : List S24) : (l.map of24).flatMap (·.f3) = l.flatMap (·.f3) := by
  rw [List.flatMap_map]
  rfl

theorem glue_l1 (short : Bool) (l : List S24) (h0 : 0 < l.length) (hn : l.length ≤ 100000) (hl : (l.flatMap (·.f3)).length ≤ 100000) (hF : ∀ i < l.length, formAt (l.map of24) i = true) :
    ∀ (d i K : Nat), i + d = l.length → d + 1 ≤ K → (∀ j < i, lossAt (numbers short) (l.map of24) j = true) →
      marlineref23_Glue.l1 K short l ((l.take i).flatMap (·.f3)) (i : Int) = some (glueP short (l.map of24)) := by
  have hnm : numbers short = 4096 ∨ numbers short = 16777216 := by cases short <;> simp [numbers]
  have hml : (l.map of24).length = l.length := List.length_map _
  intro d
  induction d with
  | zero =>
    intro i K hi hK hG
    obtain ⟨K, rfl⟩ : ∃ q, K = q + 1 := ⟨K - 1, by omega⟩
    obtain rfl : i = l.length := by omega
    rw [marlineref23_Glue.l1, if_neg (by omega), List.take_of_length_le (Nat.le_refl _)]
    rw [glue_ok (by omega) (by rw [hml]; exact hF) (by rw [hml]; exact hG), flat_map]
  | succ d ih =>
    intro i K hi hK hG
    obtain ⟨K, rfl⟩ : ∃ q, K = q + 1 := ⟨K - 1, by omega⟩
    have hil : i < l.length := by omega
    have htk : (l.take (i + 1)).flatMap (·.f3) = (l.take i).flatMap (·.f3) ++ (rd_T24 l (i : Int)).f3 := by
      rw [List.take_add_one, List.flatMap_append, List.getElem?_eq_getElem hil, rd_T24, Int.toNat_natCast, List.getD_eq_getElem?_getD, List.getElem?_eq_getElem hil]
      simp
    have hlen : ((l.take i).flatMap (·.f3)).length + (rd_T24 l (i : Int)).f3.length ≤ 100000 := by
      rw [← List.length_append, ← htk]
      have : l.flatMap (·.f3) = (l.take (i + 1)).flatMap (·.f3) ++ (l.drop (i + 1)).flatMap (·.f3) := by rw [← List.flatMap_append, List.take_append_drop]
      have h2 := congrArg List.length this
      rw [List.length_append] at h2
      omega
    have hloss : lossAt (numbers short) (l.map of24) i = (decide (0 ≤ (rd_T24 l (i : Int)).f2 ∧ (rd_T24 l (i : Int)).f2 < numbers short) && (rd_T24 l (i : Int)).f2 == wantAt (numbers short) (l.map of24) i) := by
      rw [lossAt, rd_map]
      rfl
    have bad : lossAt (numbers short) (l.map of24) i = false → some (([] : List Int), (14 : Int)) = some (glueP short (l.map of24)) := fun h => by
      rw [glue_loss (k := i) (by omega) (by rw [hml]; exact hF) h]
    have good : lossAt (numbers short) (l.map of24) i = true → marlineref23_Glue.l1 K short l ((l.take i).flatMap (·.f3) ++ (rd_T24 l (i : Int)).f3) (wrap64 ((i : Int) + 1)) = some (glueP short (l.map of24)) := fun h => by
      have hw : wrap64 ((i : Int) + 1) = ((i + 1 : Nat) : Int) := by unfold wrap64; omega
      rw [hw, ← htk]
      refine ih (i + 1) K (by omega) (by omega) fun j hj => ?_
      by_cases hji : j < i
      · exact hG j hji
      · obtain rfl : j = i := by omega
        exact h
    rw [marlineref23_Glue.l1, if_pos (by omega), if_pos (by omega)]
    by_cases hneg : (rd_T24 l (i : Int)).f2 < 0
    · rw [if_pos hneg]
      exact bad (by rw [hloss, decide_eq_false (by omega)]; rfl)
    rw [if_neg hneg, mod_plain, Option.bind_some]
    by_cases hge : (rd_T24 l (i : Int)).f2 ≥ numbers short
    · rw [if_pos hge]
      exact bad (by rw [hloss, decide_eq_false (by omega)]; rfl)
    rw [if_neg hge]
    have hin : decide (0 ≤ (rd_T24 l (i : Int)).f2 ∧ (rd_T24 l (i : Int)).f2 < numbers short) = true := decide_eq_true ⟨by omega, by omega⟩
    by_cases hi0 : i = 0
    · subst hi0
      rw [if_neg (by decide), if_pos (by omega)]
      refine good ?_
      rw [hloss, hin, wantAt]
      have := rd_map l 0
      rw [Int.natCast_zero] at this ⊢
      rw [this]
      simp [of24]
    · have hw : wrap64 ((i : Int) - 1) = ((i - 1 : Nat) : Int) := by unfold wrap64; omega
      rw [if_pos (by omega), hw, if_pos (by omega), if_pos (by omega), Option.bind_some, if_neg (by omega)]
      have hp := hG (i - 1) (by omega)
      rw [lossAt, rd_map] at hp
      have hp2 : (0 ≤ (rd_T24 l ((i - 1 : Nat) : Int)).f2 ∧ (rd_T24 l ((i - 1 : Nat) : Int)).f2 < numbers short) ∧ (rd_T24 l ((i - 1 : Nat) : Int)).f2 = wantAt (numbers short) (l.map of24) (i - 1) := by
        have hp3 := (Bool.and_eq_true _ _).mp hp
        exact ⟨of_decide_eq_true hp3.1, by simpa [of24] using hp3.2⟩
      have hwt : wantAt (numbers short) (l.map of24) i = ((rd_T24 l ((i - 1 : Nat) : Int)).f2 + 1) % numbers short := by
        obtain ⟨j, rfl⟩ : ∃ j, i = j + 1 := ⟨i - 1, by omega⟩
        rw [wantAt]
        have e : j + 1 - 1 = j := by omega
        rw [e] at hp2
        rw [← hp2.2, e]
      have hw2 : wrap64 ((rd_T24 l ((i - 1 : Nat) : Int)).f2 + 1) = (rd_T24 l ((i - 1 : Nat) : Int)).f2 + 1 := by
        have h1 := hp2.1
        generalize (rd_T24 l ((i - 1 : Nat) : Int)).f2 = q at h1
        unfold wrap64
        omega
      rw [hw2, Int.tmod_eq_emod_of_nonneg (by have := hp2.1; omega), ← hwt]
      by_cases he : (rd_T24 l (i : Int)).f2 = wantAt (numbers short) (l.map of24) i
      · rw [if_pos he, if_pos (by omega)]
        exact good (by rw [hloss, hin]; simp [he])
      · rw [if_neg he]
        exact bad (by rw [hloss, hin]; simp [he])

theorem glue_l0 (short : Bool) (l : List S24) (h0 : 0 < l.length) (hn : l.length ≤ 100000) (hl : (l.flatMap (·.f3)).length ≤ 100000) :
    ∀ (d i K : Nat), i + d = l.length → d + l.length + 3 ≤ K → (∀ j < i, formAt (l.map of24) j = true) →
      marlineref23_Glue.l0 K short l (i : Int) = some (glueP short (l.map of24)) := by
  have hml : (l.map of24).length = l.length := List.length_map _
  intro d
  induction d with
  | zero =>
    intro i K hi hK hF
    obtain ⟨K, rfl⟩ : ∃ q, K = q + 1 := ⟨K - 1, by omega⟩
    obtain rfl : i = l.length := by omega
    rw [marlineref23_Glue.l0, if_neg (by omega)]
    exact glue_l1 short l h0 hn hl hF l.length 0 K (by omega) (by omega) (fun j hj => absurd hj (Nat.not_lt_zero j))
  | succ d ih =>
    intro i K hi hK hF
    obtain ⟨K, rfl⟩ : ∃ q, K = q + 1 := ⟨K - 1, by omega⟩
    have hw : wrap64 ((l.length : Int) - 1) = (l.length : Int) - 1 := by unfold wrap64; omega
    have hform : formAt (l.map of24) i = ((rd_T24 l (i : Int)).f0 == ((i : Int) == 0) && (rd_T24 l (i : Int)).f1 == ((i : Int) == (l.length : Int) - 1)) := by
      rw [formAt, rd_map, hml]
      rfl
    have bad : formAt (l.map of24) i = false → some (([] : List Int), (4 : Int)) = some (glueP short (l.map of24)) := fun h => by
      rw [glue_form (k := i) (by omega) h]
    rw [marlineref23_Glue.l0, if_pos (by omega), if_pos (by omega), hw]
    by_cases h1 : (rd_T24 l (i : Int)).f0 = ((i : Int) == 0)
    · rw [if_neg (by simp [h1])]
      by_cases h2 : (rd_T24 l (i : Int)).f1 = ((i : Int) == (l.length : Int) - 1)
      · rw [if_neg (by simp [h2])]
        have hw2 : wrap64 ((i : Int) + 1) = ((i + 1 : Nat) : Int) := by unfold wrap64; omega
        rw [hw2]
        refine ih (i + 1) K (by omega) (by omega) fun j hj => ?_
        by_cases hji : j < i
        · exact hF j hji
        · obtain rfl : j = i := by omega
          rw [hform]
          simp [h1, h2]
      · rw [if_pos (by simpa using h2)]
        refine bad ?_
        rw [hform]
        have : ((rd_T24 l (i : Int)).f1 == ((i : Int) == (l.length : Int) - 1)) = false := by simpa using h2
        rw [this, Bool.and_false]
    · rw [if_pos (by simpa using h1)]
      refine bad ?_
      rw [hform]
      have : ((rd_T24 l (i : Int)).f0 == ((i : Int) == 0)) = false := by simpa using h1
      rw [this, Bool.false_and]

theorem ref_glue (short : Bool) (l : List S24) (hn : l.length ≤ 100000) (hl : (l.flatMap (·.f3)).length ≤ 100000) : marlineref23_Glue.f (l.length + l.length + 3) short l = some (glueP short (l.map of24)) := by
  rw [marlineref23_Glue.f]
  by_cases h0 : l.length = 0
  · rw [if_pos (by omega), glueP, if_pos (by rw [List.length_map]; exact h0)]
  · rw [if_neg (by omega)]
    exact glue_l0 short l (by omega) hn hl l.length 0 _ (by omega) (by omega) (fun j hj => absurd hj (Nat.not_lt_zero j))

theorem same_l0 (l : List S24) (hn : l.length ≤ 100000) : ∀ (d i K : Nat), i + d = l.length → d + 1 ≤ K → marlineref23_Same.l0 K l l (i : Int) = some true := by
  intro d
  induction d with
  | zero =>
    intro i K hi hK
    obtain ⟨K, rfl⟩ : ∃ q, K = q + 1 := ⟨K - 1, by omega⟩
    rw [marlineref23_Same.l0, if_neg (by omega)]
  | succ d ih =>
    intro i K hi hK
    obtain ⟨K, rfl⟩ : ∃ q, K = q + 1 := ⟨K - 1, by omega⟩
    have hw2 : wrap64 ((i : Int) + 1) = ((i + 1 : Nat) : Int) := by unfold wrap64; omega
    rw [marlineref23_Same.l0, if_pos (by omega), if_pos (by omega), if_pos (by omega), if_neg (by simp), if_neg (by simp), if_pos rfl, if_pos rfl, hw2]
    exact ih (i + 1) K (by omega) (by omega)
theorem same_list (l : List S24) (hn : l.length ≤ 100000) : marlineref23_Same.f (l.length + 1) l l = some true := by
  rw [marlineref23_Same.f, if_pos rfl]
  exact same_l0 l hn l.length 0 _ (by omega) (by omega)

theorem few_l0 (l : List S24) (hb : ∀ x ∈ l, x.f3.length ≤ 140737488351232) (hn : l.length ≤ 9223372036854775807) : ∀ (d i K : Nat) (S : Int), i + d = l.length → d + 1 ≤ K → (l.length ≤ 60 → S = (((l.take i).flatMap (·.f3)).length : Int) ∧ S ≤ i * 140737488351232) →
    ∃ b, marlinelaw23_Few.l0 K l S l (l.length : Int) (i : Int) = some b ∧ (b = true → l.length ≤ 60 ∧ (l.flatMap (·.f3)).length ≤ 1000) := by
  intro d
  induction d with
  | zero =>
    intro i K S hi hK hS
    obtain ⟨K, rfl⟩ : ∃ q, K = q + 1 := ⟨K - 1, by omega⟩
    obtain rfl : i = l.length := by omega
    rw [marlinelaw23_Few.l0, if_neg (by omega)]
    by_cases h60 : l.length ≤ 60
    · rw [if_pos (by omega)]
      refine ⟨_, rfl, fun h => ⟨h60, ?_⟩⟩
      have h1 := of_decide_eq_true h
      have h2 := (hS h60).1
      rw [List.take_of_length_le (Nat.le_refl _)] at h2
      omega
    · rw [if_neg (by omega)]
      exact ⟨_, rfl, fun h => by cases h⟩
  | succ d ih =>
    intro i K S hi hK hS
    obtain ⟨K, rfl⟩ : ∃ q, K = q + 1 := ⟨K - 1, by omega⟩
    have hil : i < l.length := by omega
    have hw2 : wrap64 ((i : Int) + 1) = ((i + 1 : Nat) : Int) := by
      generalize hL : l.length = L at hn hil
      clear hS hL hi ih hb hK
      unfold wrap64
      omega
    rw [marlinelaw23_Few.l0, if_pos (by omega), if_pos (by omega), if_pos (by omega), hw2]
    refine ih (i + 1) K _ (by omega) (by omega) fun h60 => ?_
    obtain ⟨h1, h2⟩ := hS h60
    have hrd : rd_T24 l (i : Int) = l[i] := by rw [rd_T24, Int.toNat_natCast, List.getD_eq_getElem?_getD, List.getElem?_eq_getElem hil]; rfl
    have hx := hb l[i] (List.getElem_mem hil)
    have htk : (l.take (i + 1)).flatMap (·.f3) = (l.take i).flatMap (·.f3) ++ l[i].f3 := by
      rw [List.take_add_one, List.flatMap_append, List.getElem?_eq_getElem hil]
      simp
    rw [hrd, htk, List.length_append]
    generalize l[i].f3.length = q at hx
    generalize ((l.take i).flatMap (·.f3)).length = t at h1
    have hi60 : i < 60 := by omega
    have hw : wrap64 (S + (q : Int)) = S + q := by
      clear ih hb hS hK htk hrd hw2
      unfold wrap64
      omega
    rw [hw]
    exact ⟨by omega, by push_cast; omega⟩
theorem ref_few (l : List S24) (hb : ∀ x ∈ l, x.f3.length ≤ 140737488351232) (hn : l.length ≤ 9223372036854775807) : ∃ b, marlinelaw23_Few.f (l.length + 1) l = some b ∧ (b = true → l.length ≤ 60 ∧ (l.flatMap (·.f3)).length ≤ 1000) := by
  rw [marlinelaw23_Few.f]
  exact few_l0 l hb hn l.length 0 _ 0 (by omega) (by omega) (fun _ => by simp)

end Go.Proofs.YtgopklnfdlnojaaDoor.Sj
