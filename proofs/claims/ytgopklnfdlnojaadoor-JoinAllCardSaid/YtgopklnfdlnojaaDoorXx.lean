/- What a joiner tells of pieces that come, whatever lacks; packets out of pieces; JoinSome (plain Lean). -/
import Derived.Test.YtgopklnfdlnojaaDoorNc
import Derived.Test.YtgopklnfdlnojaaDoorSb
namespace Go.Proofs.YtgopklnfdlnojaaDoor.Xa
open Go.RowKit Go.Proofs.YtgopklnfdlnojaaDoor.Ga Go.Proofs.YtgopklnfdlnojaaDoor.Ja Go.Proofs.YtgopklnfdlnojaaDoor.Jb Go.Proofs.YtgopklnfdlnojaaDoor.Jc Go.Proofs.YtgopklnfdlnojaaDoor.Jd Go.Proofs.YtgopklnfdlnojaaDoor.Je Go.Proofs.YtgopklnfdlnojaaDoor.Jg Go.Proofs.YtgopklnfdlnojaaDoor.Jh Go.Proofs.YtgopklnfdlnojaaDoor.Nc
set_option linter.unusedVariables false
set_option linter.unusedSimpArgs false

/-- What a piece turns: where one is, the packet's data, what is told. -/
def pieceX (nm most mode : Int) (data : List Int) (place : Int) (p : S29) : Int × List Int × List Ev :=
  let bad : List Ev := if (p.f0 && mode == 1) || (!p.f0 && mode == 0) then [⟨2, [], Int.tmod place nm, 0⟩] else []
  let fin := fun (d : List Int) => if most < (d.length : Int) then ((2 : Int), ([] : List Int), bad ++ [(⟨3, [], 0, 0⟩ : Ev)]) else if p.f1 then (0, [], bad ++ [⟨0, d, 0, 0⟩]) else (1, d, bad)
  if p.f0 then fin p.f3 else if mode == 1 then fin (data ++ p.f3) else (2, data, bad)
theorem pieceJ_eq (J : Jn) (place : Int) (p : S29) : pieceJ J place p = { J with mode := (pieceX J.nm J.most J.mode J.data place p).1, data := (pieceX J.nm J.most J.mode J.data place p).2.1, evs := J.evs ++ (pieceX J.nm J.most J.mode J.data place p).2.2 } := by
  cases h0 : p.f0 <;> cases h1 : p.f1 <;> by_cases hm : J.mode = 1 <;> by_cases hz : J.mode = 0 <;> simp [pieceJ, pieceX, badJ, tellJ, doneJ, h0, h1, hm, hz] <;> (repeat' split) <;> simp_all
theorem pieceX_kind (nm most mode : Int) (data : List Int) (place : Int) (p : S29) : ∀ e ∈ (pieceX nm most mode data place p).2.2, e.kind ≠ 1 := by
  intro e he
  unfold pieceX at he
  simp only at he
  (repeat' split at he) <;> simp at he <;> (try (rcases he with he | he)) <;> (try subst he) <;> simp_all

/-- The reader: place by place, what has come is gone through, what hasn't is lost. -/
def loseJ (S : Jn) : Jn := { S with mode := 2, data := [] }
def readJ (B : Nat → Bool) (ps : Nat → S29) (S : Jn) (k : Nat) : Jn := if B k then pieceJ S k (ps k) else loseJ S
def scan (B : Nat → Bool) (ps : Nat → S29) (S : Jn) (a : Nat) : Nat → Jn
  | 0 => S
  | n + 1 => readJ B ps (scan B ps S a n) (a + n)
theorem scan_add (B : Nat → Bool) (ps : Nat → S29) (S : Jn) (a m : Nat) : ∀ n, scan B ps S a (m + n) = scan B ps (scan B ps S a m) (a + m) n
  | 0 => rfl
  | n + 1 => by
    show readJ B ps (scan B ps S a (m + n)) (a + (m + n)) = readJ B ps (scan B ps (scan B ps S a m) (a + m) n) (a + m + n)
    rw [scan_add B ps S a m n, Nat.add_assoc]
theorem scan_const (B : Nat → Bool) (ps : Nat → S29) (S : Jn) (a : Nat) : ∀ n, (scan B ps S a n).nm = S.nm ∧ (scan B ps S a n).most = S.most
  | 0 => ⟨rfl, rfl⟩
  | n + 1 => by
    obtain ⟨h1, h2⟩ := scan_const B ps S a n
    show (readJ B ps _ _).nm = _ ∧ (readJ B ps _ _).most = _
    unfold readJ
    split
    · rw [pieceJ_nm, pieceJ_most]; exact ⟨h1, h2⟩
    · exact ⟨h1, h2⟩
/-- Where nothing comes, all is lost. -/
theorem scan_none (B : Nat → Bool) (ps : Nat → S29) (S : Jn) (a : Nat) : ∀ n, (∀ k, a ≤ k → k < a + n → B k = false) → 0 < n → (scan B ps S a n).mode = 2 ∧ (scan B ps S a n).data = [] ∧ (scan B ps S a n).evs = S.evs
  | 0, _, h => absurd h (Nat.lt_irrefl 0)
  | n + 1, h, _ => by
    have e : scan B ps S a (n + 1) = loseJ (scan B ps S a n) := by
      show readJ B ps _ _ = _
      unfold readJ
      rw [h (a + n) (by omega) (by omega)]
      rfl
    rw [e]
    refine ⟨rfl, rfl, ?_⟩
    show (scan B ps S a n).evs = S.evs
    by_cases hn : n = 0
    · subst hn; rfl
    · exact (scan_none B ps S a n (fun k h1 h2 => h k h1 (by omega)) (by omega)).2.2
theorem scan_evs_none (B : Nat → Bool) (ps : Nat → S29) (S : Jn) (a n : Nat) (h : ∀ k, a ≤ k → k < a + n → B k = false) : (scan B ps S a n).evs = S.evs := by
  by_cases hn : n = 0
  · subst hn; rfl
  · exact (scan_none B ps S a n h (by omega)).2.2

/-- A joiner, and what came to it: B is what comes at all, A what has come; pre was told before. -/
structure Inv (full : Prop) (B A : Nat → Bool) (ps : Nat → S29) (S0 : Jn) (pre : List Ev) (J : Jn) : Prop where
  nm : J.nm = S0.nm
  most : J.most = S0.most
  sub : ∀ k, A k = true → B k = true
  wait : ∀ x : Int × S29, x ∈ J.wait ↔ ∃ k : Nat, A k = true ∧ J.next ≤ (k : Int) ∧ x = ((k : Int), ps k)
  gone : ∀ k : Nat, (k : Int) < J.next → B k = true → A k = true
  mode : J.mode = (scan B ps S0 0 J.next.toNat).mode
  data : J.data = (scan B ps S0 0 J.next.toNat).data
  evs : (pre ++ J.evs).filter (fun e => e.kind != 1) = (scan B ps S0 0 J.next.toNat).evs
  loss : ∀ e ∈ pre ++ J.evs, e.kind = 1 → 1 ≤ e.many ∧ ¬ full

section
variable {full : Prop} {B A : Nat → Bool} {ps : Nat → S29} {S0 : Jn} {pre : List Ev} {J : Jn} {K : Int}
/-- Places are lost, of which none came or comes. -/
theorem inv_lost (h : Inv full B A ps S0 pre J) (ok : OkJ J K) {fin : Int} (h1 : J.next < fin) (hw : ∀ x ∈ J.wait, fin ≤ x.1) (hA : ∀ k : Nat, (k : Int) < fin → B k = true → A k = true) (hf : full → ∀ k : Nat, (k : Int) < fin → B k = true) : Inv full B A ps S0 pre (lostJ J fin) := by
  have h0 := ok.next0
  have hnone : ∀ k, J.next.toNat ≤ k → k < J.next.toNat + (fin.toNat - J.next.toNat) → B k = false := by
    intro k k1 k2
    cases hB : B k with
    | false => rfl
    | true =>
      have ha := hA k (by omega) hB
      have := hw _ ((h.wait ((k : Int), ps k)).2 ⟨k, ha, by omega, rfl⟩)
      simp only at this
      omega
  have hadd : fin.toNat = J.next.toNat + (fin.toNat - J.next.toNat) := by omega
  obtain ⟨s1, s2, s3⟩ := scan_none B ps (scan B ps S0 0 J.next.toNat) J.next.toNat (fin.toNat - J.next.toNat) hnone (by omega)
  have hs : scan B ps S0 0 (lostJ J fin).next.toNat = scan B ps (scan B ps S0 0 J.next.toNat) J.next.toNat (fin.toNat - J.next.toNat) := by
    show scan B ps S0 0 fin.toNat = _
    rw [hadd, scan_add, Nat.zero_add]
    congr 1
    omega
  refine ⟨h.nm, h.most, h.sub, fun x => ?_, fun k hk hB => hA k hk hB, ?_, ?_, ?_, ?_⟩
  · show x ∈ J.wait ↔ ∃ k : Nat, A k = true ∧ fin ≤ (k : Int) ∧ x = ((k : Int), ps k)
    constructor
    · intro hx
      obtain ⟨k, k1, k2, k3⟩ := (h.wait x).1 hx
      have := hw x hx
      rw [k3] at this
      exact ⟨k, k1, this, k3⟩
    · rintro ⟨k, k1, k2, k3⟩
      exact (h.wait x).2 ⟨k, k1, by omega, k3⟩
  · rw [hs, s1]; rfl
  · rw [hs, s2]; rfl
  · rw [hs, s3, ← h.evs]
    simp [lostJ, tellJ, List.filter_append, ← List.append_assoc]
  · intro e he hk
    have he' : e ∈ pre ++ J.evs ∨ e = ⟨1, [], Int.tmod J.next J.nm, fin - J.next⟩ := by
      simp [lostJ, tellJ] at he ⊢
      rcases he with h | h | h
      · exact .inl (.inl h)
      · exact .inl (.inr h)
      · exact .inr h
    rcases he' with he' | he'
    · exact h.loss e he' hk
    · subst he'
      refine ⟨by simp; omega, fun hfu => ?_⟩
      have hB := hf hfu J.next.toNat (by omega)
      have := hnone J.next.toNat (Nat.le_refl _) (by omega)
      rw [hB] at this
      cases this

/-- The piece that is next is gone through. -/
theorem inv_pop (h : Inv full B A ps S0 pre J) (ok : OkJ J K) {p : Int × S29} {q : List (Int × S29)} (hw : J.wait = p :: q) (hp : p.1 = J.next) : Inv full B A ps S0 pre (popJ J p.2 q) := by
  have h0 := ok.next0
  obtain ⟨k, k1, k2, k3⟩ := (h.wait p).1 (by rw [hw]; simp)
  have hk : (k : Int) = J.next := by rw [← hp, k3]
  have hpk : p.2 = ps k := by rw [k3]
  have hkn : J.next.toNat = k := by omega
  have hsort := ok.sort
  rw [hw] at hsort
  obtain ⟨hs1, hs2⟩ := List.pairwise_cons.1 hsort
  have hnx : (popJ J p.2 q).next = J.next + 1 := rfl
  have hsc : scan B ps S0 0 (popJ J p.2 q).next.toNat = pieceJ (scan B ps S0 0 k) k (ps k) := by
    rw [hnx, show (J.next + 1).toNat = k + 1 by omega]
    show readJ B ps (scan B ps S0 0 k) (0 + k) = _
    unfold readJ
    rw [Nat.zero_add, h.sub k k1]
    rfl
  obtain ⟨c1, c2⟩ := scan_const B ps S0 0 k
  have hmode := h.mode
  have hdata := h.data
  have hevs := h.evs
  rw [hkn] at hmode hdata hevs
  have hX : pieceX (scan B ps S0 0 k).nm (scan B ps S0 0 k).most (scan B ps S0 0 k).mode (scan B ps S0 0 k).data k (ps k) = pieceX J.nm J.most J.mode J.data J.next p.2 := by
    rw [c1, c2, ← hmode, ← hdata, ← h.nm, ← h.most, hk, hpk]
  have hpop : popJ J p.2 q = { J with wait := q, mode := (pieceX J.nm J.most J.mode J.data J.next p.2).1, data := (pieceX J.nm J.most J.mode J.data J.next p.2).2.1, evs := J.evs ++ (pieceX J.nm J.most J.mode J.data J.next p.2).2.2, next := J.next + 1 } := by
    unfold popJ
    rw [pieceJ_eq]
  have hmem : ∀ x : Int × S29, x ∈ q ↔ ∃ j : Nat, A j = true ∧ J.next + 1 ≤ (j : Int) ∧ x = ((j : Int), ps j) := by
    intro x
    constructor
    · intro hx
      obtain ⟨j, j1, j2, j3⟩ := (h.wait x).1 (by rw [hw]; simp [hx])
      have := hs1 x hx
      rw [j3, k3] at this
      simp only at this
      exact ⟨j, j1, by omega, j3⟩
    · rintro ⟨j, j1, j2, j3⟩
      have hx := (h.wait x).2 ⟨j, j1, by omega, j3⟩
      rw [hw] at hx
      rcases List.mem_cons.1 hx with e | e
      · rw [e, k3] at j3
        have := congrArg Prod.fst j3
        simp only at this
        omega
      · exact e
  rw [hpop] at hsc ⊢
  refine ⟨h.nm, h.most, h.sub, hmem, fun j hj hB => ?_, ?_, ?_, ?_, ?_⟩
  · simp only at hj
    by_cases e : (j : Int) < J.next
    · exact h.gone j e hB
    · have : j = k := by omega
      subst this
      exact k1
  · rw [hsc, pieceJ_eq, hX]
  · rw [hsc, pieceJ_eq, hX]
  · rw [hsc, pieceJ_eq, hX, ← hevs, ← List.append_assoc, List.filter_append]
    congr 1
    refine List.filter_eq_self.2 fun e he => ?_
    have := pieceX_kind _ _ _ _ _ _ e he
    simpa using this
  · intro e he hk1
    simp only [← List.append_assoc, List.mem_append] at he
    rcases he with he | he
    · exact h.loss e (by simpa using he) hk1
    · exact absurd hk1 (pieceX_kind _ _ _ _ _ _ e he)

theorem inv_step (h : Inv full B A ps S0 pre J) (ok : OkJ J K) (hA : ∀ k : Nat, (k : Int) ≤ low J → B k = true → A k = true) (hf : full → ∀ k : Nat, (k : Int) ≤ low J → B k = true) {J' : Jn} (hst : stepJ J = some J') : Inv full B A ps S0 pre J' := by
  unfold stepJ at hst
  cases hw : J.wait with
  | nil =>
    rw [hw] at hst
    simp only at hst
    split at hst
    · cases hst
    · rename_i hlt
      cases hst
      exact inv_lost h ok (by omega) (by rw [hw]; simp) (fun k hk => hA k (by omega)) (fun hfu k hk => hf hfu k (by omega))
  | cons p q =>
    rw [hw] at hst
    simp only at hst
    split at hst
    · rename_i he
      cases hst
      exact inv_pop h ok hw he
    · split at hst
      · cases hst
      · rename_i hlt
        cases hst
        have hsort := ok.sort
        rw [hw] at hsort
        refine inv_lost h ok (by omega) (fun x hx => ?_) (fun k hk => hA k (by omega)) (fun hfu k hk => hf hfu k (by omega))
        rw [hw] at hx
        rcases List.mem_cons.1 hx with e | e
        · rw [e]; omega
        · have := (List.pairwise_cons.1 hsort).1 x e
          omega
theorem inv_run (h : Inv full B A ps S0 pre J) (ok : OkJ J K) (hA : ∀ k : Nat, (k : Int) ≤ low J → B k = true → A k = true) (hf : full → ∀ k : Nat, (k : Int) ≤ low J → B k = true) : Inv full B A ps S0 pre (runJ J) := by
  have := run_rel (K := K) (R := fun J' => Inv full B A ps S0 pre J' ∧ J'.last = J.last) (fun J1 J2 ok1 hs hr => by
    obtain ⟨q1, q2, q3, q4, q5, q6, q7, q8⟩ := step_ok ok1 hs
    have hl : low J1 = low J := by unfold low; rw [hr.2]
    exact ⟨inv_step hr.1 ok1 (by rw [hl]; exact hA) (by rw [hl]; exact hf) hs, q7.trans hr.2⟩) (phi J) J (Nat.le_refl _) ok ⟨h, rfl⟩
  exact this.1.1
end

end Go.Proofs.YtgopklnfdlnojaaDoor.Xa

/-! A joiner that is fed pieces at their places, and flushed; what packets come of it (plain Lean). -/
namespace Go.Proofs.YtgopklnfdlnojaaDoor.Xb
open Go.RowKit Go.Proofs.YtgopklnfdlnojaaDoor.Ga Go.Proofs.YtgopklnfdlnojaaDoor.Gb Go.Proofs.YtgopklnfdlnojaaDoor.Ja Go.Proofs.YtgopklnfdlnojaaDoor.Jb Go.Proofs.YtgopklnfdlnojaaDoor.Jc Go.Proofs.YtgopklnfdlnojaaDoor.Jd Go.Proofs.YtgopklnfdlnojaaDoor.Je Go.Proofs.YtgopklnfdlnojaaDoor.Jg Go.Proofs.YtgopklnfdlnojaaDoor.Jh Go.Proofs.YtgopklnfdlnojaaDoor.Nc Go.Proofs.YtgopklnfdlnojaaDoor.Xa
set_option linter.unusedVariables false
set_option linter.unusedSimpArgs false

section
variable {full : Prop} {B A : Nat → Bool} {ps : Nat → S29} {S0 : Jn} {pre : List Ev} {J : Jn} {K : Int}
theorem inv_rest (h : Inv full B A ps S0 pre J) : Inv full B A ps S0 (pre ++ J.evs) (rest J) :=
  ⟨h.nm, h.most, h.sub, h.wait, h.gone, h.mode, h.data, by show (pre ++ J.evs ++ []).filter _ = _; rw [List.append_nil]; exact h.evs, by intro e he; rw [show (rest J).evs = [] from rfl, List.append_nil] at he; exact h.loss e he⟩

theorem place_at {L k : Nat} (hnm : 0 < J.nm) (h1 : J.last.getD L 0 < k) (h2 : (k : Int) - J.last.getD L 0 ≤ J.nm) : placeJ J L ((k : Int) % J.nm) = k := by
  unfold placeJ
  rw [Int.toNat_natCast, place_eq _ _ _ hnm]
  have e : ((k : Int) % J.nm - (J.last.getD L 0 + 1)) % J.nm = (k : Int) - (J.last.getD L 0 + 1) := by
    rw [Int.sub_emod, Int.emod_emod_of_dvd _ (Int.dvd_refl _), ← Int.sub_emod]
    exact Int.emod_eq_of_lt (by omega) (by omega)
  rw [e]
  omega

theorem inv_feed (h : Inv full B A ps S0 pre J) (st : Still J K) {L k : Nat} (hL : L < J.last.length) (hB : B k = true) (hnA : A k = false) (hnum : (ps k).f2 = (k : Int) % J.nm) (hlast : J.last.getD L 0 < k) (hnear : (k : Int) - J.last.getD L 0 ≤ J.nm) (hp : (ps k).f3.length ≤ 1000)
    (hA' : ∀ j : Nat, (j : Int) ≤ Lib.minOf (J.last.set L k) → B j = true → (A j || j == k) = true) (hf' : full → ∀ j : Nat, (j : Int) ≤ Lib.minOf (J.last.set L k) → B j = true) (hroom : (J.wait.length : Int) + 1 ≤ J.room) :
    (feedJ J L (ps k)).2 = 0 ∧ Inv full B (fun j => A j || j == k) ps S0 (pre ++ (feedJ J L (ps k)).1.evs) (rest (feedJ J L (ps k)).1) ∧ (feedJ J L (ps k)).1.last = J.last.set L k := by
  have hnm := st.ok.nm0
  have hpl : placeJ J L (ps k).f2 = k := by rw [hnum]; exact place_at hnm hlast hnear
  have hnext : J.next ≤ (k : Int) := by
    apply Classical.byContradiction
    intro hc
    have := h.gone k (by omega) hB
    rw [hnA] at this
    cases this
  have hhas : hasJ J (k : Int) = false := by
    unfold hasJ
    rw [List.any_eq_false]
    intro x hx
    obtain ⟨j, j1, j2, j3⟩ := (h.wait x).1 hx
    intro e
    have e' : x.1 = (k : Int) := by simpa using e
    rw [j3] at e'
    simp only at e'
    have : j = k := by omega
    rw [this, hnA] at j1
    cases j1
  have hlaid : laidJ J L (ps k) = { J with last := J.last.set L k, wait := insK ((k : Int), ps k) J.wait } := by
    unfold laidJ
    rw [hpl]
    simp [hhas, hnext]
  obtain ⟨okL, lenL, evL⟩ := laid_ok (p := ps k) st.ok (Int.natCast_nonneg L) (by omega) hp
  have hI : Inv full B (fun j => A j || j == k) ps S0 pre (laidJ J L (ps k)) := by
    rw [hlaid]
    refine ⟨h.nm, h.most, fun j hj => ?_, fun x => ?_, fun j hj hBj => ?_, h.mode, h.data, h.evs, h.loss⟩
    · simp only [Bool.or_eq_true, beq_iff_eq] at hj
      rcases hj with hj | hj
      · exact h.sub j hj
      · rw [hj]; exact hB
    · show x ∈ insK _ _ ↔ _
      rw [insK_mem]
      constructor
      · rintro (e | e)
        · exact ⟨k, by simp, hnext, e⟩
        · obtain ⟨j, j1, j2, j3⟩ := (h.wait x).1 e
          exact ⟨j, by simp [j1], j2, j3⟩
      · rintro ⟨j, j1, j2, j3⟩
        simp only [Bool.or_eq_true, beq_iff_eq] at j1
        rcases j1 with j1 | j1
        · exact .inr ((h.wait x).2 ⟨j, j1, j2, j3⟩)
        · subst j1; exact .inl j3
    · simp [h.gone j hj hBj]
  have hlow : low (laidJ J L (ps k)) = Lib.minOf (J.last.set L k) := by rw [hlaid]; rfl
  have hR := inv_run hI okL (by rw [hlow]; exact hA') (by rw [hlow]; exact hf')
  obtain ⟨r1, r2, r3, r4, r5, r6, r7, r8⟩ := run_ok okL
  have hthin : thinJ J.room.toNat (runJ (laidJ J L (ps k))) = runJ (laidJ J L (ps k)) := thin_stop (by omega)
  have hnr : ¬ ((ps k).f2 < 0 ∨ J.nm ≤ (ps k).f2) := by
    rw [hnum]
    have := Int.emod_nonneg (k : Int) (show J.nm ≠ 0 by omega)
    have := Int.emod_lt_of_pos (k : Int) hnm
    omega
  have hfd : feedJ J L (ps k) = (runJ (laidJ J L (ps k)), 0) := by
    unfold feedJ
    rw [if_neg (by omega), if_neg hnr, hthin]
  rw [hfd]
  refine ⟨rfl, inv_rest hR, ?_⟩
  show (runJ (laidJ J L (ps k))).last = _
  rw [r7, hlaid]

theorem inv_thin (hI : Inv False B B ps S0 pre J) (ok : OkJ J K) (hst : stepJ J = none) : ∀ n, J.wait.length ≤ n → Inv False B B ps S0 pre (thinN n 0 J) ∧ (thinN n 0 J).wait = [] := by
  intro n
  induction n generalizing J with
  | zero =>
    intro hn
    exact ⟨hI, List.length_eq_zero_iff.1 (Nat.le_zero.1 hn)⟩
  | succ n ih =>
    intro hn
    unfold thinN
    cases hw : J.wait with
    | nil => simp; exact ⟨hI, hw⟩
    | cons p q =>
      rw [if_pos (by simp)]
      obtain ⟨k1, k2, k3, k4, k5, k6, k7, k8, k9⟩ := skip_ok ok hst
      obtain ⟨s1, s2, s3, s4⟩ := skip_lost ok hst hw
      have hne : p.1 ≠ J.next := by
        intro e
        unfold stepJ at hst
        rw [hw] at hst
        simp only [if_pos e] at hst
        cases hst
      have hpk := ok.waitK p (by rw [hw]; simp)
      have hsort := ok.sort
      rw [hw] at hsort
      have hl := inv_lost hI ok (fin := p.1) (by omega) (fun x hx => by
        rw [hw] at hx
        rcases List.mem_cons.1 hx with e | e
        · rw [e]; exact Int.le_refl _
        · have := (List.pairwise_cons.1 hsort).1 x e; omega) (fun k _ h => h) (fun hf => hf.elim)
      have hr := inv_run hl s1 (fun k _ h => h) (fun hf => hf.elim)
      have e : skipJ J = runJ (lostJ J p.1) := by unfold skipJ; rw [hw]
      rw [← e] at hr
      exact ih hr k1 k2 (by have := k9 (by rw [hw]; simp); omega)
theorem inv_flush (hI : Inv False B B ps S0 pre J) (st : Still J K) : Inv False B B ps S0 (pre ++ (thinJ 0 J).evs) (rest (thinJ 0 J)) ∧ (rest (thinJ 0 J)).wait = [] := by
  obtain ⟨h1, h2⟩ := inv_thin hI st.ok st.step _ (Nat.le_refl _)
  exact ⟨inv_rest h1, h2⟩

theorem evs_end (h : Inv full B B ps S0 pre J) (hw : J.wait = []) (N : Nat) (hB : ∀ k, N ≤ k → B k = false) : (pre ++ J.evs).filter (fun e => e.kind != 1) = (scan B ps S0 0 N).evs := by
  rw [h.evs]
  have hnone : ∀ k : Nat, J.next.toNat ≤ k → B k = false := by
    intro k hk
    cases hb : B k with
    | false => rfl
    | true =>
      by_cases hlt : (k : Int) < J.next
      · omega
      · have := (h.wait ((k : Int), ps k)).2 ⟨k, hb, by omega, rfl⟩
        rw [hw] at this
        simp at this
  by_cases hle : J.next.toNat ≤ N
  · have e : N = J.next.toNat + (N - J.next.toNat) := by omega
    rw [e, scan_add]
    exact (scan_evs_none B ps (scan B ps S0 0 J.next.toNat) (0 + J.next.toNat) (N - J.next.toNat) (fun k k1 k2 => hnone k (by omega))).symm
  · have e : J.next.toNat = N + (J.next.toNat - N) := by omega
    rw [e, scan_add]
    exact scan_evs_none B ps (scan B ps S0 0 N) (0 + N) (J.next.toNat - N) (fun k k1 k2 => hB k (by omega))
end

/-- A packet's pieces, some of which came. -/
theorem scan_packet (B : Nat → Bool) (ps : Nat → S29) (S : Jn) (a : Nat) (m N : Nat) (xs : List Int) (hN : 1 ≤ N) (hNm : xs.length ≤ N * m)
    (hps : ∀ j, j < N → (ps (a + j)).f0 = ((j : Int) == 0) ∧ (ps (a + j)).f1 = ((j : Int) == (N : Int) - 1) ∧ (ps (a + j)).f3 = (xs.drop (j * m)).take m)
    (hmode : S.mode = 0 ∨ S.mode = 2) (hdata : S.data = []) (hmost : (xs.length : Int) ≤ S.most) :
    ((scan B ps S a N).mode = 0 ∨ (scan B ps S a N).mode = 2) ∧ (scan B ps S a N).data = [] ∧ (scan B ps S a N).evs = S.evs ++ (if (List.range N).all (fun j => B (a + j)) then [⟨0, xs, 0, 0⟩] else []) := by
  have key : ∀ j, 1 ≤ j → j < N → (if (List.range j).all (fun i => B (a + i)) then (scan B ps S a j).mode = 1 ∧ (scan B ps S a j).data = xs.take (j * m) else (scan B ps S a j).mode = 2 ∧ (scan B ps S a j).data = []) ∧ (scan B ps S a j).evs = S.evs := by
    intro j
    induction j with
    | zero => intro h; omega
    | succ j ih =>
      intro _ hj
      obtain ⟨c1, c2⟩ := scan_const B ps S a j
      obtain ⟨q0, q1, q3⟩ := hps j (by omega)
      have hlast : ((j : Int) == (N : Int) - 1) = false := by simp; omega
      have hall : (List.range (j + 1)).all (fun i => B (a + i)) = ((List.range j).all (fun i => B (a + i)) && B (a + j)) := by simp [List.range_succ, List.all_append]
      have hsc : scan B ps S a (j + 1) = readJ B ps (scan B ps S a j) (a + j) := rfl
      rw [hsc, hall]
      unfold readJ
      cases hb : B (a + j) with
      | false =>
        simp only [Bool.and_false, Bool.false_eq_true, if_false]
        refine ⟨⟨rfl, rfl⟩, ?_⟩
        show (scan B ps S a j).evs = S.evs
        by_cases h0 : j = 0
        · subst h0; rfl
        · exact (ih (by omega) (by omega)).2
      | true =>
        simp only [Bool.and_true, if_true]
        rw [pieceJ_eq]
        by_cases h0 : j = 0
        · subst h0
          have e1 : scan B ps S a 0 = S := rfl
          have hle : ¬ S.most < (((xs.drop (0 * m)).take m).length : Int) := by
            have : ((xs.drop (0 * m)).take m).length ≤ xs.length := by simp; omega
            omega
          have hm1 : (S.mode == 1) = false := by rcases hmode with e | e <;> rw [e] <;> rfl
          rw [e1]
          rw [Nat.add_zero] at q0 q1 q3 ⊢
          rw [hlast] at q1
          rw [← q3] at hle
          have q0' : (ps a).f0 = true := q0
          have hd : (ps a).f3 = xs.take (1 * m) := by rw [q3]; simp
          simp only [pieceX, q0', q1, hm1, hle, Bool.true_and, Bool.not_true, Bool.false_and, Bool.or_self, Bool.false_eq_true, if_false, if_true, List.append_nil]
          simp [hd]
        · obtain ⟨i1, i2⟩ := ih (by omega) (by omega)
          have hz : ((j : Int) == 0) = false := by simp; omega
          cases hal : (List.range j).all (fun i => B (a + i)) with
          | true =>
            rw [hal] at i1
            simp only [if_true] at i1 ⊢
            have htk : xs.take (j * m) ++ (xs.drop (j * m)).take m = xs.take ((j + 1) * m) := by rw [Nat.succ_mul, List.take_add]
            have hle : ¬ S.most < ((xs.take ((j + 1) * m)).length : Int) := by
              have : (xs.take ((j + 1) * m)).length ≤ xs.length := by simp; omega
              omega
            rw [hlast] at q1
            rw [hz] at q0
            simp only [pieceX, q0, q1, q3, i1.1, i1.2, c2, htk, if_neg hle]
            simp [i2]
          | false =>
            rw [hal] at i1
            simp only [Bool.false_eq_true, if_false] at i1 ⊢
            simp [pieceX, q0, hz, i1.1, i1.2, i2]
  obtain ⟨j, rfl⟩ : ∃ j, N = j + 1 := ⟨N - 1, by omega⟩
  obtain ⟨c1, c2⟩ := scan_const B ps S a j
  obtain ⟨q0, q1, q3⟩ := hps j (by omega)
  have hlast : ((j : Int) == ((j + 1 : Nat) : Int) - 1) = true := by simp
  rw [hlast] at q1
  have hall : (List.range (j + 1)).all (fun i => B (a + i)) = ((List.range j).all (fun i => B (a + i)) && B (a + j)) := by simp [List.range_succ, List.all_append]
  have hsc : scan B ps S a (j + 1) = readJ B ps (scan B ps S a j) (a + j) := rfl
  rw [hsc, hall]
  unfold readJ
  have hev : (scan B ps S a j).evs = S.evs := by
    by_cases h0 : j = 0
    · subst h0; rfl
    · exact (key j (by omega) (by omega)).2
  cases hb : B (a + j) with
  | false =>
    simp only [Bool.and_false, Bool.false_eq_true, if_false, List.append_nil]
    exact ⟨.inr rfl, rfl, hev⟩
  | true =>
    simp only [Bool.and_true, if_true]
    rw [pieceJ_eq]
    have hfull : xs.take ((j + 1) * m) = xs := List.take_of_length_le hNm
    by_cases h0 : j = 0
    · subst h0
      have e1 : scan B ps S a 0 = S := rfl
      have hd : (xs.drop (0 * m)).take m = xs := by simpa using hfull
      rw [hd] at q3
      have hle : ¬ S.most < (xs.length : Int) := by omega
      have hm1 : (S.mode == 1) = false := by rcases hmode with e | e <;> rw [e] <;> rfl
      rw [e1]
      rw [Nat.add_zero] at q0 q1 q3 ⊢
      have q0' : (ps a).f0 = true := q0
      simp only [pieceX, q0', q1, q3, hm1, if_neg hle, Bool.true_and, Bool.not_true, Bool.false_and, Bool.or_self, Bool.false_eq_true, if_false, if_true, List.nil_append]
      simp
    · obtain ⟨i1, i2⟩ := key j (by omega) (by omega)
      have hz : ((j : Int) == 0) = false := by simp; omega
      cases hal : (List.range j).all (fun i => B (a + i)) with
      | true =>
        rw [hal] at i1
        simp only [if_true] at i1 ⊢
        have htk : xs.take (j * m) ++ (xs.drop (j * m)).take m = xs := by rw [← List.take_add, ← Nat.succ_mul]; exact hfull
        have hle : ¬ S.most < (xs.length : Int) := by omega
        rw [hz] at q0
        simp only [pieceX, q0, q1, q3, i1.1, i1.2, c2, htk, if_neg hle]
        simp [i2]
      | false =>
        rw [hal] at i1
        simp only [Bool.false_eq_true, if_false, List.append_nil] at i1 ⊢
        simp [pieceX, q0, hz, i1.1, i1.2, i2]

end Go.Proofs.YtgopklnfdlnojaaDoor.Xb

/-! Packets, one by one, parted into pieces: all pieces by their places, and what comes of those that came (plain Lean). -/
namespace Go.Proofs.YtgopklnfdlnojaaDoor.Xc
open Go.RowKit Go.Proofs.YtgopklnfdlnojaaDoor.Ga Go.Proofs.YtgopklnfdlnojaaDoor.Gb Go.Proofs.YtgopklnfdlnojaaDoor.Sa Go.Proofs.YtgopklnfdlnojaaDoor.Sb Go.Proofs.YtgopklnfdlnojaaDoor.Ja Go.Proofs.YtgopklnfdlnojaaDoor.Jb Go.Proofs.YtgopklnfdlnojaaDoor.Jc Go.Proofs.YtgopklnfdlnojaaDoor.Jd Go.Proofs.YtgopklnfdlnojaaDoor.Je Go.Proofs.YtgopklnfdlnojaaDoor.Jg Go.Proofs.YtgopklnfdlnojaaDoor.Jh Go.Proofs.YtgopklnfdlnojaaDoor.Nb Go.Proofs.YtgopklnfdlnojaaDoor.Nc Go.Proofs.YtgopklnfdlnojaaDoor.Xa Go.Proofs.YtgopklnfdlnojaaDoor.Xb
set_option linter.unusedVariables false
set_option linter.unusedSimpArgs false

/-- The most octets of a piece of packet i; how many pieces it has; where its first one stands. -/
def mAt (i : Nat) : Nat := 1 + i % 5
def nAt (X : Nat → List Int) (i : Nat) : Nat := nP (mAt i) (X i).length
def off (X : Nat → List Int) : Nat → Nat
  | 0 => 0
  | i + 1 => off X i + nAt X i
def piecesOf (nm : Int) (X : Nat → List Int) (i : Nat) : List S29 := pcs ((off X i : Int) % nm) nm (mAt i) (nAt X i) (X i)
def allI (nm : Int) (X : Nat → List Int) : Nat → List S29
  | 0 => []
  | i + 1 => allI nm X i ++ piecesOf nm X i
/-- The packets all whose pieces come. -/
def whole (B : Nat → Bool) (X : Nat → List Int) (i : Nat) : Bool := (List.range (nAt X i)).all fun j => B (off X i + j)
def wantI (B : Nat → Bool) (X : Nat → List Int) : Nat → List (List Int)
  | 0 => []
  | i + 1 => wantI B X i ++ (if whole B X i then [X i] else [])
def ev0 (x : List Int) : Ev := ⟨0, x, 0, 0⟩

theorem nAt_pos (X : Nat → List Int) (i : Nat) : 1 ≤ nAt X i := by unfold nAt nP; omega
theorem nAt_le (X : Nat → List Int) (i : Nat) : nAt X i ≤ max 1 (X i).length := by
  have := cnt_le (mAt i) (X i).length (by unfold mAt; omega)
  unfold nAt nP
  omega
theorem cnt_ge (m n : Nat) (hm : 1 ≤ m) : n ≤ cnt m n * m := by
  unfold cnt
  have h := Nat.div_add_mod (n + m - 1) m
  have h2 := Nat.mod_lt (n + m - 1) (show 0 < m by omega)
  rw [Nat.mul_comm] at h
  omega
theorem nAt_full (X : Nat → List Int) (i : Nat) : (X i).length ≤ nAt X i * mAt i := by
  have h := cnt_ge (mAt i) (X i).length (by unfold mAt; omega)
  have h2 : cnt (mAt i) (X i).length ≤ nAt X i := by unfold nAt nP; omega
  exact Nat.le_trans h (Nat.mul_le_mul_right _ h2)
theorem off_le (X : Nat → List Int) (h : ∀ i, (X i).length ≤ 60) : ∀ n, off X n ≤ 60 * n
  | 0 => Nat.le_refl _
  | n + 1 => by
    have := off_le X h n
    have h1 := nAt_le X n
    have h2 := h n
    show off X n + nAt X n ≤ _
    omega
theorem off_mono (X : Nat → List Int) (i : Nat) : ∀ n, i ≤ n → off X i ≤ off X n
  | 0, h => by have : i = 0 := by omega
               subst this; exact Nat.le_refl _
  | n + 1, h => by
    by_cases e : i = n + 1
    · subst e; exact Nat.le_refl _
    · exact Nat.le_trans (off_mono X i n (by omega)) (Nat.le_add_right _ _)
theorem allI_len (nm : Int) (X : Nat → List Int) : ∀ n, (allI nm X n).length = off X n
  | 0 => rfl
  | n + 1 => by
    show (allI nm X n ++ piecesOf nm X n).length = off X n + nAt X n
    rw [List.length_append, allI_len nm X n, piecesOf, pcs_len]
theorem allI_pre (nm : Int) (X : Nat → List Int) (i : Nat) : ∀ n, i ≤ n → allI nm X i <+: allI nm X n
  | 0, h => by have : i = 0 := by omega
               subst this; exact List.prefix_refl _
  | n + 1, h => by
    by_cases e : i = n + 1
    · subst e; exact List.prefix_refl _
    · exact (allI_pre nm X i n (by omega)).trans (List.prefix_append _ _)
/-- The piece at a place. -/
def psI (nm : Int) (X : Nat → List Int) (n : Nat) (k : Nat) : S29 := (allI nm X n).getD k z29
theorem psI_at (nm : Int) (X : Nat → List Int) (n i j : Nat) (hi : i < n) (hj : j < nAt X i) : psI nm X n (off X i + j) = ⟨((j : Int) == 0), ((j : Int) == (nAt X i : Int) - 1), (((off X i : Int) % nm) + j) % nm, ((X i).drop (j * mAt i)).take (mAt i)⟩ := by
  obtain ⟨t, ht⟩ := allI_pre nm X (i + 1) n (by omega)
  have hp : (allI nm X (i + 1))[off X i + j]? = some ⟨((j : Int) == 0), ((j : Int) == (nAt X i : Int) - 1), (((off X i : Int) % nm) + j) % nm, ((X i).drop (j * mAt i)).take (mAt i)⟩ := by
    show (allI nm X i ++ piecesOf nm X i)[off X i + j]? = _
    rw [List.getElem?_append_right (by rw [allI_len]; omega), allI_len, Nat.add_sub_cancel_left]
    simp [piecesOf, pcs, hj]
  unfold psI
  rw [List.getD_eq_getElem?_getD, ← ht, List.getElem?_append_left (by rw [allI_len]; show off X i + j < off X i + nAt X i; omega), hp]
  rfl
theorem mod_add (a nm : Int) (j : Nat) : (a % nm + j) % nm = (a + j) % nm := by
  rw [Int.add_emod, Int.emod_emod_of_dvd _ (Int.dvd_refl _), ← Int.add_emod]
theorem psI_num (nm : Int) (X : Nat → List Int) (n i j : Nat) (hi : i < n) (hj : j < nAt X i) : (psI nm X n (off X i + j)).f2 = ((off X i + j : Nat) : Int) % nm := by
  rw [psI_at nm X n i j hi hj]
  show (((off X i : Int) % nm) + j) % nm = _
  rw [mod_add, Int.natCast_add]
theorem psI_short (nm : Int) (X : Nat → List Int) (n i j : Nat) (hi : i < n) (hj : j < nAt X i) : (psI nm X n (off X i + j)).f3.length ≤ 5 := by
  rw [psI_at nm X n i j hi hj]
  simp only [List.length_take]
  have : mAt i ≤ 5 := by unfold mAt; omega
  omega

/-- What the reader tells of all. -/
theorem scan_all (nm : Int) (X : Nat → List Int) (B : Nat → Bool) (S : Jn) (n : Nat) (hmode : S.mode = 0) (hdata : S.data = []) (hmost : ∀ i, i < n → ((X i).length : Int) ≤ S.most) :
    ∀ i, i ≤ n → ((scan B (psI nm X n) S 0 (off X i)).mode = 0 ∨ (scan B (psI nm X n) S 0 (off X i)).mode = 2) ∧ (scan B (psI nm X n) S 0 (off X i)).data = [] ∧ (scan B (psI nm X n) S 0 (off X i)).evs = S.evs ++ (wantI B X i).map ev0
  | 0, _ => ⟨.inl hmode, hdata, by show S.evs = _; simp [wantI]⟩
  | i + 1, hi => by
    obtain ⟨h1, h2, h3⟩ := scan_all nm X B S n hmode hdata hmost i (by omega)
    have hc := (scan_const B (psI nm X n) S 0 (off X i)).2
    have hs := scan_packet B (psI nm X n) (scan B (psI nm X n) S 0 (off X i)) (off X i) (mAt i) (nAt X i) (X i) (nAt_pos X i) (nAt_full X i)
      (fun j hj => by rw [psI_at nm X n i j (by omega) hj]; exact ⟨rfl, rfl, rfl⟩) h1 h2 (by rw [hc]; exact hmost i (by omega))
    have e : scan B (psI nm X n) S 0 (off X (i + 1)) = scan B (psI nm X n) (scan B (psI nm X n) S 0 (off X i)) (off X i) (nAt X i) := by
      show scan B (psI nm X n) S 0 (off X i + nAt X i) = _
      rw [scan_add, Nat.zero_add]
    rw [e]
    obtain ⟨q1, q2, q3⟩ := hs
    refine ⟨q1, q2, ?_⟩
    rw [q3, h3, wantI, List.map_append, List.append_assoc]
    congr 2
    show (if whole B X i = true then [ev0 (X i)] else []) = _
    split <;> rfl

/-- A new joiner has got nothing. -/
theorem inv_new (full : Prop) (B : Nat → Bool) (ps : Nat → S29) (short : Bool) (links room most : Int) : Inv full B (fun _ => false) ps (newJ short links room most) [] (newJ short links room most) :=
  ⟨rfl, rfl, fun k h => Bool.noConfusion h, fun x => ⟨fun h => by simp [newJ] at h, fun ⟨k, h, _⟩ => Bool.noConfusion h⟩, fun k h => by simp [newJ] at h; omega, rfl, rfl, rfl, fun e h => by simp [newJ] at h⟩

end Go.Proofs.YtgopklnfdlnojaaDoor.Xc

/-! JoinSome in plain Lean: what a joiner has told, piece by piece, some of which lack. -/
namespace Go.Proofs.YtgopklnfdlnojaaDoor.Ya
open Go.RowKit Go.Proofs.YtgopklnfdlnojaaDoor.Ga Go.Proofs.YtgopklnfdlnojaaDoor.Gb Go.Proofs.YtgopklnfdlnojaaDoor.Sa Go.Proofs.YtgopklnfdlnojaaDoor.Sb Go.Proofs.YtgopklnfdlnojaaDoor.Ja Go.Proofs.YtgopklnfdlnojaaDoor.Jb Go.Proofs.YtgopklnfdlnojaaDoor.Jc Go.Proofs.YtgopklnfdlnojaaDoor.Jd Go.Proofs.YtgopklnfdlnojaaDoor.Je Go.Proofs.YtgopklnfdlnojaaDoor.Jg Go.Proofs.YtgopklnfdlnojaaDoor.Jh Go.Proofs.YtgopklnfdlnojaaDoor.Nb Go.Proofs.YtgopklnfdlnojaaDoor.Nc Go.Proofs.YtgopklnfdlnojaaDoor.Xa Go.Proofs.YtgopklnfdlnojaaDoor.Xb Go.Proofs.YtgopklnfdlnojaaDoor.Xc
set_option linter.unusedVariables false
set_option linter.unusedSimpArgs false

theorem minOf_le {l : List Int} {x : Int} (hx : x ∈ l) : Lib.minOf l ≤ x := by
  unfold Lib.minOf
  exact (foldl_min_le _ _).2.1 x hx
theorem set_mem {l : List Int} {L : Nat} {x : Int} (h : L < l.length) : x ∈ l.set L x := by
  have h2 : L < (l.set L x).length := by simpa using h
  have := List.getElem_mem h2
  rwa [List.getElem_set_self] at this
theorem get_mem {l : List Int} {L : Nat} (h : L < l.length) : l.getD L 0 ∈ l := by
  rw [List.getD_eq_getElem?_getD, List.getElem?_eq_getElem h]
  exact List.getElem_mem h
theorem still_mono {J : Jn} {K K' : Int} (h : Still J K) (hK : K ≤ K') : Still J K' := ⟨ok_mono h.ok hK, h.step, h.evs, h.room⟩

/-- Which pieces come; which have come. -/
def BS (X : Nat → List Int) (n : Nat) (lf : Nat → Bool) (k : Nat) : Bool := decide (k < off X n) && !lf (k + 1)
def AS (X : Nat → List Int) (n : Nat) (lf : Nat → Bool) (t k : Nat) : Bool := BS X n lf k && decide (k < t)

structure St (nm : Int) (X : Nat → List Int) (n : Nat) (lf : Nat → Bool) (S0 : Jn) (links t : Nat) (pre : List Ev) (J : Jn) : Prop where
  inv : Inv False (BS X n lf) (AS X n lf t) (psI nm X n) S0 pre J
  still : Still J ((t : Int) * 16777216)
  last : ∀ x ∈ J.last, x < (t : Int)
  nm : J.nm = nm
  room : J.room = 4096
  wait : J.wait.length ≤ t
  links : J.last.length = links
  evs : pre.length ≤ 20000 * t

section
variable {nm : Int} {X : Nat → List Int} {n : Nat} {lf : Nat → Bool} {S0 : Jn} {links t : Nat} {pre : List Ev} {J : Jn}
theorem st_new (short : Bool) (links : Nat) (h1 : 1 ≤ links) (h2 : links ≤ 16) : St (numbers short) X n lf (newJ short links 4096 100) links 0 [] (newJ short links 4096 100) := by
  have hm : mayJ (links : Int) 4096 100 := by unfold mayJ; omega
  obtain ⟨o1, o2⟩ := newJ_ok (short := short) hm
  have hA : AS X n lf 0 = fun _ => false := by funext k; simp [AS]
  refine ⟨by rw [hA]; exact inv_new _ _ _ _ _ _ _, ⟨by simpa using o1, o2, rfl, by simp [newJ]⟩, fun x hx => ?_, rfl, rfl, Nat.le_refl _, by simp [newJ], Nat.le_refl _⟩
  simp [newJ] at hx
  omega

theorem st_skip (h : St nm X n lf S0 links t pre J) (hl : lf (t + 1) = true) : St nm X n lf S0 links (t + 1) pre J := by
  have hA : AS X n lf (t + 1) = AS X n lf t := by
    funext k
    unfold AS
    by_cases hk : k = t
    · subst hk; simp [BS, hl]
    · have : decide (k < t + 1) = decide (k < t) := by
        rw [decide_eq_decide]; omega
      rw [this]
  refine ⟨by rw [hA]; exact h.inv, still_mono h.still (by omega), fun x hx => by have := h.last x hx; omega, h.nm, h.room, by have := h.wait; omega, h.links, by have := h.evs; omega⟩

theorem st_feed (h : St nm X n lf S0 links t pre J) (hl : lf (t + 1) = false) (hoff : off X n ≤ 2000) (hnm : nm = 4096 ∨ nm = 16777216) {i j : Nat} (hi : i < n) (hj : j < nAt X i) (ht : t = off X i + j) {L : Nat} (hL : L < links) :
    (feedJ J L (psI nm X n t)).2 = 0 ∧ St nm X n lf S0 links (t + 1) (pre ++ (feedJ J L (psI nm X n t)).1.evs) (rest (feedJ J L (psI nm X n t)).1) := by
  have hlt : t < off X n := by
    have := off_mono X (i + 1) n (by omega)
    have e : off X (i + 1) = off X i + nAt X i := rfl
    omega
  have hBt : BS X n lf t = true := by simp [BS, hl, hlt]
  have hAt : AS X n lf t t = false := by simp [AS]
  have hLl : L < J.last.length := by rw [h.links]; exact hL
  have hgm := get_mem hLl
  have hlb := (h.still.ok.lastK _ hgm).1
  have hlu := h.last _ hgm
  have hp5 : (psI nm X n t).f3.length ≤ 1000 := by rw [ht]; have := psI_short nm X n i j hi hj; omega
  have hA1 : AS X n lf (t + 1) = fun k => AS X n lf t k || k == t := by
    funext k
    unfold AS
    by_cases hk : k = t
    · subst hk; simp [hBt]
    · have e1 : decide (k < t + 1) = decide (k < t) := by rw [decide_eq_decide]; omega
      have e2 : (k == t) = false := by simpa using hk
      rw [e1, e2, Bool.or_false]
  have hmin : ∀ k : Nat, (k : Int) ≤ Lib.minOf (J.last.set L t) → k ≤ t := by
    intro k hk
    have := minOf_le (set_mem (x := (t : Int)) hLl)
    omega
  obtain ⟨q1, q2, q3⟩ := inv_feed h.inv h.still hLl hBt hAt (by rw [h.nm, ht]; exact psI_num nm X n i j hi hj) hlu (by rw [h.nm]; omega) hp5
    (fun k hk hB => by
      have := hmin k hk
      by_cases e : k = t
      · simp [e]
      · simp [AS, hB]; omega) (fun hf => hf.elim) (by have := h.wait; rw [h.room]; omega)
  obtain ⟨f1, f2, f3, f4, f5, f6, f7, f8, f9⟩ := feed_still (link := (L : Int)) (p := psI nm X n t) h.still hp5
  refine ⟨q1, ⟨by rw [hA1]; exact q2, still_mono f1 (by rw [h.nm]; omega), fun x hx => ?_, f2.trans h.nm, f3.trans h.room, ?_, f5.trans h.links, ?_⟩⟩
  · have hx' : x ∈ J.last.set L t := by rw [← q3]; exact hx
    rcases List.mem_or_eq_of_mem_set hx' with e | e
    · have := h.last x e; omega
    · rw [e]; omega
  · show (feedJ J L (psI nm X n t)).1.wait.length ≤ t + 1
    have := h.wait
    omega
  · rw [List.length_append]
    have h1 := h.evs
    have h2 : phi (laidJ J L (psI nm X n t)) ≤ 3 * (t + 1) + 2 := by
      obtain ⟨-, hw, -⟩ := laid_ok (p := psI nm X n t) (link := (L : Int)) h.still.ok (by omega) (by omega) hp5
      have := h.wait
      unfold phi
      split <;> split <;> (try split) <;> omega
    omega

theorem st_end (h : St nm X n lf S0 links (off X n) pre J) (hS : S0.mode = 0 ∧ S0.data = [] ∧ S0.evs = [] ∧ S0.most = 100) (hX : ∀ i, (X i).length ≤ 60) :
    (∀ e ∈ pre ++ (thinJ 0 J).evs, e.kind = 1 → 1 ≤ e.many) ∧ (pre ++ (thinJ 0 J).evs).filter (fun e => e.kind != 1) = (wantI (BS X n lf) X n).map ev0 := by
  have hA : AS X n lf (off X n) = BS X n lf := by
    funext k
    unfold AS BS
    by_cases hk : k < off X n <;> simp [hk]
  have hI := h.inv
  rw [hA] at hI
  obtain ⟨f1, f2⟩ := inv_flush hI h.still
  have he : (rest (thinJ 0 J)).evs = [] := rfl
  have hend := evs_end f1 f2 (off X n) (fun k hk => by simp [BS]; omega)
  rw [he, List.append_nil] at hend
  have hsc := (scan_all nm X (BS X n lf) S0 n hS.1 hS.2.1 (fun i _ => by rw [hS.2.2.2]; have := hX i; omega) n (Nat.le_refl _)).2.2
  refine ⟨fun e hm hk => ((f1.loss e (by rw [he, List.append_nil]; exact hm)) hk).1, ?_⟩
  rw [hend, hsc, hS.2.2.1]
  rfl
end

/-! How the law goes through what was told. -/
def cnt0 (T : List Ev) (s : Nat) : Nat := ((T.take s).filter (fun e => e.kind == 0)).length
section
variable {T : List Ev} {Ws : List (List Int)}
theorem zero_of (h2 : T.filter (fun e => e.kind != 1) = Ws.map ev0) : T.filter (fun e => e.kind == 0) = Ws.map ev0 := by
  have e1 : (T.filter (fun e => e.kind != 1)).filter (fun e => e.kind == 0) = T.filter (fun e => e.kind == 0) := by
    rw [List.filter_filter]
    refine List.filter_congr fun e _ => ?_
    by_cases h : e.kind = 0 <;> simp [h]
  rw [← e1, h2, List.filter_eq_self]
  intro e he
  obtain ⟨x, -, rfl⟩ := List.mem_map.1 he
  rfl
theorem chk_end (h2 : T.filter (fun e => e.kind != 1) = Ws.map ev0) : cnt0 T T.length = Ws.length := by
  unfold cnt0
  rw [List.take_length, zero_of h2, List.length_map]
theorem chk (h1 : ∀ e ∈ T, e.kind = 1 → 1 ≤ e.many) (h2 : T.filter (fun e => e.kind != 1) = Ws.map ev0) {s : Nat} {e : Ev} (hs : T[s]? = some e) :
    (e.kind = 1 → 1 ≤ e.many) ∧ e.kind ≠ 3 ∧ (e.kind = 0 → Ws[cnt0 T s]? = some e.data ∧ cnt0 T (s + 1) = cnt0 T s + 1) ∧ (e.kind ≠ 0 → cnt0 T (s + 1) = cnt0 T s) := by
  have hm : e ∈ T := List.mem_of_getElem? hs
  have htk : T.take (s + 1) = T.take s ++ [e] := by
    rw [List.take_add_one, hs]
    rfl
  refine ⟨h1 e hm, fun h3 => ?_, fun h0 => ?_, fun h0 => ?_⟩
  · have : e ∈ T.filter (fun e => e.kind != 1) := List.mem_filter.2 ⟨hm, by simp [h3]⟩
    rw [h2] at this
    obtain ⟨x, -, rfl⟩ := List.mem_map.1 this
    simp [ev0] at h3
  · have hf : (T.take (s + 1)).filter (fun e => e.kind == 0) = (T.take s).filter (fun e => e.kind == 0) ++ [e] := by rw [htk, List.filter_append]; simp [h0]
    refine ⟨?_, by unfold cnt0; rw [hf, List.length_append]; rfl⟩
    have hall := zero_of h2
    have hsplit : T = T.take (s + 1) ++ T.drop (s + 1) := (List.take_append_drop _ _).symm
    rw [hsplit, List.filter_append, hf] at hall
    have hget : (Ws.map ev0)[cnt0 T s]? = some e := by
      rw [← hall, List.append_assoc]
      unfold cnt0
      rw [List.getElem?_append_right (Nat.le_refl _), Nat.sub_self]
      rfl
    rw [List.getElem?_map] at hget
    cases hw : Ws[cnt0 T s]? with
    | none => rw [hw] at hget; simp at hget
    | some w =>
      rw [hw] at hget
      simp at hget
      rw [← hget]
      rfl
  · unfold cnt0
    rw [htk, List.filter_append]
    simp [h0]
end

end Go.Proofs.YtgopklnfdlnojaaDoor.Ya
