/- A joiner's run, in plain Lean: its steps, when it stands, how many events it tells at most. -/
import Derived.Test.YtgopklnfdlnojaaDoorJd
namespace Go.Proofs.YtgopklnfdlnojaaDoor.Je
open Go.RowKit Go.Proofs.YtgopklnfdlnojaaDoor.Ga Go.Proofs.YtgopklnfdlnojaaDoor.Ja Go.Proofs.YtgopklnfdlnojaaDoor.Jb Go.Proofs.YtgopklnfdlnojaaDoor.Jc Go.Proofs.YtgopklnfdlnojaaDoor.Jd
set_option linter.unusedVariables false
set_option linter.unusedSimpArgs false

def low (J : Jn) : Int := Lib.minOf J.last
def lostJ (J : Jn) (fin : Int) : Jn := { tellJ J 1 J.next (fin - J.next) with next := fin, mode := 2, data := [] }
def popJ (J : Jn) (p : S29) (q : List (Int × S29)) : Jn := { pieceJ { J with wait := q } J.next p with next := J.next + 1 }
/-- Where the places that lack end. -/
def finJ (J : Jn) : Int := match J.wait with | [] => low J + 1 | p :: _ => min (low J + 1) p.1
def stepJ (J : Jn) : Option Jn :=
  match J.wait with
  | [] => if low J + 1 ≤ J.next then none else some (lostJ J (low J + 1))
  | p :: q => if p.1 = J.next then some (popJ J p.2 q) else if min (low J + 1) p.1 ≤ J.next then none else some (lostJ J (min (low J + 1) p.1))
def runN : Nat → Jn → Jn
  | 0, J => J
  | n + 1, J => match stepJ J with | none => J | some J' => runN n J'
/-- How many steps there are at most. -/
def phi (J : Jn) : Nat := 3 * J.wait.length + (match J.wait with | [] => 0 | p :: _ => if p.1 = J.next then 0 else 1) + (if low J + 1 ≤ J.next then 0 else 1)
def runJ (J : Jn) : Jn := runN (phi J) J

structure OkJ (J : Jn) (K : Int) : Prop where
  nm0 : 0 < J.nm
  last0 : J.last ≠ []
  lastK : ∀ x ∈ J.last, -1 ≤ x ∧ x ≤ K
  next0 : 0 ≤ J.next
  nextK : J.next ≤ K + 1
  waitK : ∀ p ∈ J.wait, J.next ≤ p.1 ∧ p.1 ≤ K ∧ p.2.f3.length ≤ 1000
  sort : J.wait.Pairwise (fun p q => p.1 < q.1)
  data : (J.data.length : Int) ≤ J.most
  most : 0 ≤ J.most ∧ J.most ≤ 1048576

theorem low_mem {J : Jn} (h : J.last ≠ []) : low J ∈ J.last := by
  unfold low Lib.minOf
  cases hl : J.last with
  | nil => exact absurd hl h
  | cons z zs =>
    simp only [List.headD_cons]
    rcases (foldl_min_le (z :: zs) z).2.2 with e | e
    · rw [e]; simp
    · exact e
theorem low_le {J : Jn} : ∀ x ∈ J.last, low J ≤ x := by
  intro x hx
  unfold low Lib.minOf
  exact (foldl_min_le _ _).2.1 x hx
theorem OkJ.low {J : Jn} {K : Int} (h : OkJ J K) : -1 ≤ Je.low J ∧ Je.low J ≤ K := h.lastK _ (low_mem h.last0)

/-! A piece turns mode, data and events alone. -/
section
variable (J : Jn) (place : Int) (b e : Bool) (p : S29)
theorem badJ_nm : (badJ J place b).nm = J.nm := by unfold badJ tellJ; split <;> rfl
theorem badJ_room : (badJ J place b).room = J.room := by unfold badJ tellJ; split <;> rfl
theorem badJ_most : (badJ J place b).most = J.most := by unfold badJ tellJ; split <;> rfl
theorem badJ_last : (badJ J place b).last = J.last := by unfold badJ tellJ; split <;> rfl
theorem badJ_wait : (badJ J place b).wait = J.wait := by unfold badJ tellJ; split <;> rfl
theorem badJ_next : (badJ J place b).next = J.next := by unfold badJ tellJ; split <;> rfl
theorem badJ_data : (badJ J place b).data = J.data := by unfold badJ tellJ; split <;> rfl
theorem badJ_evs : (badJ J place b).evs.length ≤ J.evs.length + 1 := by unfold badJ tellJ; split <;> simp
theorem doneJ_nm : (doneJ J e).nm = J.nm := by unfold doneJ; (repeat' split) <;> rfl
theorem doneJ_room : (doneJ J e).room = J.room := by unfold doneJ; (repeat' split) <;> rfl
theorem doneJ_most : (doneJ J e).most = J.most := by unfold doneJ; (repeat' split) <;> rfl
theorem doneJ_last : (doneJ J e).last = J.last := by unfold doneJ; (repeat' split) <;> rfl
theorem doneJ_wait : (doneJ J e).wait = J.wait := by unfold doneJ; (repeat' split) <;> rfl
theorem doneJ_next : (doneJ J e).next = J.next := by unfold doneJ; (repeat' split) <;> rfl
theorem doneJ_evs : (doneJ J e).evs.length ≤ J.evs.length + 1 := by unfold doneJ; (repeat' split) <;> simp
theorem doneJ_data (h0 : 0 ≤ J.most) : ((doneJ J e).data.length : Int) ≤ J.most := by
  unfold doneJ
  split
  · simpa using h0
  · split
    · simpa using h0
    · omega
theorem pieceJ_nm : (pieceJ J place p).nm = J.nm := by unfold pieceJ; (repeat' split) <;> simp [doneJ_nm, badJ_nm]
theorem pieceJ_room : (pieceJ J place p).room = J.room := by unfold pieceJ; (repeat' split) <;> simp [doneJ_room, badJ_room]
theorem pieceJ_most : (pieceJ J place p).most = J.most := by unfold pieceJ; (repeat' split) <;> simp [doneJ_most, badJ_most]
theorem pieceJ_last : (pieceJ J place p).last = J.last := by unfold pieceJ; (repeat' split) <;> simp [doneJ_last, badJ_last]
theorem pieceJ_wait : (pieceJ J place p).wait = J.wait := by unfold pieceJ; (repeat' split) <;> simp [doneJ_wait, badJ_wait]
theorem pieceJ_next : (pieceJ J place p).next = J.next := by unfold pieceJ; (repeat' split) <;> simp [doneJ_next, badJ_next]
theorem pieceJ_evs : (pieceJ J place p).evs.length ≤ J.evs.length + 2 := by
  have h := badJ_evs J place p.f0
  unfold pieceJ
  split
  · refine Nat.le_trans (doneJ_evs _ _) ?_
    simp; omega
  · split
    · refine Nat.le_trans (doneJ_evs _ _) ?_
      simp; omega
    · simp; omega
theorem pieceJ_data (h0 : 0 ≤ J.most) (hd : (J.data.length : Int) ≤ J.most) : ((pieceJ J place p).data.length : Int) ≤ J.most := by
  unfold pieceJ
  split
  · have := doneJ_data { badJ J place p.f0 with mode := 1, data := p.f3 } p.f1 (by simpa [badJ_most] using h0)
    simpa [badJ_most] using this
  · split
    · have := doneJ_data { badJ J place p.f0 with data := (badJ J place p.f0).data ++ p.f3 } p.f1 (by simpa [badJ_most] using h0)
      simpa [badJ_most] using this
    · simpa [badJ_data] using hd
end

theorem lost_ok {J : Jn} {K fin : Int} (h : OkJ J K) (h1 : J.next ≤ fin) (h2 : fin ≤ K + 1) (h3 : ∀ p ∈ J.wait, fin ≤ p.1) : OkJ (lostJ J fin) K :=
  ⟨h.nm0, h.last0, h.lastK, Int.le_trans h.next0 h1, h2, fun p hp => ⟨h3 p hp, (h.waitK p hp).2⟩, h.sort, by simpa [lostJ, tellJ] using h.most.1, h.most⟩
theorem pop_ok {J : Jn} {K : Int} {p : Int × S29} {q : List (Int × S29)} (h : OkJ J K) (hw : J.wait = p :: q) (hp : p.1 = J.next) : OkJ (popJ J p.2 q) K := by
  have hs := h.sort
  rw [hw] at hs
  obtain ⟨hs1, hs2⟩ := List.pairwise_cons.1 hs
  have hpk := h.waitK p (by rw [hw]; simp)
  have hn := h.next0
  refine ⟨by simpa [popJ, pieceJ_nm] using h.nm0, by simpa [popJ, pieceJ_last] using h.last0, by simpa [popJ, pieceJ_last] using h.lastK, by simp [popJ]; omega, by simp [popJ]; omega, ?_, by simpa [popJ, pieceJ_wait] using hs2, ?_, by simpa [popJ, pieceJ_most] using h.most⟩
  · intro x hx
    have hx : x ∈ q := by simpa [popJ, pieceJ_wait] using hx
    have := hs1 x hx
    have h2 := h.waitK x (by rw [hw]; simp [hx])
    refine ⟨by simp [popJ]; omega, h2.2⟩
  · have := pieceJ_data { J with wait := q } J.next p.2 h.most.1 h.data
    simpa [popJ, pieceJ_most] using this

theorem step_ok {J J' : Jn} {K : Int} (h : OkJ J K) (hs : stepJ J = some J') : OkJ J' K ∧ phi J' < phi J ∧ J'.evs.length ≤ J.evs.length + 2 ∧ J'.nm = J.nm ∧ J'.room = J.room ∧ J'.most = J.most ∧ J'.last = J.last ∧ J'.wait.length ≤ J.wait.length := by
  have hlow := h.low
  unfold stepJ at hs
  cases hw : J.wait with
  | nil =>
    rw [hw] at hs
    simp only at hs
    split at hs
    · cases hs
    · rename_i hf
      cases hs
      refine ⟨lost_ok h (by omega) (by omega) (by rw [hw]; simp), ?_, by simp [lostJ, tellJ], rfl, rfl, rfl, rfl, by simp [lostJ, tellJ, hw]⟩
      have e1 : low (lostJ J (low J + 1)) = low J := rfl
      have e2 : (lostJ J (low J + 1)).wait = J.wait := rfl
      have e3 : (lostJ J (low J + 1)).next = low J + 1 := rfl
      unfold phi
      rw [e1, e2, e3, hw, if_pos (Int.le_refl _), if_neg hf]
      simp
  | cons p q =>
    rw [hw] at hs
    simp only at hs
    have hpk := h.waitK p (by rw [hw]; simp)
    split at hs
    · rename_i hp
      cases hs
      refine ⟨pop_ok h hw hp, ?_, ?_, by simp [popJ, pieceJ_nm], by simp [popJ, pieceJ_room], by simp [popJ, pieceJ_most], by simp [popJ, pieceJ_last], by simp [popJ, pieceJ_wait]⟩
      · have e2 : (popJ J p.2 q).wait = q := by simp [popJ, pieceJ_wait]
        unfold phi
        rw [e2, hw]
        simp only [List.length_cons]
        have : ∀ x : Nat, x ≤ 1 → ∀ y : Nat, y ≤ 1 → ∀ z t : Nat, 3 * q.length + x + y < 3 * (q.length + 1) + z + t := by intros; omega
        refine this _ ?_ _ ?_ _ _
        · repeat' split
          all_goals omega
        · split <;> omega
      · have := pieceJ_evs { J with wait := q } J.next p.2
        simpa [popJ] using this
    · rename_i hp
      split at hs
      · cases hs
      · rename_i hf
        cases hs
        have hle : ∀ x ∈ J.wait, min (low J + 1) p.1 ≤ x.1 := by
          intro x hx
          rw [hw] at hx
          rcases List.mem_cons.1 hx with e | e
          · subst e; omega
          · have hs := h.sort
            rw [hw] at hs
            have := (List.pairwise_cons.1 hs).1 x e
            omega
        refine ⟨lost_ok h (by omega) (by omega) hle, ?_, by simp [lostJ, tellJ], rfl, rfl, rfl, rfl, by simp [lostJ, tellJ, hw]⟩
        have e1 : ∀ f, low (lostJ J f) = low J := fun _ => rfl
        have e2 : ∀ f, (lostJ J f).wait = J.wait := fun _ => rfl
        have e3 : ∀ f, (lostJ J f).next = f := fun _ => rfl
        unfold phi
        rw [e1, e2, e3, hw]
        simp only [if_neg hp]
        rcases Int.lt_or_le p.1 (low J + 1) with hc | hc
        · have hm : min (low J + 1) p.1 = p.1 := by omega
          rw [hm, if_pos rfl]
          split <;> split <;> omega
        · have hm : min (low J + 1) p.1 = low J + 1 := by omega
          rw [hm] at hf ⊢
          rw [if_pos (Int.le_refl _), if_neg hf]
          split <;> omega

theorem runN_none {J : Jn} (h : stepJ J = none) : ∀ n, runN n J = J
  | 0 => rfl
  | n + 1 => by simp [runN, h]
theorem runN_same {K : Int} : ∀ (n m : Nat) (J : Jn), OkJ J K → phi J ≤ n → phi J ≤ m → runN n J = runN m J := by
  intro n
  induction n with
  | zero =>
    intro m J h hn _
    cases hs : stepJ J with
    | none => rw [runN_none hs, runN_none hs]
    | some J' => have := (step_ok h hs).2.1; omega
  | succ n ih =>
    intro m J h hn hm
    cases hs : stepJ J with
    | none => rw [runN_none hs, runN_none hs]
    | some J' =>
      obtain ⟨h', hlt, -⟩ := step_ok h hs
      cases m with
      | zero => omega
      | succ m =>
        simp only [runN, hs]
        exact ih m J' h' (by omega) (by omega)
theorem run_step {J J' : Jn} {K : Int} (h : OkJ J K) (hs : stepJ J = some J') : runJ J = runJ J' := by
  obtain ⟨h', hlt, -⟩ := step_ok h hs
  have e1 : runJ J = runN (phi J + 1) J := runN_same _ _ _ h (Nat.le_refl _) (by omega)
  rw [e1]
  simp only [runN, hs]
  exact runN_same _ _ _ h' (by omega) (Nat.le_refl _)
theorem run_none {J : Jn} (hs : stepJ J = none) : runJ J = J := runN_none hs _

/-- A relation that every step hands on holds behind the run. -/
theorem run_rel {K : Int} {R : Jn → Prop} (hR : ∀ J J', OkJ J K → stepJ J = some J' → R J → R J') : ∀ (n : Nat) (J : Jn), phi J ≤ n → OkJ J K → R J → R (runJ J) ∧ OkJ (runJ J) K ∧ stepJ (runJ J) = none := by
  intro n
  induction n with
  | zero =>
    intro J hn h hr
    cases hs : stepJ J with
    | none => rw [run_none hs]; exact ⟨hr, h, hs⟩
    | some J' => have := (step_ok h hs).2.1; omega
  | succ n ih =>
    intro J hn h hr
    cases hs : stepJ J with
    | none => rw [run_none hs]; exact ⟨hr, h, hs⟩
    | some J' =>
      obtain ⟨h', hlt, -⟩ := step_ok h hs
      rw [run_step h hs]
      exact ih J' (by omega) h' (hR J J' h hs hr)
theorem run_ok {J : Jn} {K : Int} (h : OkJ J K) : OkJ (runJ J) K ∧ stepJ (runJ J) = none ∧ (runJ J).evs.length + 2 * phi (runJ J) ≤ J.evs.length + 2 * phi J ∧ (runJ J).nm = J.nm ∧ (runJ J).room = J.room ∧ (runJ J).most = J.most ∧ (runJ J).last = J.last ∧ (runJ J).wait.length ≤ J.wait.length := by
  obtain ⟨h1, h2, h3⟩ := run_rel (K := K) (R := fun J' => J'.evs.length + 2 * phi J' ≤ J.evs.length + 2 * phi J ∧ J'.nm = J.nm ∧ J'.room = J.room ∧ J'.most = J.most ∧ J'.last = J.last ∧ J'.wait.length ≤ J.wait.length) (fun J1 J2 ok hs hr => by
    obtain ⟨q1, q2, q3, q4, q5, q6, q7, q8⟩ := step_ok ok hs
    obtain ⟨r1, r2, r3, r4, r5, r6⟩ := hr
    exact ⟨by omega, q4.trans r2, q5.trans r3, q6.trans r4, q7.trans r5, Nat.le_trans q8 r6⟩) (phi J) J (Nat.le_refl _) h ⟨Nat.le_refl _, rfl, rfl, rfl, rfl, Nat.le_refl _⟩
  exact ⟨h2, h3, h1⟩

end Go.Proofs.YtgopklnfdlnojaaDoor.Je
