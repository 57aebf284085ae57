/- A joiner is fed anything: the contract, and what stays so. -/
import Derived.Test.YtgopklnfdlnojaaDoorNb
namespace Go.Proofs.YtgopklnfdlnojaaDoor.Nc
open Go.RowKit Go.Proofs.YtgopklnfdlnojaaDoor.Ga Go.Proofs.YtgopklnfdlnojaaDoor.My Go.Proofs.YtgopklnfdlnojaaDoor.Gb Go.Proofs.YtgopklnfdlnojaaDoor.Gp Go.Proofs.YtgopklnfdlnojaaDoor.Ja Go.Proofs.YtgopklnfdlnojaaDoor.Jb Go.Proofs.YtgopklnfdlnojaaDoor.Jc Go.Proofs.YtgopklnfdlnojaaDoor.Jd Go.Proofs.YtgopklnfdlnojaaDoor.Je Go.Proofs.YtgopklnfdlnojaaDoor.Jf Go.Proofs.YtgopklnfdlnojaaDoor.Jg Go.Proofs.YtgopklnfdlnojaaDoor.Jh Go.Proofs.YtgopklnfdlnojaaDoor.Ji Go.Proofs.YtgopklnfdlnojaaDoor.Ix Go.Proofs.YtgopklnfdlnojaaDoor.Nb Go.Proofs.YtgopklnfdlnojaaDoorW.PrintWords Go.Proofs.YtgopklnfdlnojaaDoorW.PrintLast Go.Proofs.YtgopklnfdlnojaaDoorW.PrintMore
set_option linter.unusedVariables false
set_option linter.unusedSimpArgs false

/-- A joiner whose events have been taken. -/
def rest (J : Jn) : Jn := { J with evs := [] }
theorem rest_id {J : Jn} (h : J.evs = []) : rest J = J := by cases J; simp [rest] at *; exact h
theorem ok_rest {J : Jn} {K : Int} (h : OkJ J K) : OkJ (rest J) K := ⟨h.nm0, h.last0, h.lastK, h.next0, h.nextK, h.waitK, h.sort, h.data, h.most⟩
theorem step_rest {J : Jn} (h : stepJ J = none) : stepJ (rest J) = none := by
  have e1 : (rest J).wait = J.wait := rfl
  have e2 : low (rest J) = low J := rfl
  have e3 : (rest J).next = J.next := rfl
  unfold stepJ at h ⊢
  rw [e1, e2, e3]
  cases hw : J.wait with
  | nil =>
    rw [hw] at h
    simp only at h ⊢
    split at h
    · rename_i h1; rw [if_pos h1]
    · cases h
  | cons p q =>
    rw [hw] at h
    simp only at h ⊢
    split at h
    · cases h
    · rename_i h1
      rw [if_neg h1]
      split at h
      · rename_i h2; rw [if_pos h2]
      · cases h

/-- What holds of a joiner between pieces. -/
structure Still (J : Jn) (K : Int) : Prop where
  ok : OkJ J K
  step : stepJ J = none
  evs : J.evs = []
  room : 0 ≤ J.room

theorem laid_same (J : Jn) (k : Int) (p : S29) : (laidJ J k p).nm = J.nm ∧ (laidJ J k p).room = J.room ∧ (laidJ J k p).most = J.most ∧ (laidJ J k p).last.length = J.last.length := by
  unfold laidJ
  simp only
  split <;> simp

theorem feed_still {J : Jn} {K link : Int} {p : S29} (h : Still J K) (hp : p.f3.length ≤ 1000) :
    Still (rest (feedJ J link p).1) (K + J.nm) ∧ (feedJ J link p).1.nm = J.nm ∧ (feedJ J link p).1.room = J.room ∧ (feedJ J link p).1.most = J.most ∧ (feedJ J link p).1.last.length = J.last.length ∧
      (feedJ J link p).1.wait.length ≤ J.wait.length + 1 ∧ ((feedJ J link p).2 = 0 → (feedJ J link p).1.wait.length ≤ J.room.toNat) ∧ ((feedJ J link p).2 ≠ 0 → (feedJ J link p).1 = J) ∧ (feedJ J link p).1.evs.length ≤ 2 * phi (laidJ J link p) := by
  have hnm := h.ok.nm0
  have same : Still (rest J) (K + J.nm) := by rw [rest_id h.evs]; exact ⟨ok_mono h.ok (by omega), h.step, h.evs, h.room⟩
  unfold feedJ
  by_cases h1 : link < 0 ∨ (J.last.length : Int) ≤ link
  · rw [if_pos h1]
    exact ⟨same, rfl, rfl, rfl, rfl, Nat.le_succ _, fun e => absurd (show (_ : Int) = 0 from e) (by simp), fun _ => rfl, by rw [h.evs]; simp⟩
  · rw [if_neg h1]
    by_cases h2 : p.f2 < 0 ∨ J.nm ≤ p.f2
    · rw [if_pos h2]
      exact ⟨same, rfl, rfl, rfl, rfl, Nat.le_succ _, fun e => absurd (show (_ : Int) = 0 from e) (by simp), fun _ => rfl, by rw [h.evs]; simp⟩
    · rw [if_neg h2]
      obtain ⟨a1, a2, a3⟩ := laid_ok (p := p) (link := link) h.ok (by omega) (by omega) hp
      obtain ⟨l1, l2, l3, l4⟩ := laid_same J link p
      obtain ⟨r1, r2, r3, r4, r5, r6, r7, r8⟩ := run_ok a1
      obtain ⟨t1, t2, t3, t4, t5, t6, t7, t8, t9⟩ := thin_ok (room := J.room.toNat) _ (Nat.le_refl _) r1 r2
      refine ⟨⟨ok_rest t1, step_rest t2, rfl, ?_⟩, t4.trans (r4.trans l1), t5.trans (r5.trans l2), t6.trans (r6.trans l3), by show (thinJ J.room.toNat (runJ (laidJ J link p))).last.length = _; rw [t7, r7, l4], Nat.le_trans t8 (Nat.le_trans r8 a2), fun _ => t9, fun e => absurd rfl e, ?_⟩
      · show 0 ≤ (thinJ J.room.toNat (runJ (laidJ J link p))).room
        rw [t5, r5, l2]
        exact h.room
      · simp only
        rw [a3, h.evs] at r3
        simp at r3
        omega

/-- A joiner is fed anything. -/
theorem feed_any (W : World) (base g bm : Nat) (vl vd : Value) (wv : List (Int × Value)) (J : Jn) (K : Int) (link : Int) (p : S29) (A : Option Addr) (c : Nat) (h : JM W base g bm vl vd (.slice none 0 0) wv [] J) (st : Still J K) (hK : K + J.nm ≤ 1000000000000) (hb : base ≤ W.heap.size)
    (hwl : J.wait.length ≤ 10000) (hp : p.f3.length ≤ 1000) (hc : p.f3.length ≤ c) (hs : Sl0 W (Mut g bm vl vd (.slice none 0 0)) A p.f3.length p.f3) :
    Calls Tryd.prog 35 #[.pointer (some ⟨g, 0, none⟩), .int .i64 link, pc p.f0 p.f1 p.f2 A p.f3.length c] W fun e W' => ∃ vd' ve' wv' er', e = .returned (.tuple #[ve', .int .i64 (feedJ J link p).2]) ∧
      JM W' base g bm vl vd' (.slice none 0 0) wv' [] (rest (feedJ J link p).1) ∧ (rawK 4).R 84 W' base (fun _ => True) ve' er' ∧ All2 (EvOK W' (Mut g bm vl vd' (.slice none 0 0))) (feedJ J link p).1.evs er' ∧
      Kept W W' (Mut g bm vl vd (.slice none 0 0)) ∧ (∀ k, k < W.heap.size → Mut g bm vl vd' (.slice none 0 0) k → Mut g bm vl vd (.slice none 0 0) k) ∧ Below base W W' := by
  have bad : ∀ {e : Ending} {W' : World} {n : Int}, e = .returned (.tuple #[.slice none 0 0, .int .i64 n]) → Below W.heap.size W W' → ∃ vd' ve' wv' er', e = .returned (.tuple #[ve', .int .i64 n]) ∧
      JM W' base g bm vl vd' (.slice none 0 0) wv' [] (rest J) ∧ (rawK 4).R 84 W' base (fun _ => True) ve' er' ∧ All2 (EvOK W' (Mut g bm vl vd' (.slice none 0 0))) J.evs er' ∧
      Kept W W' (Mut g bm vl vd (.slice none 0 0)) ∧ (∀ k, k < W.heap.size → Mut g bm vl vd' (.slice none 0 0) k → Mut g bm vl vd (.slice none 0 0) k) ∧ Below base W W' := by
    intro e W' n he hbl
    have hJ := jm_below h hbl
    refine ⟨vd, .slice none 0 0, wv, [], he, by rw [rest_id st.evs]; exact hJ, Kd.R_nil _ _ _ _ _, ?_, kept_of_below hbl _, fun _ _ h => h, hbl.mono hb⟩
    rw [st.evs]
    exact ⟨rfl, fun j x y hx => by simp at hx⟩
  unfold feedJ
  by_cases h1 : link < 0 ∨ (J.last.length : Int) ≤ link
  · rw [if_pos h1]
    refine (feed_link W base g bm vl vd _ wv [] J link p A c h h1).mono ?_
    rintro e W' ⟨he, hbl⟩
    exact bad he hbl
  · rw [if_neg h1]
    obtain ⟨k, rfl⟩ := Int.eq_ofNat_of_zero_le (show 0 ≤ link by omega)
    by_cases h2 : p.f2 < 0 ∨ J.nm ≤ p.f2
    · rw [if_pos h2]
      refine (feed_num W base g bm vl vd _ wv [] J k p A c h (by omega) h2).mono ?_
      rintro e W' ⟨he, hbl⟩
      exact bad he hbl
    · rw [if_neg h2]
      exact feed_good W base g bm vl vd wv J K k p A c h st.ok hK hb (by omega) (by omega) (by omega) st.room (by omega) hp hc hs

end Go.Proofs.YtgopklnfdlnojaaDoor.Nc
