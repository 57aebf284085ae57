/- A joiner skips (47), is flushed (33). -/
import Derived.Test.YtgopklnfdlnojaaDoorJf
namespace Go.Proofs.YtgopklnfdlnojaaDoor.Jg
open Go.RowKit Go.Proofs.YtgopklnfdlnojaaDoor.Ga Go.Proofs.YtgopklnfdlnojaaDoor.My Go.Proofs.YtgopklnfdlnojaaDoor.Gb Go.Proofs.YtgopklnfdlnojaaDoor.Gp Go.Proofs.YtgopklnfdlnojaaDoor.Ja Go.Proofs.YtgopklnfdlnojaaDoor.Jb Go.Proofs.YtgopklnfdlnojaaDoor.Jc Go.Proofs.YtgopklnfdlnojaaDoor.Jd Go.Proofs.YtgopklnfdlnojaaDoor.Je Go.Proofs.YtgopklnfdlnojaaDoor.Jf Go.Proofs.YtgopklnfdlnojaaDoorW.PrintWords Go.Proofs.YtgopklnfdlnojaaDoorW.PrintLast Go.Proofs.YtgopklnfdlnojaaDoorW.PrintMore
set_option linter.unusedVariables false
set_option linter.unusedSimpArgs false

def skipJ (J : Jn) : Jn := match J.wait with | [] => J | p :: _ => runJ (lostJ J p.1)
def thinN : Nat → Nat → Jn → Jn
  | 0, _, J => J
  | n + 1, room, J => if room < J.wait.length then thinN n room (skipJ J) else J
def thinJ (room : Nat) (J : Jn) : Jn := thinN J.wait.length room J

theorem skip_lost {J : Jn} {K : Int} {p : Int × S29} {q : List (Int × S29)} (ok : OkJ J K) (hst : stepJ J = none) (hw : J.wait = p :: q) : OkJ (lostJ J p.1) K ∧ (lostJ J p.1).evs.length + 2 * phi (lostJ J p.1) ≤ J.evs.length + 2 * phi J ∧ 2 * phi (lostJ J p.1) + 2 ≤ 2 * phi J ∧ stepJ (lostJ J p.1) = some (popJ (lostJ J p.1) p.2 q) := by
  have hpk := ok.waitK p (by rw [hw]; simp)
  have hsort := ok.sort
  rw [hw] at hsort
  have h1 : OkJ (lostJ J p.1) K := lost_ok ok hpk.1 (by omega) (fun x hx => by
    rw [hw] at hx
    rcases List.mem_cons.1 hx with e | e
    · rw [e]; exact Int.le_refl _
    · have := (List.pairwise_cons.1 hsort).1 x e; omega)
  have hne : p.1 ≠ J.next := by
    intro e
    unfold stepJ at hst
    rw [hw] at hst
    simp only [if_pos e] at hst
    cases hst
  have hphi : phi (lostJ J p.1) + 1 ≤ phi J := by
    have e1 : low (lostJ J p.1) = low J := rfl
    have e2 : (lostJ J p.1).wait = J.wait := rfl
    have e3 : (lostJ J p.1).next = p.1 := rfl
    unfold phi
    rw [e1, e2, e3, hw]
    simp only [if_neg hne, if_pos]
    split <;> split <;> omega
  have hev : (lostJ J p.1).evs.length = J.evs.length + 1 := by simp [lostJ, tellJ]
  refine ⟨h1, by omega, by omega, ?_⟩
  unfold stepJ
  have e2 : (lostJ J p.1).wait = J.wait := rfl
  have e3 : (lostJ J p.1).next = p.1 := rfl
  rw [e2, e3, hw]
  simp only [if_true]

theorem skip_ok {J : Jn} {K : Int} (ok : OkJ J K) (hst : stepJ J = none) : OkJ (skipJ J) K ∧ stepJ (skipJ J) = none ∧ (skipJ J).evs.length + 2 * phi (skipJ J) ≤ J.evs.length + 2 * phi J ∧ (skipJ J).nm = J.nm ∧ (skipJ J).room = J.room ∧ (skipJ J).most = J.most ∧ (skipJ J).last = J.last ∧ (skipJ J).wait.length ≤ J.wait.length ∧ (J.wait ≠ [] → (skipJ J).wait.length < J.wait.length) := by
  unfold skipJ
  cases hw : J.wait with
  | nil => exact ⟨ok, hst, Nat.le_refl _, rfl, rfl, rfl, rfl, by simp [hw], fun h => absurd rfl h⟩
  | cons p q =>
    simp only
    obtain ⟨h1, h2, h3, h4⟩ := skip_lost ok hst hw
    obtain ⟨r1, r2, r3, r4, r5, r6, r7, r8⟩ := run_ok h1
    obtain ⟨s1, s2, s3, s4, s5, s6, s7, s8⟩ := step_ok h1 h4
    obtain ⟨t1, t2, t3, t4, t5, t6, t7, t8⟩ := run_ok s1
    have e : runJ (lostJ J p.1) = runJ (popJ (lostJ J p.1) p.2 q) := run_step h1 h4
    have hl : (runJ (lostJ J p.1)).wait.length ≤ q.length := by
      rw [e]
      refine Nat.le_trans t8 ?_
      simp [popJ, pieceJ_wait]
    exact ⟨r1, r2, by omega, r4.trans rfl, r5.trans rfl, r6.trans rfl, r7.trans rfl, by simp; omega, fun _ => by simp; omega⟩

theorem thinN_stop {n room : Nat} {J : Jn} (h : ¬ room < J.wait.length) : thinN n room J = J := by
  cases n with
  | zero => rfl
  | succ n => simp [thinN, h]
theorem thinN_same {K : Int} {room : Nat} : ∀ (n m : Nat) (J : Jn), OkJ J K → stepJ J = none → J.wait.length ≤ n → J.wait.length ≤ m → thinN n room J = thinN m room J := by
  intro n
  induction n with
  | zero =>
    intro m J ok hst hn hm
    rw [thinN_stop (by omega), thinN_stop (by omega)]
  | succ n ih =>
    intro m J ok hst hn hm
    by_cases h : room < J.wait.length
    · obtain ⟨k1, k2, k3, k4, k5, k6, k7, k8, k9⟩ := skip_ok ok hst
      have := k9 (fun e => by rw [e] at h; simp at h)
      cases m with
      | zero => omega
      | succ m =>
        simp only [thinN, if_pos h]
        exact ih m _ k1 k2 (by omega) (by omega)
    · rw [thinN_stop h, thinN_stop h]
theorem thin_step {K : Int} {room : Nat} {J : Jn} (ok : OkJ J K) (hst : stepJ J = none) (h : room < J.wait.length) : thinJ room J = thinJ room (skipJ J) := by
  obtain ⟨k1, k2, k3, k4, k5, k6, k7, k8, k9⟩ := skip_ok ok hst
  have hlt := k9 (fun e => by rw [e] at h; simp at h)
  have e1 : thinJ room J = thinN (J.wait.length + 1) room J := thinN_same _ _ _ ok hst (Nat.le_refl _) (by omega)
  rw [e1]
  simp only [thinN, if_pos h]
  exact thinN_same _ _ _ k1 k2 (by omega) (Nat.le_refl _)
theorem thin_stop {room : Nat} {J : Jn} (h : ¬ room < J.wait.length) : thinJ room J = J := thinN_stop h
theorem thin_ok {K : Int} {room : Nat} : ∀ (n : Nat) {J : Jn}, J.wait.length ≤ n → OkJ J K → stepJ J = none → OkJ (thinJ room J) K ∧ stepJ (thinJ room J) = none ∧ (thinJ room J).evs.length + 2 * phi (thinJ room J) ≤ J.evs.length + 2 * phi J ∧ (thinJ room J).nm = J.nm ∧ (thinJ room J).room = J.room ∧ (thinJ room J).most = J.most ∧ (thinJ room J).last = J.last ∧ (thinJ room J).wait.length ≤ J.wait.length ∧ (thinJ room J).wait.length ≤ room := by
  intro n
  induction n with
  | zero =>
    intro J hn ok hst
    rw [thin_stop (by omega)]
    exact ⟨ok, hst, Nat.le_refl _, rfl, rfl, rfl, rfl, Nat.le_refl _, by omega⟩
  | succ n ih =>
    intro J hn ok hst
    by_cases h : room < J.wait.length
    · obtain ⟨k1, k2, k3, k4, k5, k6, k7, k8, k9⟩ := skip_ok ok hst
      have := k9 (fun e => by rw [e] at h; simp at h)
      rw [thin_step ok hst h]
      obtain ⟨l1, l2, l3, l4, l5, l6, l7, l8, l9⟩ := ih (J := skipJ J) (by omega) k1 k2
      exact ⟨l1, l2, Nat.le_trans l3 k3, l4.trans k4, l5.trans k5, l6.trans k6, l7.trans k7, by omega, l9⟩
    · rw [thin_stop h]
      exact ⟨ok, hst, Nat.le_refl _, rfl, rfl, rfl, rfl, Nat.le_refl _, by omega⟩

set_option maxHeartbeats 2000000 in
set_option maxRecDepth 100000 in
theorem skip_any (W : World) (base g bm : Nat) (vl vd ve : Value) (wv : List (Int × Value)) (er : List (List Value)) (J : Jn) (K : Int) (h : JM W base g bm vl vd ve wv er J) (ok : OkJ J K) (hst : stepJ J = none) (hK : K ≤ 1000000000000) (hb : base ≤ W.heap.size) (hlen : er.length + 2 * phi J ≤ 80000) (hne : J.wait ≠ []) :
    Calls Tryd.prog 47 #[.pointer (some ⟨g, 0, none⟩)] W fun e W' => ∃ vd' ve' wv' er', (∃ v, e = .returned v) ∧
      JM W' base g bm vl vd' ve' wv' er' (skipJ J) ∧ Kept W W' (Mut g bm vl vd ve) ∧ (∀ k, k < W.heap.size → Mut g bm vl vd' ve' k → Mut g bm vl vd ve k) ∧ Below base W W' := by
  obtain ⟨p, q, hw⟩ : ∃ p q, J.wait = p :: q := by
    cases hw : J.wait with
    | nil => exact absurd hw hne
    | cons p q => exact ⟨p, q, rfl⟩
  have HJ := Aside0.mk h
  have HOK := Aside0.mk ok
  obtain ⟨s1, s2, s3, s4⟩ := skip_lost ok hst hw
  have hw3 : 3 * J.wait.length ≤ phi J := by unfold phi; omega
  have hah := (ahead_any W base g bm vl vd ve wv er J h (by omega)).mono (R' := fun e W' => e = .returned (.tuple #[.int .i64 p.1, .bool true]) ∧ Below W.heap.size W W') (by
    rintro e w' (⟨hn, -, -⟩ | ⟨p', q', hpq, he, hbb⟩)
    · rw [hw] at hn; cases hn
    · rw [hw] at hpq; cases hpq; exact ⟨he, hbb⟩)
  have hpk := ok.waitK p (by rw [hw]; simp)
  have hwr : IntKind.i64.wrap (p.1 - J.next) = p.1 - J.next := IntWalk.i64_in _ (by have := ok.next0; omega)
  have HS := Aside0.mk (And.intro s1 (And.intro s2 s3))
  have HW := Aside0.mk hw
  have hel : er.length = J.evs.length := h.hev.1
  have HEL := Aside0.mk (And.intro hel hlen)
  clear h ok hst hw s1 s2 s3 s4 hpk hel hlen hne hw3
  go_enter Tryd.func47, Tryd.ntmps47
  go_wp2_with (first
    | (go_at_call 56; refine hah.mono ?_; rintro e w' ⟨rfl, hba⟩; have HBA := Aside0.mk hba; clear hba)
    | (go_at_call 57; refine (lose_any _ base g bm vl vd ve wv er J p.1 (jm_below HJ.out HBA.out) HOK.out.nm0 (Nat.le_trans hb HBA.out.size) (by have := HEL.out; omega) hwr).mono ?_; rintro e w2 ⟨ve2, er2, ⟨v2, rfl⟩, hle2, hJ2, hk2, hm2, hb2⟩; have HX2 := Aside0.mk (And.intro hle2 (And.intro hJ2 (And.intro hk2 (And.intro hm2 hb2)))); clear hle2 hJ2 hk2 hm2 hb2)
    | (go_at_call 50; refine (run_any _ base g bm vl (.slice none 0 0) ve2 wv er2 (lostJ J p.1) K HX2.out.2.1 HS.out.1 hK (Nat.le_trans hb (Nat.le_trans HBA.out.size HX2.out.2.2.2.2.size)) (by have := HEL.out; have := HS.out.2.1; have := HS.out.2.2; have := HX2.out.1; omega)).mono ?_; rintro e w3 ⟨vd3, ve3, wv3, er3, ⟨v3, rfl⟩, hJ3, hk3, hm3, hb3⟩; have HX3 := Aside0.mk (And.intro hJ3 (And.intro hk3 (And.intro hm3 hb3))); clear hJ3 hk3 hm3 hb3))
  go_end0
  obtain ⟨hle2, hJ2, hk2, hm2, hb2⟩ := HX2.out
  obtain ⟨hJ3, hk3, hm3, hb3⟩ := HX3.out
  have hsk : skipJ J = runJ (lostJ J p.1) := by unfold skipJ; rw [HW.out]
  have hkA := kept_trans (kept_of_below HBA.out (Mut g bm vl vd ve)) hk2 (fun _ _ h => h)
  have hmA : ∀ k, k < W.heap.size → Mut g bm vl (.slice none 0 0) ve2 k → Mut g bm vl vd ve k := fun k hk hm => hm2 k (Nat.lt_of_lt_of_le hk HBA.out.size) hm
  exact ⟨vd3, ve3, wv3, er3, ⟨_, rfl⟩, hsk ▸ hJ3, kept_trans hkA hk3 hmA, fun k hk hm => hmA k hk (hm3 k (Nat.lt_of_lt_of_le hk hkA.1) hm), ((HBA.out.mono hb).trans hb2).trans hb3⟩

set_option maxHeartbeats 2000000 in
set_option maxRecDepth 100000 in
theorem flush_any (W : World) (base g bm : Nat) (vl vd ve : Value) (wv : List (Int × Value)) (er : List (List Value)) (J : Jn) (K : Int) (h : JM W base g bm vl vd ve wv er J) (ok : OkJ J K) (hst : stepJ J = none) (hK : K ≤ 1000000000000) (hb : base ≤ W.heap.size) (hlen : er.length + 2 * phi J ≤ 80000) :
    Calls Tryd.prog 33 #[.pointer (some ⟨g, 0, none⟩)] W fun e W' => ∃ vd' ve' wv' er', e = .returned ve' ∧
      JM W' base g bm vl vd' (.slice none 0 0) wv' [] { thinJ 0 J with evs := [] } ∧ (rawK 4).R 84 W' base (fun _ => True) ve' er' ∧ All2 (EvOK W' (Mut g bm vl vd' (.slice none 0 0))) (thinJ 0 J).evs er' ∧
      Kept W W' (Mut g bm vl vd ve) ∧ (∀ k, k < W.heap.size → Mut g bm vl vd' (.slice none 0 0) k → Mut g bm vl vd ve k) ∧ Below base W W' := by
  have HJ := Aside0.mk h
  have HOK := Aside0.mk ok
  have HST := Aside0.mk hst
  have HLEN := Aside0.mk hlen
  clear h ok hst hlen
  go_enter Tryd.func33, Tryd.ntmps33
  go_wp2_with (fail)
  go_loopg [3] (J.wait.length) (fun k v3 wr => Aside0 (∃ vd1 ve1 wv1 er1 J1, k = J1.wait.length ∧ JM wr base g bm vl vd1 ve1 wv1 er1 J1 ∧ OkJ J1 K ∧ stepJ J1 = none ∧ thinJ 0 J1 = thinJ 0 J ∧ er1.length + 2 * phi J1 ≤ er.length + 2 * phi J ∧ Kept W wr (Mut g bm vl vd ve) ∧ (∀ k, k < W.heap.size → Mut g bm vl vd1 ve1 k → Mut g bm vl vd ve k) ∧ Below base W wr))
  case atStart => exact ⟨vd, ve, wv, er, J, rfl, HJ.out, HOK.out, HST.out, rfl, Nat.le_refl _, Kept.refl _ _, fun _ _ h => h, Below.refl _ _⟩
  case round =>
    obtain ⟨vd1, ve1, wv1, er1, J1, rfl, hJ1, hok1, hst1, hthin, hlen1, hk1, hm1, hb1⟩ := hrel.out
    clear hrel
    have hg := hJ1.hg
    have c4 := blk_cell hg 4
    simp at c4
    have hmap := hJ1.hmap
    have hsz : Maps.size (mapD wv1) = J1.wait.length := by simp [Maps.size, hJ1.hwv.1]
    have hbs : base ≤ wr.heap.size := Nat.le_trans hb hb1.size
    by_cases hz : J1.wait.length = 0
    · have hw : ¬ 0 < J1.wait.length := by omega
      have ht : J1 = thinJ 0 J := (thin_stop hw).symm.trans hthin
      have htk := take_any wr base g bm vl vd1 ve1 wv1 er1 J1 hJ1
      have e0 : decide ((0 : Int) < (J1.wait.length : Int)) = false := decide_eq_false (by omega)
      have HX := Aside0.mk (And.intro ht (And.intro hk1 (And.intro hm1 hb1)))
      clear hJ1 hok1 hst1 hthin hlen1 hk1 hm1 hb1 hg hz ht
      go_wp2_with (first
        | (at_len; refine wpList_len_own _ rfl _ 99 rfl 3 29 Tryd.underlying99 elemR bm _ _ rfl hmap ?_; rw [hsz])
        | (go_at_call 48; refine htk.mono ?_; rintro e w2 ⟨rfl, hJ2, hev2, hevs2, hk2, hm2, hb2⟩; have HY := Aside0.mk (And.intro hJ2 (And.intro hev2 (And.intro hevs2 (And.intro hk2 (And.intro hm2 hb2))))); clear hJ2 hev2 hevs2 hk2 hm2 hb2))
      refine bodyPost_ret (results_tmp rfl _ _ _) rfl ?_
      obtain ⟨ht, hk1, hm1, hb1⟩ := HX.out
      obtain ⟨hJ2, hev2, hevs2, hk2, hm2, hb2⟩ := HY.out
      rw [← ht]
      exact ⟨vd1, ve1, wv1, er1, rfl, hJ2, hev2, hevs2, kept_trans hk1 hk2 hm1, fun k hk hm => hm1 k hk (hm2 k (Nat.lt_of_lt_of_le hk hk1.1) hm), hb1.trans hb2⟩
    · have hw : 0 < J1.wait.length := by omega
      have hne : J1.wait ≠ [] := fun e => by rw [e] at hw; simp at hw
      obtain ⟨k1, k2, k3, k4, k5, k6, k7, k8, k9⟩ := skip_ok hok1 hst1
      have hsk := skip_any wr base g bm vl vd1 ve1 wv1 er1 J1 K hJ1 hok1 hst1 hK hbs (by have := HLEN.out; omega) hne
      have e0 : decide ((0 : Int) < (J1.wait.length : Int)) = true := decide_eq_true (by omega)
      have he1 := hJ1.hev.1
      have HX := Aside0.mk (And.intro k1 (And.intro k2 (And.intro k3 (And.intro (k9 hne) (And.intro ((thin_step hok1 hst1 hw).symm.trans hthin) (And.intro hk1 (And.intro hm1 (And.intro hb1 (And.intro hlen1 he1)))))))))
      clear hJ1 hok1 hst1 hthin hlen1 hk1 hm1 hb1 hg hz k1 k2 k3 k4 k5 k6 k7 k8 k9 hne he1
      go_wp2_with (first
        | (at_len; refine wpList_len_own _ rfl _ 99 rfl 3 29 Tryd.underlying99 elemR bm _ _ rfl hmap ?_; rw [hsz])
        | (go_at_call 47; refine hsk.mono ?_; rintro e w2 ⟨vd2, ve2, wv2, er2, ⟨v2, rfl⟩, hJ2, hk2, hm2, hb2⟩; have HY := Aside0.mk (And.intro hJ2 (And.intro hk2 (And.intro hm2 hb2))); clear hJ2 hk2 hm2 hb2))
      obtain ⟨x1, x2, x3, x4, x5, x6, x7, x8, x9, x10⟩ := HX.out
      obtain ⟨hJ2, hk2, hm2, hb2⟩ := HY.out
      go_roundg ((skipJ J1).wait.length)
      case measure => exact x4
      case rel =>
        refine ⟨vd2, ve2, wv2, er2, skipJ J1, rfl, hJ2, x1, x2, x5, ?_, kept_trans x6 hk2 x7, fun k hk hm => x7 k hk (hm2 k (Nat.lt_of_lt_of_le hk x6.1) hm), x8.trans hb2⟩
        have := hJ2.hev.1
        omega

end Go.Proofs.YtgopklnfdlnojaaDoor.Jg
