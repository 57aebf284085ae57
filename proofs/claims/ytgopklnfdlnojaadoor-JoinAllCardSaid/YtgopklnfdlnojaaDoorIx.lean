/- A joiner is fed (35) a piece. -/
import Derived.Test.YtgopklnfdlnojaaDoorJi
namespace Go.Proofs.YtgopklnfdlnojaaDoor.Ix
open Go.RowKit Go.Proofs.YtgopklnfdlnojaaDoor.Ga Go.Proofs.YtgopklnfdlnojaaDoor.My Go.Proofs.YtgopklnfdlnojaaDoor.Gb Go.Proofs.YtgopklnfdlnojaaDoor.Gp Go.Proofs.YtgopklnfdlnojaaDoor.Ja Go.Proofs.YtgopklnfdlnojaaDoor.Jb Go.Proofs.YtgopklnfdlnojaaDoor.Jc Go.Proofs.YtgopklnfdlnojaaDoor.Jd Go.Proofs.YtgopklnfdlnojaaDoor.Je Go.Proofs.YtgopklnfdlnojaaDoor.Jf Go.Proofs.YtgopklnfdlnojaaDoor.Jg Go.Proofs.YtgopklnfdlnojaaDoor.Jh Go.Proofs.YtgopklnfdlnojaaDoor.Ji Go.Proofs.YtgopklnfdlnojaaDoorW.PrintWords Go.Proofs.YtgopklnfdlnojaaDoorW.PrintLast Go.Proofs.YtgopklnfdlnojaaDoorW.PrintMore
set_option linter.unusedVariables false
set_option linter.unusedSimpArgs false

/-- len(map) as one step of a region that draws. -/
theorem step_len {P : Program} {ops : Array Oper} {o : Oper} {a : Act} {w : World} {Kc : Act → World → Prop} {Q : Exit → Act → World → Prop} {H : Type} (hw : Region.wanted o (yielded ops a.tmps) = true) (m : Operand) (t : TypeId) (hop : o.op = Op.call { callee := Callee.builtin Builtin.len, args := #[m], argTypes := #[t] })
    (k e : TypeId) (ht : P.underlying t = some (.map k e)) (R : Value → Option (DataW H × List MemPlace)) (b n : Nat) (D : DataW H) (hm : a.eval m = .map (some b)) (hown : w.ownsMap P k R b n D)
    (h : Kc (a.put o.dst (.int .i64 (Maps.size D))) w) : if Region.wanted o (yielded ops a.tmps) = true then Oper.wp P o a w Kc Q else Kc (a.put o.dst undef) w := by
  rw [if_pos hw]
  unfold Oper.wp
  simp [execOp, hop, resolve, invoke, builtin, hm, hown.len ht o.type, Result.andThen]
  exact h

set_option maxHeartbeats 4000000 in
set_option maxRecDepth 100000 in
theorem feed_good (W : World) (base g bm : Nat) (vl vd : Value) (wv : List (Int × Value)) (J : Jn) (K : Int) (k : Nat) (p : S29) (A : Option Addr) (c : Nat) (h : JM W base g bm vl vd (.slice none 0 0) wv [] J) (ok : OkJ J K) (hK : K + J.nm ≤ 1000000000000) (hb : base ≤ W.heap.size)
    (hk : k < J.last.length) (hn0 : 0 ≤ p.f2) (hn1 : p.f2 < J.nm) (hr : 0 ≤ J.room) (hwl : 6 * J.wait.length ≤ 70000) (hp : p.f3.length ≤ 1000) (hc : p.f3.length ≤ c) (hs : Sl0 W (Mut g bm vl vd (.slice none 0 0)) A p.f3.length p.f3) :
    Calls Tryd.prog 35 #[.pointer (some ⟨g, 0, none⟩), .int .i64 (k : Int), pc p.f0 p.f1 p.f2 A p.f3.length c] W fun e W' => ∃ vd' ve' wv' er', e = .returned (.tuple #[ve', .int .i64 0]) ∧
      JM W' base g bm vl vd' (.slice none 0 0) wv' [] { thinJ J.room.toNat (runJ (laidJ J k p)) with evs := [] } ∧ (rawK 4).R 84 W' base (fun _ => True) ve' er' ∧ All2 (EvOK W' (Mut g bm vl vd' (.slice none 0 0))) (thinJ J.room.toNat (runJ (laidJ J k p))).evs er' ∧
      Kept W W' (Mut g bm vl vd (.slice none 0 0)) ∧ (∀ k, k < W.heap.size → Mut g bm vl vd' (.slice none 0 0) k → Mut g bm vl vd (.slice none 0 0) k) ∧ Below base W W' := by
  obtain ⟨gl, cap, rfl⟩ := last_row h ok.last0
  obtain ⟨b0, b1, b2, b3, b4, b5⟩ := place_bound (num := p.f2) ok (Int.natCast_nonneg k) (by omega)
  have hnm := ok.nm0
  obtain ⟨lst, hlst⟩ : ∃ q, J.last.getD k 0 = q := ⟨_, rfl⟩
  obtain ⟨place, hplace⟩ : ∃ q, placeJ J k p.f2 = q := ⟨_, rfl⟩
  simp only [Int.toNat_natCast] at b2 b4 b5
  rw [hlst] at b2 b4 b5
  rw [hplace] at b0 b1 b2
  have hpe : lst + 1 + Int.tmod (Int.tmod (p.f2 - (lst + 1)) J.nm + J.nm) J.nm = place := by
    rw [← hplace, ← hlst, placeJ, Int.toNat_natCast]
  have t1 := Int.tmod_lt_of_pos (p.f2 - (lst + 1)) hnm
  have t2 : -J.nm < Int.tmod (p.f2 - (lst + 1)) J.nm := Int.lt_tmod_of_pos _ hnm
  have hw1 : IntKind.i64.wrap (lst + 1) = lst + 1 := IntWalk.i64_in _ (by omega)
  have hw2 : IntKind.i64.wrap (p.f2 - (lst + 1)) = p.f2 - (lst + 1) := IntWalk.i64_in _ (by omega)
  have hw3 : IntKind.i64.wrap (Int.tmod (p.f2 - (lst + 1)) J.nm + J.nm) = Int.tmod (p.f2 - (lst + 1)) J.nm + J.nm := IntWalk.i64_in _ (by omega)
  have hw4 : IntKind.i64.wrap (lst + 1 + Int.tmod (Int.tmod (p.f2 - (lst + 1)) J.nm + J.nm) J.nm) = place := by rw [hpe]; exact IntWalk.i64_in _ (by omega)
  have hw5 : IntKind.i64.wrap (Int.tmod (p.f2 - (lst + 1)) J.nm) = Int.tmod (p.f2 - (lst + 1)) J.nm := IntWalk.i64_in _ (by omega)
  have hz : J.nm ≠ 0 := by omega
  have hdn0 : decide (p.f2 < 0) = false := decide_eq_false (by omega)
  have hdn1 : decide (J.nm ≤ p.f2) = false := decide_eq_false (by omega)
  have hdk0 : decide ((k : Int) < 0) = false := decide_eq_false (by omega)
  have hdk1 : decide ((J.last.length : Int) ≤ (k : Int)) = false := decide_eq_false (by omega)
  have hdk2 : decide (J.last.length ≤ k) = false := decide_eq_false (by omega)
  have HJ0 := Aside0.mk h
  have HSL0 := Aside0.mk hs
  have HOK := Aside0.mk ok
  have HB := Aside0.mk (And.intro b0 (And.intro b1 (And.intro b2 (And.intro b3 (And.intro b4 b5)))))
  have HL := Aside0.mk hlst
  have HPL := Aside0.mk hplace
  have HC := Aside0.mk (And.intro hp hc)
  have HN := Aside0.mk (And.intro hn0 (And.intro hn1 (And.intro hK hwl)))
  clear h hs ok b0 b1 b2 b3 b4 b5 hlst hplace hc hp hn0 hn1 hK hwl hpe t1 t2
  go_enter Tryd.func35, Tryd.ntmps35
  go_upto_block 0 with (fail)
  have hbw := below_alloc (Below.refl W.heap.size W) (.cells #[.bool p.f0, .bool p.f1, .int .i64 p.f2, .slice A p.f3.length c] 29)
  have hb1 := Aside0.mk hbw
  have HP := Aside0.mk (new1 W (.cells #[.bool p.f0, .bool p.f1, .int .i64 p.f2, .slice A p.f3.length c] 29))
  have hlt1 : W.heap.size < (W.alloc (.cells #[.bool p.f0, .bool p.f1, .int .i64 p.f2, .slice A p.f3.length c] 29)).heap.size := by rw [World.size_alloc]; omega
  have HLT := Aside0.mk hlt1
  have hP5 : ¬ Mut g bm (.slice (some ⟨gl, 0, none⟩) J.last.length cap) vd (.slice none 0 0) W.heap.size := fun e => absurd (mut_lt HJ0.out _ e) (Nat.lt_irrefl _)
  have HP5 := Aside0.mk hP5
  have HBS := Aside0.mk (show base ≤ W.heap.size from hb)
  clear hbw hlt1 hP5 hb
  obtain ⟨g5, hg5⟩ : ∃ q, W.heap.size = q := ⟨_, rfl⟩
  rw [hg5] at HP HP5 HLT
  simp only [hg5]
  have HG5 := Aside0.mk hg5
  clear hg5
  generalize W.alloc (.cells #[.bool p.f0, .bool p.f1, .int .i64 p.f2, .slice A p.f3.length c] 29) = W1 at hb1 HP HLT ⊢
  have HJ1 := Aside0.mk (jm_below HJ0.out hb1.out)
  have hg := HJ1.out.hg
  have c0 := blk_cell hg 0
  have c3 := blk_cell hg 3
  simp at c0 c3
  obtain ⟨p0, p1, p2, p3⟩ := cells4 HP.out
  clear hg
  go_wp2_with (fail)
  go_quiet (fail)
  have HB2 := Aside0.mk (below_drewN hb1.out nq)
  have HP2 := Aside0.mk (show (W1.drewN nq).heap[g5]? = _ from HP.out)
  have HLT2 := Aside0.mk (show g5 < (W1.drewN nq).heap.size from HLT.out)
  clear c0 c3 p0 p1 p2 p3 hb1 HP HLT HJ1
  generalize W1.drewN nq = W2 at HB2 HP2 HLT2 ⊢
  have HJ2 := Aside0.mk (jm_below HJ0.out HB2.out)
  have hg := HJ2.out.hg
  have c0 := blk_cell hg 0
  have c3 := blk_cell hg 3
  have c4 := blk_cell hg 4
  have c5 := blk_cell hg 5
  simp at c0 c3 c4 c5
  obtain ⟨p0, p1, p2, p3⟩ := cells4 HP2.out
  obtain ⟨cl, fl⟩ := last_at HJ2.out k hk
  rw [HL.out] at cl
  clear hg
  go_wp2_with (fail)
  go_quiet (fail)
  have HB3 := Aside0.mk (below_drewN HB2.out nq)
  have HP3 := Aside0.mk (show (W2.drewN nq).heap[g5]? = _ from HP2.out)
  have HLT3 := Aside0.mk (show g5 < (W2.drewN nq).heap.size from HLT2.out)
  clear c0 c3 c4 c5 p0 p1 p2 p3 cl fl HB2 HP2 HLT2 HJ2
  generalize W2.drewN nq = W3 at HB3 HP3 HLT3 ⊢
  have HJ3 := Aside0.mk (jm_below HJ0.out HB3.out)
  have hg := HJ3.out.hg
  have c3 := blk_cell hg 3
  simp at c3
  obtain ⟨cl, fl⟩ := last_at HJ3.out k hk
  clear hg
  go_upto_region 8 with (fail)
  obtain ⟨hJ4, hk4, hbgl⟩ := JM_last HJ3.out k hk place
  have HJ4 := Aside0.mk hJ4
  have HK4 := Aside0.mk (kept_trans (kept_of_below HB3.out (Mut g bm (.slice (some ⟨gl, 0, none⟩) J.last.length cap) vd (.slice none 0 0))) hk4 (fun _ _ h => h))
  have HKG4 := Aside0.mk (show Kept W (W3.setCell ⟨gl, k, none⟩ (.int .i64 place)) (fun j => j = gl) from ⟨by simpa [World.setCell] using HB3.out.size, fun j hj hs => (far_cell W3 gl k j _ hs).trans (HB3.out.block j hj)⟩)
  have HB4 := Aside0.mk ((HB3.out.mono HBS.out).setCell (p := ⟨gl, k, none⟩) hbgl (.int .i64 place))
  have HP4 := Aside0.mk ((hk4.2 g5 HLT3.out (fun e => HP5.out e)).trans HP3.out)
  have HLT4 := Aside0.mk (Nat.lt_of_lt_of_le HLT3.out hk4.1)
  clear hJ4 hk4 hbgl c3 cl fl HJ3 HB3 HP3 HLT3
  generalize W3.setCell ⟨gl, k, none⟩ (.int .i64 place) = W4 at HJ4 HK4 HKG4 HB4 HP4 HLT4 ⊢
  obtain ⟨x0, x1, x2, xA, xl, xc, hlk⟩ := look_at HJ4.out place HB.out.1 (by have := HB.out.2.1; have := HN.out.2.2.1; omega)
  have hlk4 := hlk W4 rfl
  have hhas : hasJ { J with last := J.last.set k place } place = hasJ J place := rfl
  rw [hhas] at hlk4
  have hg := HJ4.out.hg
  have c4 := blk_cell hg 4
  simp at c4
  clear hlk hhas hg
  go_upto_region 9 with (fail)
  have hb5 := below_alloc (Below.refl W4.heap.size W4) (.cells #[.bool x0, .bool x1, .int .i64 x2, .slice xA xl xc] 29)
  have HK5 := Aside0.mk (kept_trans HK4.out (kept_of_below hb5 (Mut g bm (.slice (some ⟨gl, 0, none⟩) J.last.length cap) vd (.slice none 0 0))) (fun _ _ h => h))
  have HJ5 := Aside0.mk (jm_below HJ4.out hb5)
  have HKG5 := Aside0.mk (kept_trans HKG4.out (kept_of_below hb5 (fun j => j = gl)) (fun _ _ h => h))
  have HB5 := Aside0.mk (HB4.out.trans (hb5.mono (Nat.le_trans HBS.out HK4.out.1)))
  have HP5' := Aside0.mk (blk_keep HP4.out hb5)
  have HLT5 := Aside0.mk (Nat.lt_of_lt_of_le HLT4.out hb5.size)
  clear hb5 hlk4 c4 HJ4 HK4 HKG4 HB4 HP4 HLT4
  obtain ⟨g6, hg6⟩ : ∃ q, W4.heap.size = q := ⟨_, rfl⟩
  simp only [hg6]
  clear hg6
  generalize W4.alloc (.cells #[.bool x0, .bool x1, .int .i64 x2, .slice xA xl xc] 29) = W5 at HJ5 HK5 HKG5 HB5 HP5' HLT5 ⊢
  have hg := HJ5.out.hg
  have c5 := blk_cell hg 5
  have c4 := blk_cell hg 4
  simp at c4 c5
  obtain ⟨p0, p1, p2, p3⟩ := cells4 HP5'.out
  clear hg
  have hlaid : laidJ J k p = if !hasJ J place && decide (J.next ≤ place) then { J with last := J.last.set k place, wait := insK (place, p) J.wait } else { J with last := J.last.set k place } := by
    simp only [laidJ, HPL.out, Int.toNat_natCast]
  have HLD := Aside0.mk hlaid
  clear hlaid
  cases hh : hasJ J place with
  | true =>
    have hJL : JM W5 base g bm (.slice (some ⟨gl, 0, none⟩) J.last.length cap) vd (.slice none 0 0) wv [] (laidJ J k p) := by
      rw [HLD.out, hh]
      exact HJ5.out
    have hX : ∃ wv1, JM W5 base g bm (.slice (some ⟨gl, 0, none⟩) J.last.length cap) vd (.slice none 0 0) wv1 [] (laidJ J k p) ∧ Kept W W5 (Mut g bm (.slice (some ⟨gl, 0, none⟩) J.last.length cap) vd (.slice none 0 0)) ∧ Below base W W5 := ⟨wv, hJL, HK5.out, HB5.out⟩
    clear hJL c4 c5 p0 p1 p2 p3
    obtain ⟨V, hV⟩ : ∃ V, V = W5 := ⟨_, rfl⟩
    subst hV
    --REST
    obtain ⟨wv1, hJc, hKc, hBc⟩ := hX
    have HKV := Aside0.mk hKc
    have HBV := Aside0.mk hBc
    obtain ⟨okL, lenL, evL⟩ := laid_ok (p := p) HOK.out (Int.natCast_nonneg k) (by omega) HC.out.1
    have hK' : K + J.nm ≤ 1000000000000 := HN.out.2.2.1
    have hphi : 2 * phi (laidJ J k p) ≤ 70012 := by
      have h1 := HN.out.2.2.2
      unfold phi
      split <;> split <;> (try split) <;> omega
    have hbV : base ≤ V.heap.size := Nat.le_trans HBS.out hKc.1
    have hrun := run_any V base g bm _ vd (.slice none 0 0) wv1 [] (laidJ J k p) (K + J.nm) hJc okL hK' hbV (by simp; omega)
    obtain ⟨r1, r2, r3, r4, r5, r6, r7, r8⟩ := run_ok okL
    have hroomL : (laidJ J k p).room = J.room := by rw [HLD.out]; split <;> rfl
    have HR := Aside0.mk (And.intro r1 (And.intro r2 (And.intro r3 (And.intro (r5.trans hroomL) (And.intro hphi evL)))))
    have hevJ : (laidJ J k p).evs.length = 0 := by
      rw [evL]
      exact (HJ0.out.hev.1).symm
    have HEV := Aside0.mk hevJ
    clear hJc hKc hBc okL lenL evL hphi r1 r2 r3 r4 r5 r6 r7 r8 hroomL hevJ
    go_wp2_with (first
      | (go_at_call 50; refine hrun.mono ?_; rintro e w2 ⟨vd2, ve2, wv2, er2, ⟨v2, rfl⟩, hJ2, hk2, hm2, hb2⟩; have HJ2 := Aside0.mk hJ2; have HK2 := Aside0.mk hk2; have HM2 := Aside0.mk hm2; have HB2 := Aside0.mk hb2; clear hJ2 hk2 hm2 hb2))
    go_loopg [103] ((runJ (laidJ J k p)).wait.length) (fun kk v3 wr => Aside0 (∃ vd1 ve1 wv3 er1 J1, kk = J1.wait.length ∧ JM wr base g bm (.slice (some ⟨gl, 0, none⟩) J.last.length cap) vd1 ve1 wv3 er1 J1 ∧ OkJ J1 (K + J.nm) ∧ stepJ J1 = none ∧ J1.room = J.room ∧ thinJ J.room.toNat J1 = thinJ J.room.toNat (runJ (laidJ J k p)) ∧ er1.length + 2 * phi J1 ≤ 70012 ∧ Kept W wr (Mut g bm (.slice (some ⟨gl, 0, none⟩) J.last.length cap) vd (.slice none 0 0)) ∧ (∀ k, k < W.heap.size → Mut g bm (.slice (some ⟨gl, 0, none⟩) J.last.length cap) vd1 ve1 k → Mut g bm (.slice (some ⟨gl, 0, none⟩) J.last.length cap) vd (.slice none 0 0) k) ∧ Below base W wr))
    case atStart =>
      refine ⟨vd2, ve2, wv2, er2, _, rfl, HJ2.out, HR.out.1, HR.out.2.1, HR.out.2.2.2.1, rfl, ?_, kept_trans HKV.out HK2.out (fun _ _ h => h), fun j hj hm => HM2.out j (Nat.lt_of_lt_of_le hj HKV.out.1) hm, HBV.out.trans HB2.out⟩
      have h1 := HJ2.out.hev.1
      have h2 := HR.out.2.2.1
      have h3 := HEV.out
      have h4 := HR.out.2.2.2.2.1
      omega
    case round =>
      obtain ⟨vd1, ve1, wv3, er1, J1, rfl, hJ1, hok1, hst1, hrm1, hthin, hlen1, hk1, hm1, hb1⟩ := hrel.out
      clear hrel
      have hg := hJ1.hg
      have c4 := blk_cell hg 4
      have c1 := blk_cell hg 1
      simp at c4 c1
      have hmap := hJ1.hmap
      have hsz : Maps.size (mapD wv3) = J1.wait.length := by simp [Maps.size, hJ1.hwv.1]
      have hln : ∀ q, (Builtin.len_ #[99] 3 #[.map (some bm)]).run Tryd.prog (wr.drewN q) = .ok (.int .i64 J1.wait.length) (wr.drewN q) := fun q => by
        have h0 : (wr.drewN q).ownsMap Tryd.prog 3 elemR bm wv3.length (mapD wv3) := hmap
        have h1 := h0.len Tryd.underlying99 3
        rw [hsz] at h1
        exact h1
      have hbs : base ≤ wr.heap.size := Nat.le_trans HBS.out hk1.1
      rw [hrm1] at c1
      have HH1 := Aside0.mk (And.intro hJ1 (And.intro hok1 (And.intro hst1 (And.intro hrm1 (And.intro hthin (And.intro hlen1 (And.intro hk1 (And.intro hm1 hb1))))))))
      clear hJ1 hok1 hst1 hrm1 hthin hlen1 hk1 hm1 hb1 hg
      by_cases hz : (J1.wait.length : Int) ≤ J.room
      · have hd1 : decide (J.room < (J1.wait.length : Int)) = false := decide_eq_false (by omega)
        have HZ := Aside0.mk hz
        clear hz
        go_wp2_with (fail)
        go_quiet (fail)
        obtain ⟨hJ1, hok1, hst1, hrm1, hthin, hlen1, hk1, hm1, hb1⟩ := HH1.out
        have htk := take_any (wr.drewN nq) base g bm _ vd1 ve1 wv3 er1 J1 (jm_below hJ1 (below_drewN (Below.refl _ _) nq))
        clear hJ1 hok1 hst1 hrm1 hthin hlen1 hk1 hm1 hb1
        go_wp2_with (first
          | (go_at_call 48; refine htk.mono ?_; rintro e w3 ⟨rfl, hJ3, hev3, hevs3, hk3, hm3, hb3⟩; have HY := Aside0.mk (And.intro hJ3 (And.intro hev3 (And.intro hevs3 (And.intro hk3 (And.intro hm3 hb3))))); clear hJ3 hev3 hevs3 hk3 hm3 hb3))
        go_ret2
        obtain ⟨hJ1, hok1, hst1, hrm1, hthin, hlen1, hk1, hm1, hb1⟩ := HH1.out
        obtain ⟨hJ3, hev3, hevs3, hk3, hm3, hb3⟩ := HY.out
        have ht : J1 = thinJ J.room.toNat (runJ (laidJ J k p)) := (thin_stop (by have := HZ.out; omega)).symm.trans hthin
        rw [← ht]
        exact ⟨vd1, ve1, wv3, er1, rfl, hJ3, hev3, hevs3, kept_trans hk1 hk3 hm1, fun j hj hm => hm1 j hj (hm3 j (Nat.lt_of_lt_of_le hj hk1.1) hm), (below_drewN hb1 nq).trans hb3⟩
      · have hd1 : decide (J.room < (J1.wait.length : Int)) = true := decide_eq_true (by omega)
        have HZ := Aside0.mk hz
        clear hz
        go_wp2_with (fail)
        go_quiet (fail)
        obtain ⟨hJ1, hok1, hst1, hrm1, hthin, hlen1, hk1, hm1, hb1⟩ := HH1.out
        have hlt : J.room.toNat < J1.wait.length := by have := HZ.out; omega
        have hne : J1.wait ≠ [] := fun e => by rw [e] at hlt; simp at hlt
        obtain ⟨k1, k2, k3, k4, k5, k6, k7, k8, k9⟩ := skip_ok hok1 hst1
        have hsk := skip_any (wr.drewN nq) base g bm _ vd1 ve1 wv3 er1 J1 (K + J.nm) (jm_below hJ1 (below_drewN (Below.refl _ _) nq)) hok1 hst1 hK' (show base ≤ (wr.drewN nq).heap.size from hbs) (by omega) hne
        have HS := Aside0.mk (And.intro k1 (And.intro k2 (And.intro k3 (And.intro (k9 hne) (And.intro ((thin_step hok1 hst1 hlt).symm.trans hthin) (And.intro hk1 (And.intro hm1 (And.intro hb1 (And.intro hlen1 (And.intro hJ1.hev.1 (k5.trans hrm1)))))))))))
        clear hJ1 hok1 hst1 hrm1 hthin hlen1 hk1 hm1 hb1 hlt hne k1 k2 k3 k4 k5 k6 k7 k8 k9
        go_wp2_with (first
          | (go_at_call 47; refine hsk.mono ?_; rintro e w3 ⟨vd3, ve3, wv4, er3, ⟨v3, rfl⟩, hJ3, hk3, hm3, hb3⟩; have HY := Aside0.mk (And.intro hJ3 (And.intro hk3 (And.intro hm3 hb3))); clear hJ3 hk3 hm3 hb3))
        obtain ⟨x1, x2, x3, x4, x5, x6, x7, x8, x9, x10, x11⟩ := HS.out
        obtain ⟨hJ3, hk3, hm3, hb3⟩ := HY.out
        go_roundg ((skipJ J1).wait.length)
        case measure => exact x4
        case rel =>
          refine ⟨vd3, ve3, wv4, er3, skipJ J1, rfl, hJ3, x1, x2, x11, x5, ?_, kept_trans x6 hk3 x7, fun j hj hm => x7 j hj (hm3 j (Nat.lt_of_lt_of_le hj x6.1) hm), (below_drewN x8 nq).trans hb3⟩
          have := hJ3.hev.1
          omega
    --END
  | false =>
    by_cases hge : J.next ≤ place
    · have hd1 : decide (J.next ≤ place) = true := decide_eq_true hge
      have HH := Aside0.mk (And.intro hh hge)
      clear hh hge
      go_upto_if 90 with (fail)
      go_cut [] from 11 (fun wc => ∃ wv1, JM wc base g bm (.slice (some ⟨gl, 0, none⟩) J.last.length cap) vd (.slice none 0 0) wv1 [] (laidJ J k p) ∧ Kept W wc (Mut g bm (.slice (some ⟨gl, 0, none⟩) J.last.length cap) vd (.slice none 0 0)) ∧ Below base W wc)
      case first =>
        have hsl5 : Sl0 W5 (Mut g bm (.slice (some ⟨gl, 0, none⟩) J.last.length cap) vd (.slice none 0 0)) A p.f3.length p.f3 := HSL0.out.kept HK5.out (fun _ _ h => h)
        have hC := Kd.F_now hsl5
        have hA : A = none → p.f3.length = 0 := fun e => by
          rcases Nat.eq_zero_or_pos p.f3.length with e0 | e0
          · exact e0
          · obtain ⟨ad, e2, -⟩ := hC.2.2 e0
            rw [e] at e2
            cases e2
        have hcl := clone_any A p.f3.length c p.f3 W5 hC HC.out.2 hA (by have := HC.out.1; omega)
        clear hsl5 hC hA
        go_wp2_with (first
          | (go_at_call 41; refine hcl.mono ?_; rintro e w6 ⟨A6, c6, rfl, hlc6, hR6, hb6⟩; have HX6 := Aside0.mk (And.intro hlc6 (And.intro hR6 hb6)); have hp6 := blk_keep HP5'.out hb6; obtain ⟨z0, z1, z2, z3⟩ := cells4 hp6; have fz6 : ∀ j, w6.frozen? ⟨g5, j, none⟩ = false := fun j => blk_frozen hp6 j; have HP6 := Aside0.mk hp6; clear hlc6 hR6 hb6 hp6))
        obtain ⟨hlc6, hR6, hb6⟩ := HX6.out
        have hHP7 := blk_set HP6.out 3 (.slice A6 p.f3.length c6)
        have hR7 := Kd.R_set hR6 HP6.out (by intro q hq; simp [Kd.int, Kd.scalar] at hq; subst hq; decide) 3 (.slice A6 p.f3.length c6)
        have hL7 := Kd.R_set (Kd.R_below HJ5.out.hlast hb6) HP6.out (by intro q hq; simp [Kd.int, Kd.scalar] at hq; subst hq; decide) 3 (.slice A6 p.f3.length c6)
        have hK7 : Kept W (w6.setCell ⟨g5, 3, none⟩ (.slice A6 p.f3.length c6)) (fun j => j = gl) := by
          have h1 := kept_trans HKG5.out (kept_of_below hb6 (fun j => j = gl)) (fun _ _ h => h)
          refine ⟨by simpa [World.setCell] using h1.1, fun j hj hs => (far_cell w6 g5 3 j _ (fun e => ?_)).trans (h1.2 j hj hs)⟩
          have := HG5.out
          omega
        have hB7 := (HB5.out.trans (hb6.mono (Nat.le_trans HBS.out HKG5.out.1))).setCell (p := ⟨g5, 3, none⟩) (by have h1 := HG5.out; have h2 := HBS.out; show base ≤ g5; omega) (.slice A6 p.f3.length c6)
        obtain ⟨hJ7, hkk7⟩ := JM_lasts HJ0.out hK7 hL7
        have hlt7 : ∀ j, some j = (Value.slice A6 p.f3.length c6).ownBlock → W5.heap.size ≤ j ∧ j < (w6.setCell ⟨g5, 3, none⟩ (.slice A6 p.f3.length c6)).heap.size := fun j hj => ⟨Kd.R_base hR7 j hj.symm, Kd.R_lt hR7 j hj.symm⟩
        have hsl7 : Sl (w6.setCell ⟨g5, 3, none⟩ (.slice A6 p.f3.length c6)) (Mut g bm (.slice (some ⟨gl, 0, none⟩) J.last.length cap) vd (.slice none 0 0)) A6 p.f3.length p.f3 := by
          refine Kd.F_mono (Kd.R_F (Kd.R_tight rfl hR7)) fun j hj => ?_
          obtain ⟨q1, q2⟩ := hlt7 j hj
          refine ⟨q2, fun hm => ?_, own_type hR7 j hj⟩
          have := mut_lt HJ5.out j hm
          omega
        have HP7 := Aside0.mk hHP7
        have HJ7 := Aside0.mk hJ7
        have HK7 := Aside0.mk hkk7
        have HB7 := Aside0.mk hB7
        have HSL7 := Aside0.mk (And.intro hlc6 hsl7)
        clear z0 z1 z2 z3 fz6 HP6 HX6 hlc6 hR6 hb6 hHP7 hR7 hL7 hK7 hB7 hJ7 hkk7 hlt7 hsl7 c4 c5 p0 p1 p2 p3
        generalize w6.setCell ⟨g5, 3, none⟩ (.slice A6 p.f3.length c6) = W7 at HP7 HJ7 HK7 HB7 HSL7 ⊢
        have hg := HJ7.out.hg
        have c4 := blk_cell hg 4
        simp at c4
        have hP7 := HP7.out
        simp at hP7
        obtain ⟨p0, p1, p2, p3⟩ := cells4 hP7
        have hmap : W7.drew.ownsMap Tryd.prog 3 elemR bm _ _ := HJ7.out.hmap
        have hkey := key64 HB.out.1 (show place ≤ 1000000000001 by have := HB.out.2.1; have := HN.out.2.2.1; omega)
        have hwl : wv.length < maxLen := by
          have h1 := HJ0.out.hwv.1
          have h2 := HN.out.2.2.2
          unfold maxLen
          omega
        clear hg hP7
        go_still_tail 6, (by kernel_rfl)
        change wpList _ _ _ _ _ W7.drew
        go_wp2_with (at_mapUpdate; refine wpList_mapUpdate_own _ rfl _ _ _ 99 rfl 3 29 (Maps.int_keyed Tryd.underlying3) Tryd.underlying99 elemR bm _ _ rfl hmap hwl _ _ _ rfl rfl hkey (.held (pc p.f0 p.f1 p.f2 A6 p.f3.length c6)) [] rfl ?_; intro w8 hown8 hgr8)
        go_meet
        obtain ⟨h1, h2⟩ := JM_put (jm_drew HJ7.out) hgr8 HH.out.1 hown8 ⟨rfl, A6, c6, rfl, HSL7.out.1, HSL7.out.2⟩
        refine ⟨insK (place, pc p.f0 p.f1 p.f2 A6 p.f3.length c6) wv, ?_, kept_trans HK7.out h2 (fun _ _ h => h), ?_⟩
        · rw [HLD.out, HH.out.1, decide_eq_true HH.out.2]
          exact h1
        · have hbs : base ≤ W7.drew.heap.size := Nat.le_trans HBS.out HK7.out.1
          exact HB7.out.trans ((below_drew (Below.refl base W7)).grown hgr8 hbs (fun k e => by cases e; exact HJ0.out.hbm))
      case rest =>
        have hX := hcut
        clear hcut c4 c5 p0 p1 p2 p3
        obtain ⟨V, hV⟩ : ∃ V, V = wc := ⟨_, rfl⟩
        subst hV
        obtain ⟨wv1, hJc, hKc, hBc⟩ := hX
        have HKV := Aside0.mk hKc
        have HBV := Aside0.mk hBc
        obtain ⟨okL, lenL, evL⟩ := laid_ok (p := p) HOK.out (Int.natCast_nonneg k) (by omega) HC.out.1
        have hK' : K + J.nm ≤ 1000000000000 := HN.out.2.2.1
        have hphi : 2 * phi (laidJ J k p) ≤ 70012 := by
          have h1 := HN.out.2.2.2
          unfold phi
          split <;> split <;> (try split) <;> omega
        have hbV : base ≤ V.heap.size := Nat.le_trans HBS.out hKc.1
        have hrun := run_any V base g bm _ vd (.slice none 0 0) wv1 [] (laidJ J k p) (K + J.nm) hJc okL hK' hbV (by simp; omega)
        obtain ⟨r1, r2, r3, r4, r5, r6, r7, r8⟩ := run_ok okL
        have hroomL : (laidJ J k p).room = J.room := by rw [HLD.out]; split <;> rfl
        have HR := Aside0.mk (And.intro r1 (And.intro r2 (And.intro r3 (And.intro (r5.trans hroomL) (And.intro hphi evL)))))
        have hevJ : (laidJ J k p).evs.length = 0 := by
          rw [evL]
          exact (HJ0.out.hev.1).symm
        have HEV := Aside0.mk hevJ
        clear hJc hKc hBc okL lenL evL hphi r1 r2 r3 r4 r5 r6 r7 r8 hroomL hevJ
        go_wp2_with (first
          | (go_at_call 50; refine hrun.mono ?_; rintro e w2 ⟨vd2, ve2, wv2, er2, ⟨v2, rfl⟩, hJ2, hk2, hm2, hb2⟩; have HJ2 := Aside0.mk hJ2; have HK2 := Aside0.mk hk2; have HM2 := Aside0.mk hm2; have HB2 := Aside0.mk hb2; clear hJ2 hk2 hm2 hb2))
        go_loopg [103] ((runJ (laidJ J k p)).wait.length) (fun kk v3 wr => Aside0 (∃ vd1 ve1 wv3 er1 J1, kk = J1.wait.length ∧ JM wr base g bm (.slice (some ⟨gl, 0, none⟩) J.last.length cap) vd1 ve1 wv3 er1 J1 ∧ OkJ J1 (K + J.nm) ∧ stepJ J1 = none ∧ J1.room = J.room ∧ thinJ J.room.toNat J1 = thinJ J.room.toNat (runJ (laidJ J k p)) ∧ er1.length + 2 * phi J1 ≤ 70012 ∧ Kept W wr (Mut g bm (.slice (some ⟨gl, 0, none⟩) J.last.length cap) vd (.slice none 0 0)) ∧ (∀ k, k < W.heap.size → Mut g bm (.slice (some ⟨gl, 0, none⟩) J.last.length cap) vd1 ve1 k → Mut g bm (.slice (some ⟨gl, 0, none⟩) J.last.length cap) vd (.slice none 0 0) k) ∧ Below base W wr))
        case atStart =>
          refine ⟨vd2, ve2, wv2, er2, _, rfl, HJ2.out, HR.out.1, HR.out.2.1, HR.out.2.2.2.1, rfl, ?_, kept_trans HKV.out HK2.out (fun _ _ h => h), fun j hj hm => HM2.out j (Nat.lt_of_lt_of_le hj HKV.out.1) hm, HBV.out.trans HB2.out⟩
          have h1 := HJ2.out.hev.1
          have h2 := HR.out.2.2.1
          have h3 := HEV.out
          have h4 := HR.out.2.2.2.2.1
          omega
        case round =>
          obtain ⟨vd1, ve1, wv3, er1, J1, rfl, hJ1, hok1, hst1, hrm1, hthin, hlen1, hk1, hm1, hb1⟩ := hrel.out
          clear hrel
          have hg := hJ1.hg
          have c4 := blk_cell hg 4
          have c1 := blk_cell hg 1
          simp at c4 c1
          have hmap := hJ1.hmap
          have hsz : Maps.size (mapD wv3) = J1.wait.length := by simp [Maps.size, hJ1.hwv.1]
          have hln : ∀ q, (Builtin.len_ #[99] 3 #[.map (some bm)]).run Tryd.prog (wr.drewN q) = .ok (.int .i64 J1.wait.length) (wr.drewN q) := fun q => by
            have h0 : (wr.drewN q).ownsMap Tryd.prog 3 elemR bm wv3.length (mapD wv3) := hmap
            have h1 := h0.len Tryd.underlying99 3
            rw [hsz] at h1
            exact h1
          have hbs : base ≤ wr.heap.size := Nat.le_trans HBS.out hk1.1
          rw [hrm1] at c1
          have HH1 := Aside0.mk (And.intro hJ1 (And.intro hok1 (And.intro hst1 (And.intro hrm1 (And.intro hthin (And.intro hlen1 (And.intro hk1 (And.intro hm1 hb1))))))))
          clear hJ1 hok1 hst1 hrm1 hthin hlen1 hk1 hm1 hb1 hg
          by_cases hz : (J1.wait.length : Int) ≤ J.room
          · have hd1 : decide (J.room < (J1.wait.length : Int)) = false := decide_eq_false (by omega)
            have HZ := Aside0.mk hz
            clear hz
            go_wp2_with (fail)
            go_quiet (fail)
            obtain ⟨hJ1, hok1, hst1, hrm1, hthin, hlen1, hk1, hm1, hb1⟩ := HH1.out
            have htk := take_any (wr.drewN nq) base g bm _ vd1 ve1 wv3 er1 J1 (jm_below hJ1 (below_drewN (Below.refl _ _) nq))
            clear hJ1 hok1 hst1 hrm1 hthin hlen1 hk1 hm1 hb1
            go_wp2_with (first
              | (go_at_call 48; refine htk.mono ?_; rintro e w3 ⟨rfl, hJ3, hev3, hevs3, hk3, hm3, hb3⟩; have HY := Aside0.mk (And.intro hJ3 (And.intro hev3 (And.intro hevs3 (And.intro hk3 (And.intro hm3 hb3))))); clear hJ3 hev3 hevs3 hk3 hm3 hb3))
            go_ret2
            obtain ⟨hJ1, hok1, hst1, hrm1, hthin, hlen1, hk1, hm1, hb1⟩ := HH1.out
            obtain ⟨hJ3, hev3, hevs3, hk3, hm3, hb3⟩ := HY.out
            have ht : J1 = thinJ J.room.toNat (runJ (laidJ J k p)) := (thin_stop (by have := HZ.out; omega)).symm.trans hthin
            rw [← ht]
            exact ⟨vd1, ve1, wv3, er1, rfl, hJ3, hev3, hevs3, kept_trans hk1 hk3 hm1, fun j hj hm => hm1 j hj (hm3 j (Nat.lt_of_lt_of_le hj hk1.1) hm), (below_drewN hb1 nq).trans hb3⟩
          · have hd1 : decide (J.room < (J1.wait.length : Int)) = true := decide_eq_true (by omega)
            have HZ := Aside0.mk hz
            clear hz
            go_wp2_with (fail)
            go_quiet (fail)
            obtain ⟨hJ1, hok1, hst1, hrm1, hthin, hlen1, hk1, hm1, hb1⟩ := HH1.out
            have hlt : J.room.toNat < J1.wait.length := by have := HZ.out; omega
            have hne : J1.wait ≠ [] := fun e => by rw [e] at hlt; simp at hlt
            obtain ⟨k1, k2, k3, k4, k5, k6, k7, k8, k9⟩ := skip_ok hok1 hst1
            have hsk := skip_any (wr.drewN nq) base g bm _ vd1 ve1 wv3 er1 J1 (K + J.nm) (jm_below hJ1 (below_drewN (Below.refl _ _) nq)) hok1 hst1 hK' (show base ≤ (wr.drewN nq).heap.size from hbs) (by omega) hne
            have HS := Aside0.mk (And.intro k1 (And.intro k2 (And.intro k3 (And.intro (k9 hne) (And.intro ((thin_step hok1 hst1 hlt).symm.trans hthin) (And.intro hk1 (And.intro hm1 (And.intro hb1 (And.intro hlen1 (And.intro hJ1.hev.1 (k5.trans hrm1)))))))))))
            clear hJ1 hok1 hst1 hrm1 hthin hlen1 hk1 hm1 hb1 hlt hne k1 k2 k3 k4 k5 k6 k7 k8 k9
            go_wp2_with (first
              | (go_at_call 47; refine hsk.mono ?_; rintro e w3 ⟨vd3, ve3, wv4, er3, ⟨v3, rfl⟩, hJ3, hk3, hm3, hb3⟩; have HY := Aside0.mk (And.intro hJ3 (And.intro hk3 (And.intro hm3 hb3))); clear hJ3 hk3 hm3 hb3))
            obtain ⟨x1, x2, x3, x4, x5, x6, x7, x8, x9, x10, x11⟩ := HS.out
            obtain ⟨hJ3, hk3, hm3, hb3⟩ := HY.out
            go_roundg ((skipJ J1).wait.length)
            case measure => exact x4
            case rel =>
              refine ⟨vd3, ve3, wv4, er3, skipJ J1, rfl, hJ3, x1, x2, x11, x5, ?_, kept_trans x6 hk3 x7, fun j hj hm => x7 j hj (hm3 j (Nat.lt_of_lt_of_le hj x6.1) hm), (below_drewN x8 nq).trans hb3⟩
              have := hJ3.hev.1
              omega
    · have hd1 : decide (J.next ≤ place) = false := decide_eq_false hge
      have hJL : JM W5 base g bm (.slice (some ⟨gl, 0, none⟩) J.last.length cap) vd (.slice none 0 0) wv [] (laidJ J k p) := by
        rw [HLD.out, hh, hd1]
        exact HJ5.out
      have hX : ∃ wv1, JM W5 base g bm (.slice (some ⟨gl, 0, none⟩) J.last.length cap) vd (.slice none 0 0) wv1 [] (laidJ J k p) ∧ Kept W W5 (Mut g bm (.slice (some ⟨gl, 0, none⟩) J.last.length cap) vd (.slice none 0 0)) ∧ Below base W W5 := ⟨wv, hJL, HK5.out, HB5.out⟩
      have HH := Aside0.mk (And.intro hh hge)
      clear hh hge hJL
      go_upto_if 90 with (fail)
      clear c4 c5 p0 p1 p2 p3
      obtain ⟨V, hV⟩ : ∃ V, V = W5 := ⟨_, rfl⟩
      subst hV
      obtain ⟨wv1, hJc, hKc, hBc⟩ := hX
      have HKV := Aside0.mk hKc
      have HBV := Aside0.mk hBc
      obtain ⟨okL, lenL, evL⟩ := laid_ok (p := p) HOK.out (Int.natCast_nonneg k) (by omega) HC.out.1
      have hK' : K + J.nm ≤ 1000000000000 := HN.out.2.2.1
      have hphi : 2 * phi (laidJ J k p) ≤ 70012 := by
        have h1 := HN.out.2.2.2
        unfold phi
        split <;> split <;> (try split) <;> omega
      have hbV : base ≤ V.heap.size := Nat.le_trans HBS.out hKc.1
      have hrun := run_any V base g bm _ vd (.slice none 0 0) wv1 [] (laidJ J k p) (K + J.nm) hJc okL hK' hbV (by simp; omega)
      obtain ⟨r1, r2, r3, r4, r5, r6, r7, r8⟩ := run_ok okL
      have hroomL : (laidJ J k p).room = J.room := by rw [HLD.out]; split <;> rfl
      have HR := Aside0.mk (And.intro r1 (And.intro r2 (And.intro r3 (And.intro (r5.trans hroomL) (And.intro hphi evL)))))
      have hevJ : (laidJ J k p).evs.length = 0 := by
        rw [evL]
        exact (HJ0.out.hev.1).symm
      have HEV := Aside0.mk hevJ
      clear hJc hKc hBc okL lenL evL hphi r1 r2 r3 r4 r5 r6 r7 r8 hroomL hevJ
      go_wp2_with (first
        | (go_at_call 50; refine hrun.mono ?_; rintro e w2 ⟨vd2, ve2, wv2, er2, ⟨v2, rfl⟩, hJ2, hk2, hm2, hb2⟩; have HJ2 := Aside0.mk hJ2; have HK2 := Aside0.mk hk2; have HM2 := Aside0.mk hm2; have HB2 := Aside0.mk hb2; clear hJ2 hk2 hm2 hb2))
      go_loopg [103] ((runJ (laidJ J k p)).wait.length) (fun kk v3 wr => Aside0 (∃ vd1 ve1 wv3 er1 J1, kk = J1.wait.length ∧ JM wr base g bm (.slice (some ⟨gl, 0, none⟩) J.last.length cap) vd1 ve1 wv3 er1 J1 ∧ OkJ J1 (K + J.nm) ∧ stepJ J1 = none ∧ J1.room = J.room ∧ thinJ J.room.toNat J1 = thinJ J.room.toNat (runJ (laidJ J k p)) ∧ er1.length + 2 * phi J1 ≤ 70012 ∧ Kept W wr (Mut g bm (.slice (some ⟨gl, 0, none⟩) J.last.length cap) vd (.slice none 0 0)) ∧ (∀ k, k < W.heap.size → Mut g bm (.slice (some ⟨gl, 0, none⟩) J.last.length cap) vd1 ve1 k → Mut g bm (.slice (some ⟨gl, 0, none⟩) J.last.length cap) vd (.slice none 0 0) k) ∧ Below base W wr))
      case atStart =>
        refine ⟨vd2, ve2, wv2, er2, _, rfl, HJ2.out, HR.out.1, HR.out.2.1, HR.out.2.2.2.1, rfl, ?_, kept_trans HKV.out HK2.out (fun _ _ h => h), fun j hj hm => HM2.out j (Nat.lt_of_lt_of_le hj HKV.out.1) hm, HBV.out.trans HB2.out⟩
        have h1 := HJ2.out.hev.1
        have h2 := HR.out.2.2.1
        have h3 := HEV.out
        have h4 := HR.out.2.2.2.2.1
        omega
      case round =>
        obtain ⟨vd1, ve1, wv3, er1, J1, rfl, hJ1, hok1, hst1, hrm1, hthin, hlen1, hk1, hm1, hb1⟩ := hrel.out
        clear hrel
        have hg := hJ1.hg
        have c4 := blk_cell hg 4
        have c1 := blk_cell hg 1
        simp at c4 c1
        have hmap := hJ1.hmap
        have hsz : Maps.size (mapD wv3) = J1.wait.length := by simp [Maps.size, hJ1.hwv.1]
        have hln : ∀ q, (Builtin.len_ #[99] 3 #[.map (some bm)]).run Tryd.prog (wr.drewN q) = .ok (.int .i64 J1.wait.length) (wr.drewN q) := fun q => by
          have h0 : (wr.drewN q).ownsMap Tryd.prog 3 elemR bm wv3.length (mapD wv3) := hmap
          have h1 := h0.len Tryd.underlying99 3
          rw [hsz] at h1
          exact h1
        have hbs : base ≤ wr.heap.size := Nat.le_trans HBS.out hk1.1
        rw [hrm1] at c1
        have HH1 := Aside0.mk (And.intro hJ1 (And.intro hok1 (And.intro hst1 (And.intro hrm1 (And.intro hthin (And.intro hlen1 (And.intro hk1 (And.intro hm1 hb1))))))))
        clear hJ1 hok1 hst1 hrm1 hthin hlen1 hk1 hm1 hb1 hg
        by_cases hz : (J1.wait.length : Int) ≤ J.room
        · have hd1 : decide (J.room < (J1.wait.length : Int)) = false := decide_eq_false (by omega)
          have HZ := Aside0.mk hz
          clear hz
          go_wp2_with (fail)
          go_quiet (fail)
          obtain ⟨hJ1, hok1, hst1, hrm1, hthin, hlen1, hk1, hm1, hb1⟩ := HH1.out
          have htk := take_any (wr.drewN nq) base g bm _ vd1 ve1 wv3 er1 J1 (jm_below hJ1 (below_drewN (Below.refl _ _) nq))
          clear hJ1 hok1 hst1 hrm1 hthin hlen1 hk1 hm1 hb1
          go_wp2_with (first
            | (go_at_call 48; refine htk.mono ?_; rintro e w3 ⟨rfl, hJ3, hev3, hevs3, hk3, hm3, hb3⟩; have HY := Aside0.mk (And.intro hJ3 (And.intro hev3 (And.intro hevs3 (And.intro hk3 (And.intro hm3 hb3))))); clear hJ3 hev3 hevs3 hk3 hm3 hb3))
          go_ret2
          obtain ⟨hJ1, hok1, hst1, hrm1, hthin, hlen1, hk1, hm1, hb1⟩ := HH1.out
          obtain ⟨hJ3, hev3, hevs3, hk3, hm3, hb3⟩ := HY.out
          have ht : J1 = thinJ J.room.toNat (runJ (laidJ J k p)) := (thin_stop (by have := HZ.out; omega)).symm.trans hthin
          rw [← ht]
          exact ⟨vd1, ve1, wv3, er1, rfl, hJ3, hev3, hevs3, kept_trans hk1 hk3 hm1, fun j hj hm => hm1 j hj (hm3 j (Nat.lt_of_lt_of_le hj hk1.1) hm), (below_drewN hb1 nq).trans hb3⟩
        · have hd1 : decide (J.room < (J1.wait.length : Int)) = true := decide_eq_true (by omega)
          have HZ := Aside0.mk hz
          clear hz
          go_wp2_with (fail)
          go_quiet (fail)
          obtain ⟨hJ1, hok1, hst1, hrm1, hthin, hlen1, hk1, hm1, hb1⟩ := HH1.out
          have hlt : J.room.toNat < J1.wait.length := by have := HZ.out; omega
          have hne : J1.wait ≠ [] := fun e => by rw [e] at hlt; simp at hlt
          obtain ⟨k1, k2, k3, k4, k5, k6, k7, k8, k9⟩ := skip_ok hok1 hst1
          have hsk := skip_any (wr.drewN nq) base g bm _ vd1 ve1 wv3 er1 J1 (K + J.nm) (jm_below hJ1 (below_drewN (Below.refl _ _) nq)) hok1 hst1 hK' (show base ≤ (wr.drewN nq).heap.size from hbs) (by omega) hne
          have HS := Aside0.mk (And.intro k1 (And.intro k2 (And.intro k3 (And.intro (k9 hne) (And.intro ((thin_step hok1 hst1 hlt).symm.trans hthin) (And.intro hk1 (And.intro hm1 (And.intro hb1 (And.intro hlen1 (And.intro hJ1.hev.1 (k5.trans hrm1)))))))))))
          clear hJ1 hok1 hst1 hrm1 hthin hlen1 hk1 hm1 hb1 hlt hne k1 k2 k3 k4 k5 k6 k7 k8 k9
          go_wp2_with (first
            | (go_at_call 47; refine hsk.mono ?_; rintro e w3 ⟨vd3, ve3, wv4, er3, ⟨v3, rfl⟩, hJ3, hk3, hm3, hb3⟩; have HY := Aside0.mk (And.intro hJ3 (And.intro hk3 (And.intro hm3 hb3))); clear hJ3 hk3 hm3 hb3))
          obtain ⟨x1, x2, x3, x4, x5, x6, x7, x8, x9, x10, x11⟩ := HS.out
          obtain ⟨hJ3, hk3, hm3, hb3⟩ := HY.out
          go_roundg ((skipJ J1).wait.length)
          case measure => exact x4
          case rel =>
            refine ⟨vd3, ve3, wv4, er3, skipJ J1, rfl, hJ3, x1, x2, x11, x5, ?_, kept_trans x6 hk3 x7, fun j hj hm => x7 j hj (hm3 j (Nat.lt_of_lt_of_le hj x6.1) hm), (below_drewN x8 nq).trans hb3⟩
            have := hJ3.hev.1
            omega

end Go.Proofs.YtgopklnfdlnojaaDoor.Ix
