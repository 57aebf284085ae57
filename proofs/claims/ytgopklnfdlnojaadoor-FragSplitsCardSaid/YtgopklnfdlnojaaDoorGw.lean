/- The law of the tells, walked. -/
import Derived.Test.YtgopklnfdlnojaaDoorGs
import Derived.Test.YtgopklnfdlnojaaDoorGu
import Derived.Test.YtgopklnfdlnojaaDoorGv
namespace Go.Proofs.YtgopklnfdlnojaaDoor.Gw
open Go.RowKit Go.Proofs.YtgopklnfdlnojaaDoor.Ga Go.Proofs.YtgopklnfdlnojaaDoor.My Go.Proofs.YtgopklnfdlnojaaDoor.Gb Go.Proofs.YtgopklnfdlnojaaDoor.Gp Go.Proofs.YtgopklnfdlnojaaDoor.Gs Go.Proofs.YtgopklnfdlnojaaDoor.Gu Go.Proofs.YtgopklnfdlnojaaDoor.Gv Go.Proofs.YtgopklnfdlnojaaDoorW.PrintWords Go.Proofs.YtgopklnfdlnojaaDoorW.PrintLast Go.Proofs.YtgopklnfdlnojaaDoorW.PrintMore
set_option linter.unusedVariables false
set_option linter.unusedSimpArgs false

def putP (short b e : Bool) (num : Int) (xs : List Int) : List Int × Int := if 0 ≤ num ∧ num < numbers short then (putB short b e num xs, 0) else ([], 5)

theorem put_any (short b e : Bool) (num : Int) (A : Option Addr) (n c : Nat) (xs : List Int) (w : World) (hS : Shapes w) (hx : (Kd.int .u8).C w A n xs) (hc : n ≤ c) (hn : n ≤ 100000) :
    Calls Tryd.prog 13 #[.bool short, pc b e num A n c] w fun e' w' => ∃ A' c', e' = .returned (.tuple #[.slice A' (putP short b e num xs).1.length c', .int .i64 (putP short b e num xs).2]) ∧ (putP short b e num xs).1.length ≤ c' ∧ (Kd.int .u8).C w' A' (putP short b e num xs).1.length (putP short b e num xs).1 ∧ Below w.heap.size w w' := by
  by_cases h : 0 ≤ num ∧ num < numbers short
  · rw [putP, if_pos h]
    refine (put_yes short b e num A n c xs w hS h.1 h.2 hx hc hn).mono ?_
    rintro e' w' ⟨A', c', rfl, hcc, hC, hb⟩
    have hl := hC.1
    rw [← hl] at hcc hC ⊢
    exact ⟨A', c', rfl, hcc, hC, hb⟩
  · rw [putP, if_neg h]
    refine (put_no short b e num A n c w hS h).mono ?_
    rintro e' w' ⟨rfl, hb⟩
    exact ⟨none, 0, rfl, Nat.le_refl _, Kd.C_nil _ _, hb⟩

theorem ref_put_any (short b e : Bool) (num : Int) (xs : List Int) (hn : xs.length ≤ 100000) : marlineref23_Put.f 3 short b e num xs = some (putP short b e num xs) := by
  by_cases h : 0 ≤ num ∧ num < numbers short
  · rw [putP, if_pos h, ref_put_yes short b e num xs h.1 h.2 hn]
  · rw [putP, if_neg h, ref_put_no short b e num xs h]

theorem eq_self (zs : List Int) : ∀ k i : Nat, i ≤ zs.length → zs.length < k + i → zs.length < 4611686018427387904 → marlineref01_Equal.l0 k zs zs (i : Int) = some true
  | 0, i, h, h2, _ => by omega
  | k + 1, i, h, h2, h3 => by
    rw [marlineref01_Equal.l0]
    by_cases hi : (i : Int) < (zs.length : Int)
    · rw [if_pos hi, if_pos (by omega), if_pos hi, if_pos rfl]
      have e : wrap64 ((i : Int) + 1) = ((i + 1 : Nat) : Int) := by unfold wrap64; omega
      rw [e]
      exact eq_self zs k (i + 1) (by omega) (by omega) h3
    · rw [if_neg hi]

theorem equal_self (zs : List Int) (h : zs.length < 4611686018427387904) : marlineref01_Equal.f (zs.length + 1) zs zs = some true := by
  rw [marlineref01_Equal.f, if_pos rfl]
  exact eq_self zs (zs.length + 1) 0 (by omega) (by omega) h

theorem piece_row (W : World) (x : S24) {A : Option Addr} {c : Nat} (hl : x.f3.length ≤ c) (h : (Kd.int .u8).C W A x.f3.length x.f3) :
    Kd.C k24 (W.alloc (.cells #[.bool x.f0, .bool x.f1, .int .i64 x.f2, .slice A x.f3.length c] 24)) (some ⟨W.heap.size, 0, none⟩) 1 [x] := by
  have hr : (rawK 4).C (W.alloc (.cells #[.bool x.f0, .bool x.f1, .int .i64 x.f2, .slice A x.f3.length c] 24)) (some ⟨W.heap.size, 0, none⟩) 1 [[.bool x.f0, .bool x.f1, .int .i64 x.f2, .slice A x.f3.length c]] := by
    refine ⟨rfl, by decide, fun _ => ⟨_, rfl, fun j r hj => ?_⟩⟩
    have h0 : j = 0 ∧ r = [.bool x.f0, .bool x.f1, .int .i64 x.f2, .slice A x.f3.length c] := by
      rcases j with _ | j
      · simp at hj; exact ⟨rfl, hj.symm⟩
      · simp at hj
    obtain ⟨rfl, rfl⟩ := h0
    refine ⟨_, rfl, ⟨rfl, rfl, by simp [Value.oneCell']⟩, fun i u hi => ?_⟩
    obtain ⟨c0, c1, c2, c3⟩ := cells4 (new1 W (.cells #[.bool x.f0, .bool x.f1, .int .i64 x.f2, .slice A x.f3.length c] 24))
    rcases i with _ | _ | _ | _ | i <;> simp at hi <;> subst hi <;> assumption
  refine of_raw (d := k24) hr ⟨rfl, fun j y r hy hrr => ?_⟩
  rcases j with _ | j
  · simp at hy hrr
    subst hy; subst hrr
    exact k24_mk _ x hl (Kd.C_below h (below_alloc (Below.refl _ W) _))
  · simp at hy

set_option maxHeartbeats 4000000 in
set_option maxRecDepth 100000 in
theorem tells_walk (short b e : Bool) (num : Int) (A : Option Addr) (n c : Nat) (xs : List Int) (B : Option Addr) (m d : Nat) (ys : List Int) (w : World) (hS : Shapes w)
    (hx : (Kd.int .u8).C w A n xs) (hc : n ≤ c) (hy : (Kd.int .u8).C w B m ys) (hd : m ≤ d) (hyy : ∀ y ∈ ys, 0 ≤ y ∧ y ≤ 255) :
    Calls Tryd.prog 3 #[.bool short, pc b e num A n c, .slice B m d] w fun ex w' => ex = .returned (.bool true) ∧ Below w.heap.size w w' := by
  have HS := Aside0.mk hS
  have HX := Aside0.mk hx
  have HC := Aside0.mk hc
  have HY := Aside0.mk hy
  have HD := Aside0.mk hd
  have HYY := Aside0.mk hyy
  clear hS hx hc hy hd hyy
  have HR := Aside0.mk (new1 w (.cells #[.bool b, .bool e, .int .i64 num, .slice A n c] 24))
  have X := Aside0.mk (below_alloc (Below.refl _ w) (.cells #[.bool b, .bool e, .int .i64 num, .slice A n c] 24))
  have HS1 := Aside0.mk (HS.out.below X.out)
  go_enter Tryd.func3, Tryd.ntmps3
  go_upto_region 1 with (fail)
  obtain ⟨g4, hg4⟩ : ∃ g, w.heap.size = g := ⟨_, rfl⟩
  have G4 := Aside0.mk (show w.heap.size ≤ g4 from Nat.le_of_eq hg4)
  rw [hg4] at HR ⊢
  clear hg4
  generalize w.alloc (.cells #[.bool b, .bool e, .int .i64 num, .slice A n c] 24) = w1 at HR X HS1 ⊢
  go_wp2_with (fail)
  refine (speaks_any w1 HS1.out).mono ?_
  rintro e1 w2 ⟨rfl, hb⟩
  replace HR := Aside0.mk (blk_keep HR.out hb)
  replace X := Aside0.mk (below_step X.out hb)
  have HS2 := Aside0.mk (HS1.out.below hb)
  clear hb HS1
  obtain ⟨r0, r1, r2, r3⟩ := cells4 HR.out
  by_cases hbig : 1000 < (n : Int)
  · have hb1 : decide (1000 < (n : Int)) = true := decide_eq_true hbig
    go_wp2_with (fail)
    refine (speaks_any w2 HS2.out).mono ?_
    rintro e3 w3 ⟨rfl, hb⟩
    have X3 := Aside0.mk (below_step X.out hb)
    clear hb
    go_wp2
    go_ret
    exact ⟨rfl, X3.out⟩
  have hb1 : decide (1000 < (n : Int)) = false := decide_eq_false hbig
  by_cases hbig2 : 1000 < (m : Int)
  · have hb2 : decide (1000 < (m : Int)) = true := decide_eq_true hbig2
    go_wp2_with (fail)
    refine (speaks_any w2 HS2.out).mono ?_
    rintro e3 w3 ⟨rfl, hb⟩
    have X3 := Aside0.mk (below_step X.out hb)
    clear hb
    go_wp2
    go_ret
    exact ⟨rfl, X3.out⟩
  have hb2 : decide (1000 < (m : Int)) = false := decide_eq_false hbig2
  go_wp2_with (fail)
  have hn9 : n ≤ 1000 := by omega
  have hm9 : m ≤ 1000 := by omega
  have HN := Aside0.mk (And.intro hn9 hm9)
  clear hbig hbig2 hb1 hb2 hn9 hm9
  refine (put_any short b e num A n c xs w2 HS2.out (Kd.C_below HX.out X.out) HC.out (by have := HN.out; omega)).mono ?_
  rintro e3 w3 ⟨A3, c3, rfl, hcc, hC, hb⟩
  have HP3 := Aside0.mk hC
  have HPC := Aside0.mk hcc
  replace HR := Aside0.mk (blk_keep HR.out hb)
  replace X := Aside0.mk (below_step X.out hb)
  have HS3 := Aside0.mk (HS2.out.below hb)
  clear hb HS2 hC hcc r0 r1 r2 r3
  obtain ⟨r0, r1, r2, r3⟩ := cells4 HR.out
  go_wp2_with (fail)
  have hnx : xs.length = n := HX.out.1
  have h14 := marlineref23_Put.calls 3 short b e num A c xs (putP short b e num xs).1 (putP short b e num xs).2 w3 (by rw [hnx]; exact Kd.C_below HX.out X.out) (by rw [hnx]; exact HC.out) (ref_put_any short b e num xs (by have := HN.out; omega))
  rw [hnx] at h14
  refine h14.mono ?_
  clear h14
  rintro e4 w4 ⟨v4, rfl, hR, hb⟩
  obtain ⟨A4, c4, rfl, hcc, hC⟩ := Kd.R_reads hR
  have HP4 := Aside0.mk hC
  have HPD := Aside0.mk hcc
  replace HP3 := Aside0.mk (Kd.C_below HP3.out hb)
  replace HR := Aside0.mk (blk_keep HR.out hb)
  replace X := Aside0.mk (below_step X.out hb)
  have HS4 := Aside0.mk (HS3.out.below hb)
  clear hb HS3 hC hcc hR r0 r1 r2 r3
  go_wp2_with (fail)
  refine (get_any short B m d ys w4 HS4.out (Kd.C_below HY.out X.out) HD.out (by have := HN.out; omega) HYY.out).mono ?_
  rintro e5 w5 ⟨A5, c5, rfl, hcc, hC, hb⟩
  have HP5 := Aside0.mk hC
  have HPE := Aside0.mk hcc
  replace HP3 := Aside0.mk (Kd.C_below HP3.out hb)
  replace HP4 := Aside0.mk (Kd.C_below HP4.out hb)
  replace X := Aside0.mk (below_step X.out hb)
  clear hb HS4 hC hcc HR
  obtain ⟨gp, hgp⟩ : ∃ p, getP short ys = p := ⟨_, rfl⟩
  have HGP := Aside0.mk hgp
  rw [hgp] at HP5 HPE ⊢
  clear hgp
  go_wp2_with (fail)
  have HQ := Aside0.mk (new1 w5 (.cells #[.bool gp.1.f0, .bool gp.1.f1, .int .i64 gp.1.f2, .slice A5 gp.1.f3.length c5] 29))
  have hb := below_alloc (Below.refl _ w5) (.cells #[.bool gp.1.f0, .bool gp.1.f1, .int .i64 gp.1.f2, .slice A5 gp.1.f3.length c5] 29)
  replace HP3 := Aside0.mk (Kd.C_below HP3.out hb)
  replace HP4 := Aside0.mk (Kd.C_below HP4.out hb)
  replace HP5 := Aside0.mk (Kd.C_below HP5.out hb)
  replace X := Aside0.mk (below_step X.out hb)
  clear hb
  generalize w5.alloc (.cells #[.bool gp.1.f0, .bool gp.1.f1, .int .i64 gp.1.f2, .slice A5 gp.1.f3.length c5] 29) = w6 at HQ HP3 HP4 HP5 X ⊢
  generalize w5.heap.size = g11 at HQ ⊢
  refine (ref_any short B m d ys w6 (Kd.C_below HY.out X.out) HD.out (by have := HN.out; omega) HYY.out).mono ?_
  rintro e7 w7 ⟨A6, c6, rfl, hcc, hC, hb⟩
  rw [HGP.out] at hcc hC ⊢
  have HP6 := Aside0.mk hC
  have HPF := Aside0.mk hcc
  replace HQ := Aside0.mk (blk_keep HQ.out hb)
  replace HP3 := Aside0.mk (Kd.C_below HP3.out hb)
  replace HP4 := Aside0.mk (Kd.C_below HP4.out hb)
  replace HP5 := Aside0.mk (Kd.C_below HP5.out hb)
  replace X := Aside0.mk (below_step X.out hb)
  clear hb hC hcc
  go_upto_region 6 with (fail)
  have HQ8 := Aside0.mk (new1 w7 (.cells #[.bool gp.1.f0, .bool gp.1.f1, .int .i64 gp.1.f2, .slice A6 gp.1.f3.length c6] 24))
  have hb := below_alloc (Below.refl _ w7) (.cells #[.bool gp.1.f0, .bool gp.1.f1, .int .i64 gp.1.f2, .slice A6 gp.1.f3.length c6] 24)
  replace HQ := Aside0.mk (blk_keep HQ.out hb)
  replace HP3 := Aside0.mk (Kd.C_below HP3.out hb)
  replace HP4 := Aside0.mk (Kd.C_below HP4.out hb)
  replace HP5 := Aside0.mk (Kd.C_below HP5.out hb)
  replace HP6 := Aside0.mk (Kd.C_below HP6.out hb)
  replace X := Aside0.mk (below_step X.out hb)
  clear hb
  generalize w7.alloc (.cells #[.bool gp.1.f0, .bool gp.1.f1, .int .i64 gp.1.f2, .slice A6 gp.1.f3.length c6] 24) = w8 at HQ HQ8 HP3 HP4 HP5 HP6 X ⊢
  generalize w7.heap.size = g13 at HQ8 ⊢
  have HLP := Aside0.mk (show (putP short b e num xs).1.length < 4611686018427387904 by have := HN.out; have := HP3.out.2; have h3 := HX.out.1; unfold putP; split <;> simp [putB, head2, head4] <;> (try split) <;> simp <;> omega)
  generalize putP short b e num xs = pp at HP3 HPC HP4 HPD HLP ⊢
  refine (marlineref01_Equal.calls (pp.1.length + 1) A3 c3 pp.1 A4 c4 pp.1 true w8 HP3.out HPC.out HP4.out HPD.out (equal_self pp.1 HLP.out)).mono ?_
  rintro e9 w9 ⟨rfl, hd⟩
  have hb := hd.below
  replace HQ := Aside0.mk (blk_keep HQ.out hb)
  replace HQ8 := Aside0.mk (blk_keep HQ8.out hb)
  replace HP5 := Aside0.mk (Kd.C_below HP5.out hb)
  replace HP6 := Aside0.mk (Kd.C_below HP6.out hb)
  replace X := Aside0.mk (below_step X.out hb)
  clear hb hd HP3 HP4
  obtain ⟨q0, q1, q2, q3⟩ := cells4 HQ.out
  obtain ⟨s0, s1, s2, s3⟩ := cells4 HQ8.out
  have t0 := fun o : Obj => (cells4 (blk_keep HQ8.out (below_alloc (Below.refl _ w9) o))).1
  have t1 := fun o : Obj => (cells4 (blk_keep HQ8.out (below_alloc (Below.refl _ w9) o))).2.1
  have t2 := fun o : Obj => (cells4 (blk_keep HQ8.out (below_alloc (Below.refl _ w9) o))).2.2.1
  have t3 := fun o : Obj => (cells4 (blk_keep HQ8.out (below_alloc (Below.refl _ w9) o))).2.2.2
  go_wp2_with (fail)
  have hA := piece_row w9 gp.1 HPE.out HP5.out
  have hb := below_alloc (Below.refl _ w9) (.cells #[.bool gp.1.f0, .bool gp.1.f1, .int .i64 gp.1.f2, .slice A5 gp.1.f3.length c5] 24)
  have hsz : (w9.alloc (.cells #[.bool gp.1.f0, .bool gp.1.f1, .int .i64 gp.1.f2, .slice A5 gp.1.f3.length c5] 24)).heap.size = w9.heap.size + 1 := Array.size_push ..
  have hB := piece_row (w9.alloc (.cells #[.bool gp.1.f0, .bool gp.1.f1, .int .i64 gp.1.f2, .slice A5 gp.1.f3.length c5] 24)) gp.1 HPF.out (Kd.C_below HP6.out hb)
  rw [hsz] at hB
  have hb2 := below_alloc (Below.refl _ (w9.alloc (.cells #[.bool gp.1.f0, .bool gp.1.f1, .int .i64 gp.1.f2, .slice A5 gp.1.f3.length c5] 24))) (.cells #[.bool gp.1.f0, .bool gp.1.f1, .int .i64 gp.1.f2, .slice A6 gp.1.f3.length c6] 24)
  have X10 := Aside0.mk (below_step (below_step X.out hb) hb2)
  refine (marlineref23_Same.calls 3 _ 1 [gp.1] _ 1 [gp.1] true _ (Kd.C_below hA hb2) (Nat.le_refl 1) hB (Nat.le_refl 1) (same_self gp.1)).mono ?_
  rintro e11 w11 ⟨rfl, hd⟩
  have X11 := Aside0.mk (below_step X10.out hd.below)
  clear hd hb hb2 hA hB hsz X10
  go_wp2
  go_ret
  exact ⟨rfl, X11.out⟩

end Go.Proofs.YtgopklnfdlnojaaDoor.Gw
