/- The law of there and back, walked. -/
import Derived.Test.YtgopklnfdlnojaaDoorGy
namespace Go.Proofs.YtgopklnfdlnojaaDoor.Gz
open Go.RowKit Go.Proofs.YtgopklnfdlnojaaDoor.Ga Go.Proofs.YtgopklnfdlnojaaDoor.My Go.Proofs.YtgopklnfdlnojaaDoor.Gb Go.Proofs.YtgopklnfdlnojaaDoor.Gp Go.Proofs.YtgopklnfdlnojaaDoor.Gs Go.Proofs.YtgopklnfdlnojaaDoor.Gu Go.Proofs.YtgopklnfdlnojaaDoor.Gv Go.Proofs.YtgopklnfdlnojaaDoor.Gw Go.Proofs.YtgopklnfdlnojaaDoor.Gy Go.Proofs.YtgopklnfdlnojaaDoorW.PrintWords Go.Proofs.YtgopklnfdlnojaaDoorW.PrintLast Go.Proofs.YtgopklnfdlnojaaDoorW.PrintMore
set_option linter.unusedVariables false
set_option linter.unusedSimpArgs false

theorem put_in (short b e : Bool) (num : Int) (A : Option Addr) (n c : Nat) (xs : List Int) (w : World) (hS : Shapes w) (hx : (Kd.int .u8).C w A n xs) (hc : n ≤ c) (hn : n ≤ 100000) (h : 0 ≤ num ∧ num < numbers short) :
    Calls Tryd.prog 13 #[.bool short, pc b e num A n c] w fun e' w' => ∃ A' c', e' = .returned (.tuple #[.slice A' (putB short b e num xs).length c', .int .i64 0]) ∧ (putB short b e num xs).length ≤ c' ∧ (Kd.int .u8).C w' A' (putB short b e num xs).length (putB short b e num xs) ∧ Below w.heap.size w w' := by
  have := put_any short b e num A n c xs w hS hx hc hn
  rw [putP, if_pos h] at this
  exact this

theorem get_k (short : Bool) (b e : Bool) (num : Int) (xs : List Int) (k : Int) (A : Option Addr) (n c : Nat) (ys : List Int) (w : World) (hS : Shapes w) (hc : (Kd.int .u8).C w A n ys) (hnc : n ≤ c) (hn9 : n ≤ 100000) (hbb : ∀ x ∈ ys, 0 ≤ x ∧ x ≤ 255) (hg : getP short ys = (⟨b, e, num, xs⟩, k)) :
    Calls Tryd.prog 15 #[.bool short, .slice A n c] w fun e' w' => ∃ A' c', e' = .returned (.tuple #[pc b e num A' xs.length c', .int .i64 k]) ∧ xs.length ≤ c' ∧ (Kd.int .u8).C w' A' xs.length xs ∧ Below w.heap.size w w' := by
  have := get_any short A n c ys w hS hc hnc hn9 hbb
  rw [hg] at this
  exact this

set_option maxHeartbeats 4000000 in
set_option maxRecDepth 100000 in
theorem back_walk (short b e : Bool) (num : Int) (A : Option Addr) (n c : Nat) (xs : List Int) (B : Option Addr) (m d : Nat) (ys : List Int) (w : World) (hS : Shapes w)
    (hx : (Kd.int .u8).C w A n xs) (hc : n ≤ c) (hxx : ∀ x ∈ xs, 0 ≤ x ∧ x ≤ 255) (hy : (Kd.int .u8).C w B m ys) (hd : m ≤ d) (hyy : ∀ y ∈ ys, 0 ≤ y ∧ y ≤ 255) :
    Calls Tryd.prog 4 #[.bool short, pc b e num A n c, .slice B m d] w fun ex w' => ex = .returned (.bool true) ∧ Below w.heap.size w w' := by
  have HS := Aside0.mk hS
  have HX := Aside0.mk hx
  have HC := Aside0.mk hc
  have HXX := Aside0.mk hxx
  have HY := Aside0.mk hy
  have HD := Aside0.mk hd
  have HYY := Aside0.mk hyy
  clear hS hx hc hy hd hyy hxx
  have HR := Aside0.mk (new1 w (.cells #[.bool b, .bool e, .int .i64 num, .slice A n c] 24))
  have X := Aside0.mk (below_alloc (Below.refl _ w) (.cells #[.bool b, .bool e, .int .i64 num, .slice A n c] 24))
  have HS1 := Aside0.mk (HS.out.below X.out)
  go_enter Tryd.func4, Tryd.ntmps4
  go_upto_region 1 with (fail)
  obtain ⟨g4, hg4⟩ : ∃ g, w.heap.size = g := ⟨_, rfl⟩
  have G4 := Aside0.mk (show w.heap.size ≤ g4 from Nat.le_of_eq hg4)
  rw [hg4] at HR ⊢
  clear hg4
  generalize w.alloc (.cells #[.bool b, .bool e, .int .i64 num, .slice A n c] 24) = w1 at HR X HS1 ⊢
  go_wp2_with (fail)
  refine (speaks_any w1 HS1.out).mono ?_
  rintro e1 w2 ⟨rfl, hb⟩
  replace HR := Aside0.mk (blk_keep HR.out hb)
  replace X := Aside0.mk (below_step X.out hb)
  have HS2 := Aside0.mk (HS1.out.below hb)
  clear hb HS1
  obtain ⟨r0, r1, r2, r3⟩ := cells4 HR.out
  by_cases hbig : 1000 < (n : Int)
  · have hb1 : decide (1000 < (n : Int)) = true := decide_eq_true hbig
    go_wp2_with (fail)
    refine (speaks_any w2 HS2.out).mono ?_
    rintro e3 w3 ⟨rfl, hb⟩
    have X3 := Aside0.mk (below_step X.out hb)
    clear hb
    go_wp2
    go_ret
    exact ⟨rfl, X3.out⟩
  have hb1 : decide (1000 < (n : Int)) = false := decide_eq_false hbig
  by_cases hbig2 : 1000 < (m : Int)
  · have hb2 : decide (1000 < (m : Int)) = true := decide_eq_true hbig2
    go_wp2_with (fail)
    refine (speaks_any w2 HS2.out).mono ?_
    rintro e3 w3 ⟨rfl, hb⟩
    have X3 := Aside0.mk (below_step X.out hb)
    clear hb
    go_wp2
    go_ret
    exact ⟨rfl, X3.out⟩
  have hb2 : decide (1000 < (m : Int)) = false := decide_eq_false hbig2
  go_wp2_with (fail)
  have hn9 : n ≤ 1000 := by omega
  have hm9 : m ≤ 1000 := by omega
  have HN := Aside0.mk (And.intro hn9 hm9)
  clear hbig hbig2 hb1 hb2 hn9 hm9
  by_cases hin : 0 ≤ num ∧ num < numbers short
  · have HIN := Aside0.mk hin
    clear hin
    refine (put_in short b e num A n c xs w2 HS2.out (Kd.C_below HX.out X.out) HC.out (by have := HN.out; omega) HIN.out).mono ?_
    rintro e3 w3 ⟨A3, c3, rfl, hcc, hC, hb⟩
    have hbz := put_bytes short b e num xs HIN.out.1 HIN.out.2 HXX.out
    have hgz := get_put short b e num xs HIN.out.1 HIN.out.2
    have hlz : (putB short b e num xs).length ≤ 100000 := by
      rw [put_len]
      have := HN.out; have := HX.out.1
      cases short <;> simp [wide] <;> omega
    generalize putB short b e num xs = zs at hcc hC hbz hgz hlz ⊢
    have HP3 := Aside0.mk hC
    have HPC := Aside0.mk hcc
    have HBZ := Aside0.mk hbz
    have HGZ := Aside0.mk hgz
    have HLZ := Aside0.mk hlz
    replace HR := Aside0.mk (blk_keep HR.out hb)
    replace X := Aside0.mk (below_step X.out hb)
    have HS3 := Aside0.mk (HS2.out.below hb)
    clear hb HS2 hC hcc r0 r1 r2 r3 hbz hgz hlz
    go_wp2_with (fail)
    refine (get_k short b e num xs 0 A3 zs.length c3 zs w3 HS3.out HP3.out HPC.out HLZ.out HBZ.out HGZ.out).mono ?_
    rintro e5 w5 ⟨A5, c5, rfl, hcc, hC, hb⟩
    have HP5 := Aside0.mk hC
    have HPE := Aside0.mk hcc
    replace HR := Aside0.mk (blk_keep HR.out hb)
    replace X := Aside0.mk (below_step X.out hb)
    replace HS3 := Aside0.mk (HS3.out.below hb)
    clear hb hC hcc HP3 HPC
    go_upto_region 6 with (fail)
    have HQ := Aside0.mk (new1 w5 (.cells #[.bool b, .bool e, .int .i64 num, .slice A5 xs.length c5] 29))
    have hb := below_alloc (Below.refl _ w5) (.cells #[.bool b, .bool e, .int .i64 num, .slice A5 xs.length c5] 29)
    replace HP5 := Aside0.mk (Kd.C_below HP5.out hb)
    replace HR := Aside0.mk (blk_keep HR.out hb)
    replace X := Aside0.mk (below_step X.out hb)
    replace HS3 := Aside0.mk (HS3.out.below hb)
    clear hb
    generalize w5.alloc (.cells #[.bool b, .bool e, .int .i64 num, .slice A5 xs.length c5] 29) = w6 at HQ HP5 HR X HS3 ⊢
    generalize w5.heap.size = g9 at HQ ⊢
    obtain ⟨q0, q1, q2, q3⟩ := cells4 HQ.out
    obtain ⟨r0, r1, r2, r3⟩ := cells4 HR.out
    have t0 := fun o : Obj => (cells4 (blk_keep HR.out (below_alloc (Below.refl _ w6) o))).1
    have t1 := fun o : Obj => (cells4 (blk_keep HR.out (below_alloc (Below.refl _ w6) o))).2.1
    have t2 := fun o : Obj => (cells4 (blk_keep HR.out (below_alloc (Below.refl _ w6) o))).2.2.1
    have t3 := fun o : Obj => (cells4 (blk_keep HR.out (below_alloc (Below.refl _ w6) o))).2.2.2
    go_wp2_with (fail)
    have hnx : xs.length = n := HX.out.1
    have hA := piece_row w6 ⟨b, e, num, xs⟩ HPE.out HP5.out
    have hb := below_alloc (Below.refl _ w6) (.cells #[.bool b, .bool e, .int .i64 num, .slice A5 xs.length c5] 24)
    have hsz : (w6.alloc (.cells #[.bool b, .bool e, .int .i64 num, .slice A5 xs.length c5] 24)).heap.size = w6.heap.size + 1 := Array.size_push ..
    have hB := piece_row (w6.alloc (.cells #[.bool b, .bool e, .int .i64 num, .slice A5 xs.length c5] 24)) ⟨b, e, num, xs⟩ (A := A) (c := c) (by rw [hnx]; exact HC.out) (by have h8 := Kd.C_below HX.out (below_step X.out hb); rw [← hnx] at h8; exact h8)
    rw [hsz] at hB
    simp only [hnx] at hA hB hb ⊢
    have hb2 := below_alloc (Below.refl _ (w6.alloc (.cells #[.bool b, .bool e, .int .i64 num, .slice A5 n c5] 24))) (.cells #[.bool b, .bool e, .int .i64 num, .slice A n c] 24)
    have X10 := Aside0.mk (below_step (below_step X.out hb) hb2)
    have HS10 := Aside0.mk ((HS3.out.below hb).below hb2)
    refine (marlineref23_Same.calls 3 _ 1 [⟨b, e, num, xs⟩] _ 1 [⟨b, e, num, xs⟩] true _ (Kd.C_below hA hb2) (Nat.le_refl 1) hB (Nat.le_refl 1) (same_self ⟨b, e, num, xs⟩)).mono ?_
    rintro e11 w11 ⟨rfl, hd⟩
    have hb3 := hd.below
    replace X := Aside0.mk (below_step X10.out hb3)
    have HT := Aside0.mk (HS10.out.below hb3)
    clear hd hb hb2 hb3 hA hB hsz X10 HS10 t0 t1 t2 t3 q0 q1 q2 q3 r0 r1 r2 r3 HQ HR HP5 HPE
    go_wp2_with (fail)
    rcases put_get short ys HYY.out with ⟨k, hk, hg⟩ | ⟨b', e', num', xs', hg, h0, h1, hlx, hput⟩
    · refine (get_k short false false 0 [] k B m d ys w11 HT.out (Kd.C_below HY.out X.out) HD.out (by have := HN.out; omega) HYY.out hg).mono ?_
      rintro e15 w15 ⟨A15, c15, rfl, hcc, hC, hb⟩
      replace X := Aside0.mk (below_step X.out hb)
      clear hC hcc hb hg
      have hk2 : decide (k = 0) = false := decide_eq_false hk
      have hk3 : (k != 0) = true := by simp [hk]
      go_upto_region 11 with (fail)
      have HQ := Aside0.mk (new1 w15 (.cells #[.bool false, .bool false, .int .i64 0, .slice A15 ([] : List Int).length c15] 29))
      have hb := below_alloc (Below.refl _ w15) (.cells #[.bool false, .bool false, .int .i64 0, .slice A15 ([] : List Int).length c15] 29)
      replace X := Aside0.mk (below_step X.out hb)
      clear hb
      generalize w15.alloc (.cells #[.bool false, .bool false, .int .i64 0, .slice A15 ([] : List Int).length c15] 29) = w16 at HQ X ⊢
      generalize w15.heap.size = g15 at HQ ⊢
      obtain ⟨q0, q1, q2, q3⟩ := cells4 HQ.out
      go_wp2
      go_ret
      exact ⟨rfl, X.out⟩
    · refine (get_k short b' e' num' xs' 0 B m d ys w11 HT.out (Kd.C_below HY.out X.out) HD.out (by have := HN.out; omega) HYY.out hg).mono ?_
      rintro e15 w15 ⟨A15, c15, rfl, hcc, hC, hb⟩
      replace X := Aside0.mk (below_step X.out hb)
      have HP15 := Aside0.mk hC
      have HPF := Aside0.mk hcc
      have HPU := Aside0.mk hput
      have HNU := Aside0.mk (And.intro h0 h1)
      have HLX := Aside0.mk hlx
      have HT15 := Aside0.mk (HT.out.below hb)
      clear hC hcc hb hg HT hput h0 h1 hlx
      go_upto_region 11 with (fail)
      have HQ := Aside0.mk (new1 w15 (.cells #[.bool b', .bool e', .int .i64 num', .slice A15 xs'.length c15] 29))
      have hb := below_alloc (Below.refl _ w15) (.cells #[.bool b', .bool e', .int .i64 num', .slice A15 xs'.length c15] 29)
      replace X := Aside0.mk (below_step X.out hb)
      replace HP15 := Aside0.mk (Kd.C_below HP15.out hb)
      replace HT15 := Aside0.mk (HT15.out.below hb)
      clear hb
      generalize w15.alloc (.cells #[.bool b', .bool e', .int .i64 num', .slice A15 xs'.length c15] 29) = w16 at HQ X HP15 HT15 ⊢
      generalize w15.heap.size = g15 at HQ ⊢
      obtain ⟨q0, q1, q2, q3⟩ := cells4 HQ.out
      go_wp2_with (fail)
      refine (put_in short b' e' num' A15 xs'.length c15 xs' w16 HT15.out HP15.out HPF.out (by have := HN.out; have := HLX.out; have := HY.out.1; omega) HNU.out).mono ?_
      rintro e17 w17 ⟨A17, c17, rfl, hcc, hC, hb⟩
      rw [HPU.out] at hcc hC ⊢
      have HP17 := Aside0.mk hC
      have HPG := Aside0.mk hcc
      replace X := Aside0.mk (below_step X.out hb)
      clear hb hC hcc q0 q1 q2 q3 HQ
      go_wp2_with (fail)
      have hmy : ys.length = m := HY.out.1
      have h17 := marlineref01_Equal.calls (ys.length + 1) A17 c17 ys B d ys true w17 HP17.out HPG.out (by rw [hmy]; exact Kd.C_below HY.out X.out) (by rw [hmy]; exact HD.out) (equal_self ys (by have := HN.out; omega))
      simp only [hmy] at h17 ⊢
      refine h17.mono ?_
      clear h17
      rintro e19 w19 ⟨rfl, hd⟩
      have X19 := Aside0.mk (below_step X.out hd.below)
      clear hd
      go_wp2
      go_ret
      exact ⟨rfl, X19.out⟩
  · refine (put_no short b e num A n c w2 HS2.out hin).mono ?_
    rintro e3 w3 ⟨rfl, hb⟩
    replace X := Aside0.mk (below_step X.out hb)
    have HT := Aside0.mk (HS2.out.below hb)
    clear hb HS2 r0 r1 r2 r3 hin HR
    go_wp2_with (fail)
    rcases put_get short ys HYY.out with ⟨k, hk, hg⟩ | ⟨b', e', num', xs', hg, h0, h1, hlx, hput⟩
    · refine (get_k short false false 0 [] k B m d ys w3 HT.out (Kd.C_below HY.out X.out) HD.out (by have := HN.out; omega) HYY.out hg).mono ?_
      rintro e15 w15 ⟨A15, c15, rfl, hcc, hC, hb⟩
      replace X := Aside0.mk (below_step X.out hb)
      clear hC hcc hb hg
      have hk2 : decide (k = 0) = false := decide_eq_false hk
      have hk3 : (k != 0) = true := by simp [hk]
      go_upto_region 11 with (fail)
      have HQ := Aside0.mk (new1 w15 (.cells #[.bool false, .bool false, .int .i64 0, .slice A15 ([] : List Int).length c15] 29))
      have hb := below_alloc (Below.refl _ w15) (.cells #[.bool false, .bool false, .int .i64 0, .slice A15 ([] : List Int).length c15] 29)
      replace X := Aside0.mk (below_step X.out hb)
      clear hb
      generalize w15.alloc (.cells #[.bool false, .bool false, .int .i64 0, .slice A15 ([] : List Int).length c15] 29) = w16 at HQ X ⊢
      generalize w15.heap.size = g15 at HQ ⊢
      obtain ⟨q0, q1, q2, q3⟩ := cells4 HQ.out
      go_wp2
      go_ret
      exact ⟨rfl, X.out⟩
    · refine (get_k short b' e' num' xs' 0 B m d ys w3 HT.out (Kd.C_below HY.out X.out) HD.out (by have := HN.out; omega) HYY.out hg).mono ?_
      rintro e15 w15 ⟨A15, c15, rfl, hcc, hC, hb⟩
      replace X := Aside0.mk (below_step X.out hb)
      have HP15 := Aside0.mk hC
      have HPF := Aside0.mk hcc
      have HPU := Aside0.mk hput
      have HNU := Aside0.mk (And.intro h0 h1)
      have HLX := Aside0.mk hlx
      have HT15 := Aside0.mk (HT.out.below hb)
      clear hC hcc hb hg HT hput h0 h1 hlx
      go_upto_region 11 with (fail)
      have HQ := Aside0.mk (new1 w15 (.cells #[.bool b', .bool e', .int .i64 num', .slice A15 xs'.length c15] 29))
      have hb := below_alloc (Below.refl _ w15) (.cells #[.bool b', .bool e', .int .i64 num', .slice A15 xs'.length c15] 29)
      replace X := Aside0.mk (below_step X.out hb)
      replace HP15 := Aside0.mk (Kd.C_below HP15.out hb)
      replace HT15 := Aside0.mk (HT15.out.below hb)
      clear hb
      generalize w15.alloc (.cells #[.bool b', .bool e', .int .i64 num', .slice A15 xs'.length c15] 29) = w16 at HQ X HP15 HT15 ⊢
      generalize w15.heap.size = g15 at HQ ⊢
      obtain ⟨q0, q1, q2, q3⟩ := cells4 HQ.out
      go_wp2_with (fail)
      refine (put_in short b' e' num' A15 xs'.length c15 xs' w16 HT15.out HP15.out HPF.out (by have := HN.out; have := HLX.out; have := HY.out.1; omega) HNU.out).mono ?_
      rintro e17 w17 ⟨A17, c17, rfl, hcc, hC, hb⟩
      rw [HPU.out] at hcc hC ⊢
      have HP17 := Aside0.mk hC
      have HPG := Aside0.mk hcc
      replace X := Aside0.mk (below_step X.out hb)
      clear hb hC hcc q0 q1 q2 q3 HQ
      go_wp2_with (fail)
      have hmy : ys.length = m := HY.out.1
      have h17 := marlineref01_Equal.calls (ys.length + 1) A17 c17 ys B d ys true w17 HP17.out HPG.out (by rw [hmy]; exact Kd.C_below HY.out X.out) (by rw [hmy]; exact HD.out) (equal_self ys (by have := HN.out; omega))
      simp only [hmy] at h17 ⊢
      refine h17.mono ?_
      clear h17
      rintro e19 w19 ⟨rfl, hd⟩
      have X19 := Aside0.mk (below_step X.out hd.below)
      clear hd
      go_wp2
      go_ret
      exact ⟨rfl, X19.out⟩

end Go.Proofs.YtgopklnfdlnojaaDoor.Gz
