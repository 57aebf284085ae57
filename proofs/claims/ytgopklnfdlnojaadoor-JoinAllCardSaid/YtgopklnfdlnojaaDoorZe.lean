/- JoinAll, walked: it answers true. -/
import Derived.Test.YtgopklnfdlnojaaDoorZd
namespace Go.Proofs.YtgopklnfdlnojaaDoor.Ze
open Go.RowKit Go.Proofs.YtgopklnfdlnojaaDoor.Ga Go.Proofs.YtgopklnfdlnojaaDoor.My Go.Proofs.YtgopklnfdlnojaaDoor.Gb Go.Proofs.YtgopklnfdlnojaaDoor.Gp Go.Proofs.YtgopklnfdlnojaaDoor.Sa Go.Proofs.YtgopklnfdlnojaaDoor.Sb Go.Proofs.YtgopklnfdlnojaaDoor.Ja Go.Proofs.YtgopklnfdlnojaaDoor.Jb Go.Proofs.YtgopklnfdlnojaaDoor.Jc Go.Proofs.YtgopklnfdlnojaaDoor.Jd Go.Proofs.YtgopklnfdlnojaaDoor.Je Go.Proofs.YtgopklnfdlnojaaDoor.Jf Go.Proofs.YtgopklnfdlnojaaDoor.Jg Go.Proofs.YtgopklnfdlnojaaDoor.Jh Go.Proofs.YtgopklnfdlnojaaDoor.Ji Go.Proofs.YtgopklnfdlnojaaDoor.Nb Go.Proofs.YtgopklnfdlnojaaDoor.Nc Go.Proofs.YtgopklnfdlnojaaDoor.Nd Go.Proofs.YtgopklnfdlnojaaDoor.Ne Go.Proofs.YtgopklnfdlnojaaDoor.Xa Go.Proofs.YtgopklnfdlnojaaDoor.Xb Go.Proofs.YtgopklnfdlnojaaDoor.Xc Go.Proofs.YtgopklnfdlnojaaDoor.Ya Go.Proofs.YtgopklnfdlnojaaDoor.Yb Go.Proofs.YtgopklnfdlnojaaDoor.Za Go.Proofs.YtgopklnfdlnojaaDoor.Zb Go.Proofs.YtgopklnfdlnojaaDoor.Zc Go.Proofs.YtgopklnfdlnojaaDoor.Zd Go.Proofs.YtgopklnfdlnojaaDoorW.PrintWords Go.Proofs.YtgopklnfdlnojaaDoorW.PrintLast Go.Proofs.YtgopklnfdlnojaaDoorW.PrintMore
set_option linter.unusedVariables false
set_option linter.unusedSimpArgs false

set_option maxHeartbeats 2000000 in
set_option maxRecDepth 100000 in
/-- All that is too much: the example alone is asked. -/
theorem all_much (short : Bool) (links : Int) (Ap : Option Addr) (np cp : Nat) (Ad : Option Addr) (nd cd : Nat) (Al : Option Addr) (nl cl : Nat) (W : World) (hS : Shapes W) (h : 20 < np ∨ 100 < nd ∨ 100 < nl) :
    Calls Tryd.prog 11 #[.bool short, .int .u8 links, .slice Ap np cp, .slice Ad nd cd, .slice Al nl cl] W fun e w' => e = .returned (.bool true) ∧ Below W.heap.size W w' := by
  have hsp := speaks_any W hS
  have HS := Aside0.mk hS
  clear hS
  by_cases m1 : 20 < np
  · have em1 : decide ((20 : Int) < (np : Int)) = true := decide_eq_true (by omega)
    have fm1 : decide (20 < np) = true := decide_eq_true m1
    clear h m1
    go_enter Tryd.func11, Tryd.ntmps11
    go_upto_region 2 with (first
      | (go_at_call 27; refine hsp.mono ?_; rintro e w1 ⟨rfl, hb1⟩; have HB1 := Aside0.mk hb1; clear hb1))
    have hsp2 := speaks_any w1 (HS.out.below HB1.out)
    go_wp2_with (first
      | (go_at_call 27; refine hsp2.mono ?_; rintro e w2 ⟨rfl, hb2⟩; have HB2 := Aside0.mk hb2; clear hb2))
    go_ret
    exact ⟨rfl, below_step HB1.out HB2.out⟩
  by_cases m2 : 100 < nd
  · have em2 : decide ((100 : Int) < (nd : Int)) = true := decide_eq_true (by omega)
    have fm2 : decide (100 < nd) = true := decide_eq_true m2
    have em1 : decide ((20 : Int) < (np : Int)) = false := decide_eq_false (by omega)
    have fm1 : decide (20 < np) = false := decide_eq_false m1
    clear h m1 m2
    go_enter Tryd.func11, Tryd.ntmps11
    go_upto_region 2 with (first
      | (go_at_call 27; refine hsp.mono ?_; rintro e w1 ⟨rfl, hb1⟩; have HB1 := Aside0.mk hb1; clear hb1))
    have hsp2 := speaks_any w1 (HS.out.below HB1.out)
    go_wp2_with (first
      | (go_at_call 27; refine hsp2.mono ?_; rintro e w2 ⟨rfl, hb2⟩; have HB2 := Aside0.mk hb2; clear hb2))
    go_ret
    exact ⟨rfl, below_step HB1.out HB2.out⟩
  by_cases m3 : 100 < nl
  · have em3 : decide ((100 : Int) < (nl : Int)) = true := decide_eq_true (by omega)
    have fm3 : decide (100 < nl) = true := decide_eq_true m3
    have em1 : decide ((20 : Int) < (np : Int)) = false := decide_eq_false (by omega)
    have fm1 : decide (20 < np) = false := decide_eq_false m1
    have em2 : decide ((100 : Int) < (nd : Int)) = false := decide_eq_false (by omega)
    have fm2 : decide (100 < nd) = false := decide_eq_false m2
    clear h m1 m2 m3
    go_enter Tryd.func11, Tryd.ntmps11
    go_upto_region 2 with (first
      | (go_at_call 27; refine hsp.mono ?_; rintro e w1 ⟨rfl, hb1⟩; have HB1 := Aside0.mk hb1; clear hb1))
    have hsp2 := speaks_any w1 (HS.out.below HB1.out)
    go_wp2_with (first
      | (go_at_call 27; refine hsp2.mono ?_; rintro e w2 ⟨rfl, hb2⟩; have HB2 := Aside0.mk hb2; clear hb2))
    go_ret
    exact ⟨rfl, below_step HB1.out HB2.out⟩
  omega

set_option maxHeartbeats 8000000 in
set_option maxRecDepth 100000 in
theorem all_walk (short : Bool) (links : Int) (Ap : Option Addr) (cp : Nat) (P : List (List Int)) (Ad : Option Addr) (cd : Nat) (D : List Int) (At : Option Addr) (ct : Nat) (Tn : List Int) (W : World) (hS : Shapes W) (bl : 0 ≤ links ∧ links ≤ 255) (hP : (Kd.slice 5 (Kd.int .u8)).C W Ap P.length P) (kp : P.length ≤ cp)
    (hD : (Kd.int .u8).C W Ad D.length D) (kd : D.length ≤ cd) (bD : ∀ x ∈ D, 0 ≤ x ∧ x ≤ 255) (hT : (Kd.int .u8).C W At Tn.length Tn) (kt : Tn.length ≤ ct) (bT : ∀ x ∈ Tn, 0 ≤ x ∧ x ≤ 255) :
    Calls Tryd.prog 11 #[.bool short, .int .u8 links, .slice Ap P.length cp, .slice Ad D.length cd, .slice At Tn.length ct] W fun e w' => e = .returned (.bool true) ∧ Below W.heap.size W w' := by
  by_cases hmuch : 20 < P.length ∨ 100 < D.length ∨ 100 < Tn.length
  · exact all_much short links Ap _ cp Ad _ cd At _ ct W hS hmuch
  have hsp := speaks_any W hS
  have HS := Aside0.mk hS
  have HIN := Aside0.mk (And.intro hP (And.intro hD (And.intro hT (And.intro kp (And.intro kd (And.intro kt (And.intro bD bT)))))))
  have HM := Aside0.mk (show P.length ≤ 20 ∧ D.length ≤ 100 ∧ Tn.length ≤ 100 by omega)
  have d1 : decide ((20 : Int) < (P.length : Int)) = false := decide_eq_false (by omega)
  have d1' : decide (20 < P.length) = false := decide_eq_false (by omega)
  have d2 : decide ((100 : Int) < (D.length : Int)) = false := decide_eq_false (by omega)
  have d2' : decide (100 < D.length) = false := decide_eq_false (by omega)
  have d3 : decide ((100 : Int) < (Tn.length : Int)) = false := decide_eq_false (by omega)
  have d3' : decide (100 < Tn.length) = false := decide_eq_false (by omega)
  obtain ⟨n0, hn1, hn2, hn3⟩ := firstLong P
  have HN0 := Aside0.mk (And.intro hn1 (And.intro hn2 hn3))
  have t1 := Int.tmod_lt_of_pos links (show (0 : Int) < 8 by omega)
  have t2 := Int.tmod_nonneg 8 bl.1
  obtain ⟨n, hn⟩ : ∃ n : Nat, 1 + Int.tmod links 8 = (n : Int) := ⟨(1 + Int.tmod links 8).toNat, by omega⟩
  have hnb : 1 ≤ n ∧ n ≤ 8 := by omega
  have HNB := Aside0.mk hnb
  have v1 : IntKind.i64.wrap links = links := IntWalk.i64_in _ (by omega)
  have v2 : IntKind.i64.wrap (Int.tmod links 8) = Int.tmod links 8 := IntWalk.i64_in _ (by omega)
  have v3 : IntKind.i64.wrap (1 + Int.tmod links 8) = (n : Int) := by rw [hn]; exact IntWalk.i64_in _ (by omega)
  clear hS hP kp hD kd bD hT kt bT hmuch hn1 hn2 hn3 t1 t2 hn hnb bl
  go_enter Tryd.func11, Tryd.ntmps11
  go_wp2_with (first
    | (go_at_call 27; refine hsp.mono ?_; rintro e w1 ⟨rfl, hb1⟩; have HB1 := Aside0.mk hb1; clear hb1))
  go_loopg [50] P.length (fun k v50 wr => Aside0 (∃ i : Nat, v50 = .int .i64 (i : Int) ∧ i ≤ n0 ∧ k = P.length - i ∧ wr = w1))
  case atStart => exact ⟨0, rfl, Nat.zero_le _, by omega, rfl⟩
  case round =>
    obtain ⟨i, rfl, hi, rfl, hwr⟩ := hrel.out
    clear hrel
    obtain ⟨w1', hw1'⟩ : ∃ V, V = wr := ⟨_, rfl⟩
    have HI := Aside0.mk hi
    have hB1 : Below W.heap.size W wr := by rw [hwr]; exact HB1.out
    have HB1' := Aside0.mk hB1
    have HWR := Aside0.mk hwr
    clear hi hB1 hwr hw1' HB1
    by_cases hlt : i < P.length
    · have e1 : decide ((i : Int) < (P.length : Int)) = true := decide_eq_true (by omega)
      have e1' : decide (i < P.length) = true := decide_eq_true hlt
      have hi0 : (0 : Int) ≤ (i : Int) := by omega
      have hi2 : (i : Int) < (P.length : Int) := by omega
      have hwi : IntKind.i64.wrap ((i : Int) + 1) = ((i + 1 : Nat) : Int) := by rw [IntWalk.i64_in _ (by have := HM.out.1; omega)]; omega
      obtain ⟨ad, A0, c0, rfl, y0, xl, xC⟩ := at_L3 HIN.out.1 (i : Int) hi0 hi2
      obtain ⟨x, hx⟩ : ∃ x, P.getD i [] = x := ⟨_, rfl⟩
      have hrd : rd_L3 P (i : Int) = x := by rw [← hx]; rfl
      rw [hrd] at y0 xl xC
      have x0 := pw_cell_below HB1'.out y0
      simp only [Int.toNat_natCast] at x0
      have HXX := Aside0.mk hx
      have HLT := Aside0.mk hlt
      clear y0 hx hrd xl xC hlt
      by_cases hbig : (60 : Int) < (x.length : Int)
      · have d4 : decide ((60 : Int) < (x.length : Int)) = true := decide_eq_true hbig
        have d4' : decide (60 < x.length) = true := decide_eq_true (by omega)
        clear hbig
        go_wp2_with (fail)
        refine bodyPost_ret (results_tmp rfl _ _ _) rfl ?_
        exact ⟨rfl, HB1'.out⟩
      · have d4 : decide ((60 : Int) < (x.length : Int)) = false := decide_eq_false hbig
        have d4' : decide (60 < x.length) = false := decide_eq_false (by omega)
        have hin : i + 1 ≤ n0 := by
          have h1 := HI.out
          rcases HN0.out.2.2 with h2 | h2
          · have := HLT.out; omega
          · by_cases e : i = n0
            · rw [← e, HXX.out] at h2; omega
            · omega
        have HIN2 := Aside0.mk hin
        clear hbig hin
        go_wp2_with (fail)
        go_roundg (P.length - (i + 1))
        case measure => have := HLT.out; omega
        case rel => exact ⟨i + 1, by first | rfl | rw [hwi], HIN2.out, rfl, HWR.out⟩
    · have e1 : decide ((i : Int) < (P.length : Int)) = false := decide_eq_false (by omega)
      have e1' : decide (i < P.length) = false := decide_eq_false hlt
      obtain ⟨X, hX⟩ : ∃ X : Nat → List Int, X = fun i => P.getD i [] := ⟨_, rfl⟩
      have hXe : ∀ i, X i = P.getD i [] := fun i => by rw [hX]
      have hXl : ∀ i, (X i).length ≤ 60 := by
        intro q
        rw [hXe]
        by_cases hq : q < P.length
        · exact HN0.out.2.1 q (by have := HI.out; omega)
        · rw [List.getD_eq_getElem?_getD, List.getElem?_eq_none (by omega)]
          simp
      have HX := Aside0.mk (And.intro hXe hXl)
      have hoff : off X P.length ≤ 2000 := by have := off_le X hXl P.length; have := HM.out.1; omega
      have HOFF := Aside0.mk hoff
      obtain ⟨wb, hwb⟩ : ∃ V, V = wr := ⟨_, rfl⟩
      have hdl := dealt_any short n Ap cp P Ad cd D wr (HS.out.below HB1'.out) HNB.out (Kd.C_below HIN.out.1 HB1'.out) HIN.out.2.2.2.1 HM.out.1 (Kd.C_below HIN.out.2.1 HB1'.out) HIN.out.2.2.2.2.1 HM.out.2.1 HIN.out.2.2.2.2.2.2.1 X hXe hXl
      clear hwb hX hXe hXl hoff hlt hsp
      go_upto_region 11 with (first
        | (go_at_call 37; refine hdl.mono ?_; rintro e ws ⟨go, cap, chs, rrs, vm, rfl, hlan, hbs⟩; have HLAN := Aside0.mk hlan; have HBS := Aside0.mk hbs; clear hlan hbs))
      have hbw := below_step HB1'.out HBS.out
      have HBW := Aside0.mk hbw
      have hnew := new_ok short (n : Int) 4096 100 ws (HS.out.below hbw) (by have := HNB.out; unfold mayJ; omega)
      clear hbw hdl
      go_wp2_with (first
        | (go_at_call 28; refine hnew.mono ?_; rintro e w2 ⟨g, bm, vl, rfl, hJ2, hb2⟩; have HB2 := Aside0.mk hb2; have HJ2 := Aside0.mk hJ2; clear hJ2 hb2))
      obtain ⟨nm, hnm⟩ : ∃ nm, nm = numbers short := ⟨_, rfl⟩
      have HNM := Aside0.mk hnm
      obtain ⟨df, hdf⟩ : ∃ df, df = dealf D n := ⟨_, rfl⟩
      have hdfn : ∀ k, df k < n := by
        intro k
        rw [hdf]
        unfold dealf
        have := HNB.out
        split
        · omega
        · exact Nat.mod_lt _ (by omega)
      have HDF := Aside0.mk hdfn
      obtain ⟨N, hN⟩ : ∃ N, N = off X P.length := ⟨_, rfl⟩
      obtain ⟨ps, hps⟩ : ∃ ps, ps = psI nm X P.length := ⟨_, rfl⟩
      have HPS := Aside0.mk (And.intro hN hps)
      have hlan : Lanes ws wr.heap.size n go cap chs rrs (laneP ps df N) := by rw [hps, hnm, hdf, hN]; exact HLAN.out
      have hlf : ∀ L, L < n → LaneF ws ws.heap.size go ps (chs.getD L no) (idx df N L) := fun L hL => laneF_of hlan L hL
      have hlf2 : ∀ L, L < n → LaneF w2 ws.heap.size go ps (chs.getD L no) (idx df N L) := fun L hL => (hlf L hL).step (fun k hk _ _ => HB2.out.block k hk)
      have hout2 := Kd.R_below hlan.out HB2.out
      have hgolt : go < ws.heap.size := Kd.R_lt hlan.out go rfl
      obtain ⟨wsz, hwsz⟩ : ∃ wsz, wsz = ws.heap.size := ⟨_, rfl⟩
      have hbws : W.heap.size ≤ ws.heap.size := HBW.out.size
      rw [← hwsz] at hlf2 hgolt hbws
      have hmem0 : Mem W w2 wsz g bm vl (.slice none 0 0) (.slice none 0 0) (.slice none 0 0) [] (newJ short (n : Int) 4096 100) [] [] := by
        rw [hwsz]
        exact ⟨HJ2.out, ⟨[], Kd.R_nil _ _ _ _ _, rfl, fun j x y hx => by simp at hx⟩, ⟨[], Kd.R_nil _ _ _ _ _, rfl, fun j x y hx => by simp at hx⟩, HBW.out.trans (HB2.out.mono HBW.out.size), HBW.out.size, HB2.out.size⟩
      have hal0 : Al nm X P.length df (newJ short (n : Int) 4096 100) n 0 (idx df N) [] (newJ short (n : Int) 4096 100) := by rw [hnm, hN]; exact al_new short n HNB.out.1 (by have := HNB.out; omega)
      obtain ⟨b41, hb41⟩ : ∃ b41, b41 = wr.heap.size := ⟨_, rfl⟩
      rw [← hb41] at hout2
      have HE := Aside0.mk (And.intro hlf2 (And.intro hout2 (And.intro hlan.len (And.intro hgolt (And.intro hmem0 hal0)))))
      have htot : ∀ L, L ≤ n → tot L (idx df N) ≤ 16000 := by
        intro L hL
        have h1 : tot L (idx df N) ≤ L * N := tot_le
        have h2 := HOFF.out
        have h3 := HNB.out.2
        have h4 : L * N ≤ 8 * 2000 := Nat.mul_le_mul (by omega) (by omega)
        omega
      have HTOT := Aside0.mk htot
      have HWB := Aside0.mk (show W.heap.size ≤ b41 by rw [hb41]; exact HB1'.out.size)
      clear hnm hdf hdfn hN hps hlan hlf hlf2 hout2 hgolt hbws hmem0 hal0 hb41 hwsz htot hnew
      go_loopg [89, 20] n (fun k v89 v20 wr2 => Aside0 (∃ L : Nat, v89 = .int .i64 (L : Int) ∧ L ≤ n ∧ k = n - L ∧ v20 = .int .i64 ((tot L (idx df N) : Nat) : Int) ∧ wr2 = w2))
      case atStart => exact ⟨0, rfl, Nat.zero_le _, by omega, rfl, rfl⟩
      case round =>
        obtain ⟨L, rfl, hL, rfl, rfl, hwr⟩ := hrel.out
        clear hrel
        have HL := Aside0.mk hL
        obtain ⟨w3, hw3⟩ : ∃ V, V = wr := ⟨_, rfl⟩
        rw [← hw3] at hwr ⊢
        clear hw3 hL
        subst hwr
        by_cases hlt : L < n
        · have f1 : decide ((L : Int) < (n : Int)) = true := decide_eq_true (by omega)
          have f1' : decide (L < n) = true := decide_eq_true hlt
          have hL0 : (0 : Int) ≤ (L : Int) := by omega
          have hL2 : (L : Int) < (n : Int) := by omega
          have hwL : IntKind.i64.wrap ((L : Int) + 1) = ((L + 1 : Nat) : Int) := by rw [IntWalk.i64_in _ (by have := HNB.out; omega)]; omega
          obtain ⟨c1, c2⟩ := Kd.R_celln no HE.out.2.1 (L : Int) hL0 hL2
          simp only [Int.toNat_natCast] at c1
          obtain ⟨ch, hch⟩ : ∃ ch, chs.getD L no = ch := ⟨_, rfl⟩
          have hrd : rdOf no chs (L : Int) = ch := hch
          rw [hrd] at c1
          obtain ⟨rr3, -, -, hm, hmc⟩ := HE.out.1 L hlt
          rw [hch] at hm hmc
          obtain ⟨Ac, mc, cc⟩ := ch
          simp only [encS] at c1
          simp only at hm
          have hts := tot_succ L (idx df N)
          have hwt : IntKind.i64.wrap (((tot L (idx df N) : Nat) : Int) + (mc : Int)) = ((tot (L + 1) (idx df N) : Nat) : Int) := by
            have h1 := HTOT.out (L + 1) (by omega)
            rw [IntWalk.i64_in _ (by omega)]
            omega
          have HLT := Aside0.mk hlt
          clear hlt hm hmc hch hrd hts c2
          go_wp2_with (fail)
          go_roundg (n - (L + 1))
          case measure => have := HLT.out; omega
          case rel => exact ⟨L + 1, by first | rfl | rw [hwL], HLT.out, rfl, by first | rfl | rw [hwt], rfl⟩
        · have f1 : decide ((L : Int) < (n : Int)) = false := decide_eq_false (by omega)
          have f1' : decide (L < n) = false := decide_eq_false hlt
          have hLn : L = n := by have := HL.out; omega
          rw [hLn]
          clear hlt hLn
          go_wp2_with (fail)
          go_loopg [23, 19, 20] (tot n (idx df N)) (fun k v23 v19 v20 wr3 => Aside0 (∃ (t : Nat) (rem : Nat → List Nat) (chs' : List Ch) (vd : Value) (wv : List (Int × Value)) (J : Jn) (pre : List Ev), k = tot n rem ∧ v23 = .int .i64 (t : Int) ∧ v20 = .int .i64 ((tot n rem : Nat) : Int) ∧ t + tot n rem = tot n (idx df N) ∧ Al nm X P.length df (newJ short (n : Int) 4096 100) n t rem pre J ∧ Mem W wr3 wsz g bm vl vd (.slice none 0 0) v19 wv J pre [] ∧ slK.R 41 wr3 b41 (fun _ => True) (.slice (some ⟨go, 0, none⟩) n cap) chs' ∧ chs'.length = n ∧ ∀ L, L < n → LaneF wr3 wsz go ps (chs'.getD L no) (rem L)))
          case atStart =>
            exact ⟨0, idx df N, chs, _, _, _, _, rfl, rfl, rfl, by omega, HE.out.2.2.2.2.2, HE.out.2.2.2.2.1, HE.out.2.1, HE.out.2.2.1, HE.out.1⟩
          case round =>
            obtain ⟨t, rem, chs3, vd3, wv3, J3, pre3, rfl, rfl, rfl, htt, hal, hmem, hout, hcl, hlan⟩ := hrel.out
            clear hrel
            obtain ⟨W3, hW3⟩ : ∃ V, V = wr := ⟨_, rfl⟩
            rw [← hW3] at hmem hout hlan ⊢
            clear hW3
            have HQ := Aside0.mk (And.intro hal (And.intro hmem (And.intro hout (And.intro hcl (And.intro hlan htt)))))
            have ht5 : t ≤ 16000 := by have := HTOT.out n (Nat.le_refl _); omega
            have HT5 := Aside0.mk ht5
            clear hal hmem hout hcl hlan htt ht5
            by_cases hpos : 0 < tot n rem
            · have f3 : decide ((0 : Int) < ((tot n rem : Nat) : Int)) = true := decide_eq_true (by omega)
              have f3' : decide (0 < tot n rem) = true := decide_eq_true hpos
              have HPOS := Aside0.mk hpos
              clear hpos
              go_upto_if 105 with (fail)
              go_cut [24] from 103 to 115 (fun v24 wd => wd = W3 ∧ ∃ a : Nat, a ≤ 100255 ∧ v24 = .int .i64 (a : Int))
              case first =>
                by_cases hz : Tn.length = 0
                · have z1 : decide ((0 : Int) < (Tn.length : Int)) = false := decide_eq_false (by omega)
                  have z1' : decide (0 < Tn.length) = false := decide_eq_false (by omega)
                  clear hz
                  simp only [z1']
                  go_wp2
                  go_meet
                  exact ⟨rfl, t, by have := HT5.out; omega, rfl⟩
                · have z1 : decide ((0 : Int) < (Tn.length : Int)) = true := decide_eq_true (by omega)
                  have z1' : decide (0 < Tn.length) = true := decide_eq_true (by omega)
                  have hlt := Nat.mod_lt t (show 0 < Tn.length by omega)
                  obtain ⟨q, hq⟩ : ∃ q, t % Tn.length = q := ⟨_, rfl⟩
                  have hq0 : (0 : Int) ≤ (q : Int) := by omega
                  have hq2 : (q : Int) < (Tn.length : Int) := by rw [hq] at hlt; omega
                  obtain ⟨adl, rfl, hcl⟩ := Kd.at_int HIN.out.2.2.1 (q : Int) hq0 hq2
                  have hcl1 := pw_cell_below HQ.out.2.1.below hcl
                  simp only [Int.toNat_natCast] at hcl1
                  obtain ⟨y, hy⟩ : ∃ y, rd Tn (q : Int) = y := ⟨_, rfl⟩
                  have hyd : Tn.getD q 0 = y := hy
                  rw [hy] at hcl1
                  have hyb : 0 ≤ y ∧ y ≤ 255 := by
                    rw [← hyd, List.getD_eq_getElem?_getD, List.getElem?_eq_getElem (by omega)]
                    exact HIN.out.2.2.2.2.2.2.2 _ (List.getElem_mem _)
                  have hrm : Int.tmod (t : Int) (Tn.length : Int) = (q : Int) := by
                    rw [Int.tmod_eq_emod_of_nonneg (by omega), ← hq]
                    rfl
                  have hwq : IntKind.i64.wrap (q : Int) = (q : Int) := IntWalk.i64_in _ (by have := HM.out.2.2; omega)
                  have hwy : IntKind.i64.wrap y = y := IntWalk.i64_in _ (by omega)
                  have hnz : ¬ (Tn.length : Int) = 0 := by omega
                  have hnz' : ¬ Tn.length = 0 := hz
                  obtain ⟨yn, hyn⟩ : ∃ yn : Nat, y = (yn : Int) := ⟨y.toNat, by omega⟩
                  have hwty : IntKind.i64.wrap ((t : Int) + y) = ((t + yn : Nat) : Int) := by rw [IntWalk.i64_in _ (by have := HT5.out; omega)]; omega
                  have HYB := Aside0.mk (show t + yn ≤ 100255 by have := HT5.out; omega)
                  clear hz hq hlt hy hyd hyb hcl hyn
                  simp only [z1']
                  go_wp2
                  go_meet
                  exact ⟨rfl, t + yn, HYB.out, rfl⟩
              case rest =>
                obtain ⟨hwd, a, ha, rfl⟩ := hcut
                obtain ⟨W4, hW4⟩ : ∃ V, V = wc := ⟨_, rfl⟩
                rw [← hW4] at hwd ⊢
                clear hW4
                subst hwd
                have HA := Aside0.mk ha
                clear ha
                have hex : ∃ d, d < n ∧ rem ((a + d) % n) ≠ [] := by
                  obtain ⟨L, hL, hLr⟩ := tot_pos HPOS.out
                  have hn0 := HNB.out.1
                  refine ⟨(L + n - a % n) % n, Nat.mod_lt _ (by omega), ?_⟩
                  have hm := Nat.mod_lt a (show 0 < n by omega)
                  have : (a + (L + n - a % n) % n) % n = L := by
                    rw [Nat.add_mod, Nat.mod_mod, ← Nat.add_mod]
                    have h1 := Nat.div_add_mod a n
                    have h2 : a + (L + n - a % n) = L + n * (a / n + 1) := by rw [Nat.mul_add, Nat.mul_one]; omega
                    rw [h2, Nat.add_mul_mod_self_left, Nat.mod_eq_of_lt hL]
                  rw [this]
                  exact hLr
                obtain ⟨d0, hd0, hd0r⟩ := hex
                have HD0 := Aside0.mk (And.intro hd0 hd0r)
                clear hd0 hd0r
                go_wp2_with (fail)
                go_loopg [24] d0 (fun k v24 wr4 => Aside0 (∃ b : Nat, v24 = .int .i64 (b : Int) ∧ b + k ≤ 100263 ∧ rem ((b + k) % n) ≠ [] ∧ wr4 = W4))
                case atStart => exact ⟨a, rfl, by have := HA.out; have := HD0.out.1; have := HNB.out; omega, HD0.out.2, rfl⟩
                case round =>
                  obtain ⟨b, rfl, hb, hbr, hwr⟩ := hrel.out
                  clear hrel
                  have HBR := Aside0.mk (And.intro hb hbr)
                  obtain ⟨W5, hW5⟩ : ∃ V, V = wr := ⟨_, rfl⟩
                  rw [← hW5] at hwr ⊢
                  clear hW5 hb hbr
                  subst hwr
                  have hn0 := HNB.out.1
                  have hn8 := HNB.out.2
                  obtain ⟨L, hLe⟩ : ∃ L, b % n = L := ⟨_, rfl⟩
                  have hLn : L < n := by rw [← hLe]; exact Nat.mod_lt _ (by omega)
                  have hmod : Int.tmod (b : Int) (n : Int) = (L : Int) := by
                    rw [Int.tmod_eq_emod_of_nonneg (by omega), ← hLe]
                    rfl
                  have hwL : IntKind.i64.wrap (L : Int) = (L : Int) := IntWalk.i64_in _ (by omega)
                  have hwb : IntKind.i64.wrap ((b : Int) + 1) = ((b + 1 : Nat) : Int) := by rw [IntWalk.i64_in _ (by have := HBR.out.1; omega)]; omega
                  have hnz : ¬ (n : Int) = 0 := by omega
                  have hnz' : ¬ n = 0 := by omega
                  have hL0 : (0 : Int) ≤ (L : Int) := by omega
                  have hL2 : (L : Int) < (n : Int) := by omega
                  obtain ⟨c1, c2⟩ := Kd.R_celln no HQ.out.2.2.1 (L : Int) hL0 hL2
                  simp only [Int.toNat_natCast] at c1 c2
                  obtain ⟨ch, hch⟩ : ∃ ch, chs3.getD L no = ch := ⟨_, rfl⟩
                  have hrd : rdOf no chs3 (L : Int) = ch := hch
                  rw [hrd] at c1
                  have hlf := HQ.out.2.2.2.2.1 L hLn
                  rw [hch] at hlf
                  obtain ⟨rr3, hF3, hP3, hm, hmc⟩ := hlf
                  obtain ⟨Ac, mc, cc⟩ := ch
                  simp only [encS] at c1
                  simp only at hm hmc hF3
                  have HLN := Aside0.mk (And.intro hLe (And.intro hLn hch))
                  clear hn0 hn8 hLe hLn hch hrd
                  cases hrl : rem L with
                  | nil =>
                    rw [hrl] at hm
                    have hm0 : mc = 0 := hm
                    subst hm0
                    have hgk : gk ≠ 0 := by
                      intro e
                      have := HBR.out.2
                      rw [e, Nat.add_zero, HLN.out.1] at this
                      exact this hrl
                    have HGK := Aside0.mk hgk
                    clear hrl hm hgk hF3 hP3 hmc
                    go_wp2_with (fail)
                    go_roundg (gk - 1)
                    case measure => have := HGK.out; omega
                    case rel => exact ⟨b + 1, by first | rfl | rw [hwb], by have := HBR.out.1; have := HGK.out; omega, by have h1 := HBR.out.2; have h2 := HGK.out; rwa [show b + 1 + (gk - 1) = b + gk by omega], rfl⟩
                  | cons kk r =>
                    rw [hrl] at hm hP3
                    have hmp : 0 < mc := by rw [hm]; simp
                    have hC3 := Kd.F_now hF3
                    obtain ⟨ad, rfl, r0, hr0, hl0, -, hc0⟩ := raw_get hC3 0 hmp
                    obtain ⟨p, hp⟩ : ∃ p, ps kk = p := ⟨_, rfl⟩
                    have hpk : PcK W5 (fun k => k < wsz ∧ k ≠ go) p r0 := by
                      have := hP3.2 0 (ps kk) r0 (by simp) hr0
                      rwa [hp] at this
                    obtain ⟨Aq, cq, rfl, lq, hFq⟩ := hpk
                    have hadd : ad.add (0 * 4) = ad := by rw [Nat.zero_mul]; rfl
                    have x0 : W5.cell? (ad.add (0 * 4)) = some (.bool p.f0) := hc0 0 _ rfl
                    have x1 : W5.cell? ⟨(ad.add (0 * 4)).block, (ad.add (0 * 4)).off + 1, none⟩ = some (.bool p.f1) := by rw [← add_field _ _ 1 (by omega)]; exact hc0 1 _ rfl
                    have x2 : W5.cell? ⟨(ad.add (0 * 4)).block, (ad.add (0 * 4)).off + 2, none⟩ = some (.int .i64 p.f2) := by rw [← add_field _ _ 2 (by omega)]; exact hc0 2 _ rfl
                    have x3 : W5.cell? ⟨(ad.add (0 * 4)).block, (ad.add (0 * 4)).off + 3, none⟩ = some (.slice Aq p.f3.length cq) := by rw [← add_field _ _ 3 (by omega)]; exact hc0 3 _ rfl
                    rw [hadd] at x0 x1 x2 x3
                    have z1 : ((mc : Int) == 0) = false := by simp; omega
                    have z2 : decide ((mc : Int) = 0) = false := decide_eq_false (by omega)
                    have z3 : decide (mc = 0) = false := decide_eq_false (by omega)
                    have z4 : (mc == 0) = false := by simp; omega
                    have hm0 : (0 : Int) < (mc : Int) := by omega
                    have hmne : ¬ mc = 0 := by omega
                    have HK := Aside0.mk (And.intro hF3 (And.intro hP3 (And.intro hm (And.intro hmc (And.intro hp (And.intro lq (And.intro hFq hrl)))))))
                    clear hrl hm hmc hF3 hP3 hC3 hr0 hl0 hc0 hp lq hFq hadd
                    go_upto_region 30 with (fail)
                    have hba := below_alloc (Below.refl W5.heap.size W5) (.cells #[.bool p.f0, .bool p.f1, .int .i64 p.f2, .slice Aq p.f3.length cq] 29)
                    have hPn := new1 W5 (.cells #[.bool p.f0, .bool p.f1, .int .i64 p.f2, .slice Aq p.f3.length cq] 29)
                    obtain ⟨g25, hg25⟩ : ∃ q, W5.heap.size = q := ⟨_, rfl⟩
                    rw [hg25] at hPn
                    have HPN := Aside0.mk (And.intro hPn hg25)
                    have HBA := Aside0.mk hba
                    have y1 := pw_cell_below hba c1
                    have hout6 := Kd.R_below HQ.out.2.2.1 hba
                    obtain ⟨-, y2⟩ := Kd.R_celln no hout6 (L : Int) hL0 hL2
                    simp only [Int.toNat_natCast] at y2
                    have HOUT6 := Aside0.mk hout6
                    simp only [hg25]
                    clear hba hPn hg25 x0 x1 x2 x3 c1 c2 hout6
                    generalize W5.alloc (.cells #[.bool p.f0, .bool p.f1, .int .i64 p.f2, .slice Aq p.f3.length cq] 29) = W6 at HPN HBA HOUT6 y1 y2 ⊢
                    have hm1 : (1 : Int) ≤ (mc : Int) := by omega
                    have hc1' : (1 : Int) ≤ (cc : Int) := by have := HK.out.2.2.2.1; omega
                    have hmcc : (mc : Int) ≤ (cc : Int) := by have := HK.out.2.2.2.1; omega
                    have hmcc' : mc ≤ cc := by omega
                    have hm1' : 1 ≤ mc := by omega
                    have hc1'' : 1 ≤ cc := by omega
                    go_still_tail 12, (by kernel_rfl)
                    change wpList _ _ _ _ _ W6.drew
                    go_wp2_with (fail)
                    case inl hcc =>
                      obtain ⟨chv, hcv⟩ : ∃ chv : Ch, chv = (some ad, mc - 1, 0) := ⟨_, rfl⟩
                      have hchv : LaneF W6 wsz go ps chv r := by
                        rw [hcv]
                        exact ((laneF_tail HK.out.1 HK.out.2.1 HK.out.2.2.1 HK.out.2.2.2.1).2 (by omega)).step (fun k _ _ hl => HBA.out.block k hl)
                      subst hcv
--TAIL1
                      have hwb : W.heap.size ≤ b41 := HWB.out
                      have hgo41 : b41 ≤ go := Kd.R_base HOUT6.out go rfl
                      have hmem6 := HQ.out.2.1.step HBA.out
                      have hal := HQ.out.1
                      obtain ⟨cs41, hcs41⟩ := own_type HOUT6.out go rfl
                      have hset : Over 41 W6 (W6.setCell ⟨go, L, none⟩ (encS (some ad, mc - 1, 0))) := over_set hcs41
                      have hput := Kd.R_putn HOUT6.out (L : Int) (some ad, mc - 1, 0)
                      simp only [Int.toNat_natCast] at hput
                      have hbset : Below W.heap.size W (W6.setCell ⟨go, L, none⟩ (encS (some ad, mc - 1, 0))) := hmem6.below.setCell (p := ⟨go, L, none⟩) (Nat.le_trans hwb hgo41) _
                      have hmem7 := Mem.over hmem6 hset (by decide) (by decide) (by decide) (by decide) (by decide) hbset
                      have hl7 : ∀ q, q < n → LaneF (W6.setCell ⟨go, L, none⟩ (encS (some ad, mc - 1, 0))) wsz go ps ((chs3.set L (some ad, mc - 1, 0)).getD q no) (if q = L then r else rem q) := by
                        intro q hq
                        by_cases e : q = L
                        · subst e
                          rw [if_pos rfl, List.getD_eq_getElem?_getD, List.getElem?_set_self (by rw [HQ.out.2.2.2.1]; exact hq)]
                          exact hchv.step (fun k _ hk _ => far_cell W6 go q k _ hk)
                        · rw [if_neg e, List.getD_eq_getElem?_getD, List.getElem?_set_ne (Ne.symm e), ← List.getD_eq_getElem?_getD]
                          exact ((HQ.out.2.2.2.2.1 q hq).step (fun k _ _ hl => HBA.out.block k hl)).step (fun k _ hk _ => far_cell W6 go L k _ hk)
                      have hne25 : g25 ≠ go := by
                        have h1 := HPN.out.2
                        have h2 := (Array.getElem?_eq_some_iff.1 (own_type HQ.out.2.2.1 go rfl).choose_spec).1
                        omega
                      have hP7 : (W6.setCell ⟨go, L, none⟩ (encS (some ad, mc - 1, 0))).heap[g25]? = some (.cells #[.bool p.f0, .bool p.f1, .int .i64 p.f2, .slice Aq p.f3.length cq] 29 (0, 0)) := (far_cell W6 go L g25 _ hne25).trans HPN.out.1
                      have hF7 : Kd.F (Kd.int .u8) (W6.setCell ⟨go, L, none⟩ (encS (some ad, mc - 1, 0))) (fun k => k < wsz ∧ k ≠ go) Aq p.f3.length p.f3 := Kd.F_step (Kd.F_step HK.out.2.2.2.2.2.2.1 (fun k _ hl => HBA.out.block k hl)) (fun k hk _ => far_cell W6 go L k _ hk.2)
                      obtain ⟨W7, hW7⟩ : ∃ W7, W7 = W6.setCell ⟨go, L, none⟩ (encS (some ad, mc - 1, 0)) := ⟨_, rfl⟩
                      rw [← hW7] at hput hmem7 hl7 hP7 hF7
                      have hsl : Sl0 W7.drew.drew (Mut g bm vl vd3 (.slice none 0 0)) Aq p.f3.length p.f3 := by
                        refine Kd.F_mono (show Kd.F (Kd.int .u8) W7.drew.drew (fun k => k < wsz ∧ k ≠ go) Aq p.f3.length p.f3 from Kd.F_drew (Kd.F_drew hF7)) (fun k hk => ⟨Nat.lt_of_lt_of_le hk.1 hmem7.b1, fun hm => ?_⟩)
                        have := mut_ge hmem7.jm k hm
                        have := hk.1
                        omega
                      have hpk : psI nm X P.length kk = p := by rw [← HPS.out.2]; exact HK.out.2.2.2.2.1
                      have hNo : off X P.length ≤ 2000 := HOFF.out
                      have haf := al_feed hal hNo (by rw [HNM.out]; cases short <;> simp [numbers]) HDF.out (fun k hk => ps_ok nm X P.length k hk) HLN.out.2.1 HK.out.2.2.2.2.2.2.2
                      rw [hpk] at haf
                      have hkN : p.f3.length ≤ 5 := by
                        rw [← hpk]
                        obtain ⟨dn, hdn, -⟩ := hal.lane L HLN.out.2.1
                        have hm : kk ∈ idx df (off X P.length) L := by rw [hdn, HK.out.2.2.2.2.2.2.2]; simp
                        exact (ps_ok nm X P.length kk (idx_mem.1 hm).1).2
                      have hwt := al_wait hal
                      have hfd := feed_any W7.drew.drew wsz g bm vl vd3 wv3 J3 ((t : Int) * 16777216) (L : Int) p Aq cq (jm_drew (jm_drew hmem7.jm)) hal.still (by rw [hal.nm, HNM.out]; have := (numbers_pos short).2; have := HT5.out; omega) hmem7.b1 (by omega) (by omega) HK.out.2.2.2.2.2.1 hsl
                      rw [haf.1] at hfd
                      obtain ⟨b0, b1, b2, b3⟩ := cells4 hP7
                      have htt := tot_take HLN.out.2.1 HK.out.2.2.2.2.2.2.2
                      have hw20 : IntKind.i64.wrap (((tot n rem : Nat) : Int) - 1) = ((tot n (fun q => if q = L then r else rem q) : Nat) : Int) := by
                        have h1 := HTOT.out n (Nat.le_refl _)
                        have h2 := HQ.out.2.2.2.2.2
                        rw [IntWalk.i64_in _ (by omega)]
                        omega
                      have hw20' : wrap64 (((tot n rem : Nat) : Int) - 1) = ((tot n (fun q => if q = L then r else rem q) : Nat) : Int) := by have h1 := HTOT.out n (Nat.le_refl _); have h2 := HQ.out.2.2.2.2.2; unfold wrap64; omega
                      have hwt1 : IntKind.i64.wrap ((t : Int) + 1) = ((t + 1 : Nat) : Int) := by rw [IntWalk.i64_in _ (by have := HT5.out; omega)]; omega
                      have HR := Aside0.mk (And.intro haf.2 (And.intro ((hmem7.step (below_drew (Below.refl _ _))).step (below_drew (Below.refl _ _))) (And.intro (Kd.R_drew (Kd.R_drew hput)) (And.intro hl7 (And.intro (show W7.drew.drew.heap[g25]? = _ from hP7) htt)))))
                      have hHset : (W6.setCell ⟨go, L, none⟩ (.slice (some ad) (mc - 1) 0)).drew = W7.drew := by rw [hW7]; rfl
                      rw [hHset]
                      simp only [hw20']
                      clear hwb hgo41 hmem6 hal hcs41 hset hput hbset hmem7 hl7 hne25 hP7 hF7 hsl hpk hNo haf hkN hwt htt hHset hW7 hchv
                      go_region_held3 (fun w' => w'.cell? ⟨g25, 0, none⟩ = some (.bool p.f0) ∧ w'.cell? ⟨g25, 1, none⟩ = some (.bool p.f1) ∧ w'.cell? ⟨g25, 2, none⟩ = some (.int .i64 p.f2) ∧ w'.cell? ⟨g25, 3, none⟩ = some (.slice Aq p.f3.length cq)) (first | go_keep)
                        (first | (go_at_call 35; refine hfd.mono ?_; rintro e w4 ⟨vd4, ve4, wv4, er4, rfl, hJ4, hR4, hE4, hk4, hm4, hb4⟩; have hP4 := (hk4.2 g25 (Array.getElem?_eq_some_iff.1 HR.out.2.2.2.2.1).1 (fun hm => by have h1 := mut_lt HQ.out.2.1.jm g25 hm; have h2 := HPN.out.2; omega)).trans HR.out.2.2.2.2.1; obtain ⟨u0, u1, u2, u3⟩ := cells4 hP4; have HY := Aside0.mk (And.intro hJ4 (And.intro hR4 (And.intro hE4 (And.intro hk4 (And.intro hm4 hb4))))); clear hJ4 hR4 hE4 hk4 hm4 hb4 hP4))
                      obtain ⟨hJ4, hR4, hE4, hk4, hm4, hb4⟩ := HY.out
                      have hmF := HR.out.2.1.fed hJ4 hk4 hm4 hb4
                      obtain ⟨gr, g1, g2⟩ := hmF.got
                      obtain ⟨Ae, ce, rfl⟩ := Kd.R_slice hR4
                      obtain ⟨Ag, cg, rfl⟩ := Kd.R_slice g1
                      have hgl := g2.1
                      have hel := hE4.1
                      have hevb := HR.out.1.evs
                      rw [List.length_append, ← hgl, ← hel] at hevb
                      have HAP := Aside0.mk (And.intro g1 (And.intro g2 (And.intro hmF (show gr.length + er4.length ≤ 1000000000 by have := HT5.out; omega))))
                      clear hJ4 hR4 hE4 hk4 hm4 hb4 hmF g1 g2 hgl hel hevb
                      go_wp2_with (at_builtin; (refine Kd.R_append_rows (rawK 4) (w0 := w4) (W := w4) wsz ?aW (.tmp 159) (.tmp 160) 72 84 (.agg #[.int .i64 0, .slice none 0 0, .int .i64 0, .int .i64 0]) 48 ?aU Tryd.underlying72 info84 rfl (by decide) (by decide) (.slice Ag gr.length cg) gr er4 Ae er4.length ce (fun _ => True) (fun _ => False) ?aV ?aX ?aO ?aR (fun _ _ h => h) (fun _ h => h.elim) (fun _ _ => trivial) ?aB ?aS ?aL ?_); (case aW => rfl); (case aU => rfl); (case aV => rfl); (case aX => rfl); (case aO => exact HAP.out.1); (case aR => exact R_C HY.out.2.1); (case aB => exact Below.refl _ _); (case aS => exact HAP.out.2.2.1.b1); (case aL => have := HAP.out.2.2.2; omega); intro v1 w9 ho hb9 hg hat; have HO := Aside0.mk (And.intro ho (And.intro hb9 hg)); clear ho hb9 hg hat)
                      go_roundg (tot n (fun q => if q = L then r else rem q))
                      case measure => have := HR.out.2.2.2.2.2; omega
                      case rel =>
                        obtain ⟨ho, hb9, hg⟩ := HO.out
                        obtain ⟨hJ4, hR4, hE4, hk4, hm4, hb4⟩ := HY.out
                        obtain ⟨g1, g2, hmF, -⟩ := HAP.out
                        have hm9 := hmF.got' gr g1 g2 hE4 ho hb9 hg
                        have hgolt := HE.out.2.2.2.1
                        have hout4 := R_elder rfl HR.out.2.2.1 hb4 (fun k hk => by have e : go = k := by simpa [Value.ownBlock] using hk
                                                                                   rw [← e]; exact hgolt)
                        have hout9 := R_elder rfl hout4 hb9 (fun k hk => by have e : go = k := by simpa [Value.ownBlock] using hk
                                                                            rw [← e]; exact hgolt)
                        have hl9 := fun q hq => ((HR.out.2.2.2.1 q hq).step (w' := w4) (fun k hk _ _ => hb4.block k hk)).step (w' := w9) (fun k hk _ _ => hb9.block k hk)
                        exact ⟨t + 1, _, _, vd4, wv4, _, _, rfl, by first | rfl | rw [hwt1], rfl, by have h1 := HR.out.2.2.2.2.2; have h2 := HQ.out.2.2.2.2.2; omega, HR.out.1, hm9, hout9, by rw [List.length_set]; exact HQ.out.2.2.2.1, hl9⟩
--END1
                    case inr hcc =>
                      obtain ⟨chv, hcv⟩ : ∃ chv : Ch, chv = (some ⟨ad.block, ad.off + 4, none⟩, mc - 1, cc - 1) := ⟨_, rfl⟩
                      have hchv : LaneF W6 wsz go ps chv r := by
                        rw [hcv]
                        exact ((laneF_tail HK.out.1 HK.out.2.1 HK.out.2.2.1 HK.out.2.2.2.1).1).step (fun k _ _ hl => HBA.out.block k hl)
                      subst hcv
--TAIL2
                      have hwb : W.heap.size ≤ b41 := HWB.out
                      have hgo41 : b41 ≤ go := Kd.R_base HOUT6.out go rfl
                      have hmem6 := HQ.out.2.1.step HBA.out
                      have hal := HQ.out.1
                      obtain ⟨cs41, hcs41⟩ := own_type HOUT6.out go rfl
                      have hset : Over 41 W6 (W6.setCell ⟨go, L, none⟩ (encS (some ⟨ad.block, ad.off + 4, none⟩, mc - 1, cc - 1))) := over_set hcs41
                      have hput := Kd.R_putn HOUT6.out (L : Int) (some ⟨ad.block, ad.off + 4, none⟩, mc - 1, cc - 1)
                      simp only [Int.toNat_natCast] at hput
                      have hbset : Below W.heap.size W (W6.setCell ⟨go, L, none⟩ (encS (some ⟨ad.block, ad.off + 4, none⟩, mc - 1, cc - 1))) := hmem6.below.setCell (p := ⟨go, L, none⟩) (Nat.le_trans hwb hgo41) _
                      have hmem7 := Mem.over hmem6 hset (by decide) (by decide) (by decide) (by decide) (by decide) hbset
                      have hl7 : ∀ q, q < n → LaneF (W6.setCell ⟨go, L, none⟩ (encS (some ⟨ad.block, ad.off + 4, none⟩, mc - 1, cc - 1))) wsz go ps ((chs3.set L (some ⟨ad.block, ad.off + 4, none⟩, mc - 1, cc - 1)).getD q no) (if q = L then r else rem q) := by
                        intro q hq
                        by_cases e : q = L
                        · subst e
                          rw [if_pos rfl, List.getD_eq_getElem?_getD, List.getElem?_set_self (by rw [HQ.out.2.2.2.1]; exact hq)]
                          exact hchv.step (fun k _ hk _ => far_cell W6 go q k _ hk)
                        · rw [if_neg e, List.getD_eq_getElem?_getD, List.getElem?_set_ne (Ne.symm e), ← List.getD_eq_getElem?_getD]
                          exact ((HQ.out.2.2.2.2.1 q hq).step (fun k _ _ hl => HBA.out.block k hl)).step (fun k _ hk _ => far_cell W6 go L k _ hk)
                      have hne25 : g25 ≠ go := by
                        have h1 := HPN.out.2
                        have h2 := (Array.getElem?_eq_some_iff.1 (own_type HQ.out.2.2.1 go rfl).choose_spec).1
                        omega
                      have hP7 : (W6.setCell ⟨go, L, none⟩ (encS (some ⟨ad.block, ad.off + 4, none⟩, mc - 1, cc - 1))).heap[g25]? = some (.cells #[.bool p.f0, .bool p.f1, .int .i64 p.f2, .slice Aq p.f3.length cq] 29 (0, 0)) := (far_cell W6 go L g25 _ hne25).trans HPN.out.1
                      have hF7 : Kd.F (Kd.int .u8) (W6.setCell ⟨go, L, none⟩ (encS (some ⟨ad.block, ad.off + 4, none⟩, mc - 1, cc - 1))) (fun k => k < wsz ∧ k ≠ go) Aq p.f3.length p.f3 := Kd.F_step (Kd.F_step HK.out.2.2.2.2.2.2.1 (fun k _ hl => HBA.out.block k hl)) (fun k hk _ => far_cell W6 go L k _ hk.2)
                      obtain ⟨W7, hW7⟩ : ∃ W7, W7 = W6.setCell ⟨go, L, none⟩ (encS (some ⟨ad.block, ad.off + 4, none⟩, mc - 1, cc - 1)) := ⟨_, rfl⟩
                      rw [← hW7] at hput hmem7 hl7 hP7 hF7
                      have hsl : Sl0 W7.drew.drew (Mut g bm vl vd3 (.slice none 0 0)) Aq p.f3.length p.f3 := by
                        refine Kd.F_mono (show Kd.F (Kd.int .u8) W7.drew.drew (fun k => k < wsz ∧ k ≠ go) Aq p.f3.length p.f3 from Kd.F_drew (Kd.F_drew hF7)) (fun k hk => ⟨Nat.lt_of_lt_of_le hk.1 hmem7.b1, fun hm => ?_⟩)
                        have := mut_ge hmem7.jm k hm
                        have := hk.1
                        omega
                      have hpk : psI nm X P.length kk = p := by rw [← HPS.out.2]; exact HK.out.2.2.2.2.1
                      have hNo : off X P.length ≤ 2000 := HOFF.out
                      have haf := al_feed hal hNo (by rw [HNM.out]; cases short <;> simp [numbers]) HDF.out (fun k hk => ps_ok nm X P.length k hk) HLN.out.2.1 HK.out.2.2.2.2.2.2.2
                      rw [hpk] at haf
                      have hkN : p.f3.length ≤ 5 := by
                        rw [← hpk]
                        obtain ⟨dn, hdn, -⟩ := hal.lane L HLN.out.2.1
                        have hm : kk ∈ idx df (off X P.length) L := by rw [hdn, HK.out.2.2.2.2.2.2.2]; simp
                        exact (ps_ok nm X P.length kk (idx_mem.1 hm).1).2
                      have hwt := al_wait hal
                      have hfd := feed_any W7.drew.drew wsz g bm vl vd3 wv3 J3 ((t : Int) * 16777216) (L : Int) p Aq cq (jm_drew (jm_drew hmem7.jm)) hal.still (by rw [hal.nm, HNM.out]; have := (numbers_pos short).2; have := HT5.out; omega) hmem7.b1 (by omega) (by omega) HK.out.2.2.2.2.2.1 hsl
                      rw [haf.1] at hfd
                      obtain ⟨b0, b1, b2, b3⟩ := cells4 hP7
                      have htt := tot_take HLN.out.2.1 HK.out.2.2.2.2.2.2.2
                      have hw20 : IntKind.i64.wrap (((tot n rem : Nat) : Int) - 1) = ((tot n (fun q => if q = L then r else rem q) : Nat) : Int) := by
                        have h1 := HTOT.out n (Nat.le_refl _)
                        have h2 := HQ.out.2.2.2.2.2
                        rw [IntWalk.i64_in _ (by omega)]
                        omega
                      have hw20' : wrap64 (((tot n rem : Nat) : Int) - 1) = ((tot n (fun q => if q = L then r else rem q) : Nat) : Int) := by have h1 := HTOT.out n (Nat.le_refl _); have h2 := HQ.out.2.2.2.2.2; unfold wrap64; omega
                      have hwt1 : IntKind.i64.wrap ((t : Int) + 1) = ((t + 1 : Nat) : Int) := by rw [IntWalk.i64_in _ (by have := HT5.out; omega)]; omega
                      have HR := Aside0.mk (And.intro haf.2 (And.intro ((hmem7.step (below_drew (Below.refl _ _))).step (below_drew (Below.refl _ _))) (And.intro (Kd.R_drew (Kd.R_drew hput)) (And.intro hl7 (And.intro (show W7.drew.drew.heap[g25]? = _ from hP7) htt)))))
                      have hHset : (W6.setCell ⟨go, L, none⟩ (.slice (some ⟨ad.block, ad.off + 4, none⟩) (mc - 1) (cc - 1))).drew = W7.drew := by rw [hW7]; rfl
                      rw [hHset]
                      simp only [hw20']
                      clear hwb hgo41 hmem6 hal hcs41 hset hput hbset hmem7 hl7 hne25 hP7 hF7 hsl hpk hNo haf hkN hwt htt hHset hW7 hchv
                      go_region_held3 (fun w' => w'.cell? ⟨g25, 0, none⟩ = some (.bool p.f0) ∧ w'.cell? ⟨g25, 1, none⟩ = some (.bool p.f1) ∧ w'.cell? ⟨g25, 2, none⟩ = some (.int .i64 p.f2) ∧ w'.cell? ⟨g25, 3, none⟩ = some (.slice Aq p.f3.length cq)) (first | go_keep)
                        (first | (go_at_call 35; refine hfd.mono ?_; rintro e w4 ⟨vd4, ve4, wv4, er4, rfl, hJ4, hR4, hE4, hk4, hm4, hb4⟩; have hP4 := (hk4.2 g25 (Array.getElem?_eq_some_iff.1 HR.out.2.2.2.2.1).1 (fun hm => by have h1 := mut_lt HQ.out.2.1.jm g25 hm; have h2 := HPN.out.2; omega)).trans HR.out.2.2.2.2.1; obtain ⟨u0, u1, u2, u3⟩ := cells4 hP4; have HY := Aside0.mk (And.intro hJ4 (And.intro hR4 (And.intro hE4 (And.intro hk4 (And.intro hm4 hb4))))); clear hJ4 hR4 hE4 hk4 hm4 hb4 hP4))
                      obtain ⟨hJ4, hR4, hE4, hk4, hm4, hb4⟩ := HY.out
                      have hmF := HR.out.2.1.fed hJ4 hk4 hm4 hb4
                      obtain ⟨gr, g1, g2⟩ := hmF.got
                      obtain ⟨Ae, ce, rfl⟩ := Kd.R_slice hR4
                      obtain ⟨Ag, cg, rfl⟩ := Kd.R_slice g1
                      have hgl := g2.1
                      have hel := hE4.1
                      have hevb := HR.out.1.evs
                      rw [List.length_append, ← hgl, ← hel] at hevb
                      have HAP := Aside0.mk (And.intro g1 (And.intro g2 (And.intro hmF (show gr.length + er4.length ≤ 1000000000 by have := HT5.out; omega))))
                      clear hJ4 hR4 hE4 hk4 hm4 hb4 hmF g1 g2 hgl hel hevb
                      go_wp2_with (at_builtin; (refine Kd.R_append_rows (rawK 4) (w0 := w4) (W := w4) wsz ?aW (.tmp 159) (.tmp 160) 72 84 (.agg #[.int .i64 0, .slice none 0 0, .int .i64 0, .int .i64 0]) 48 ?aU Tryd.underlying72 info84 rfl (by decide) (by decide) (.slice Ag gr.length cg) gr er4 Ae er4.length ce (fun _ => True) (fun _ => False) ?aV ?aX ?aO ?aR (fun _ _ h => h) (fun _ h => h.elim) (fun _ _ => trivial) ?aB ?aS ?aL ?_); (case aW => rfl); (case aU => rfl); (case aV => rfl); (case aX => rfl); (case aO => exact HAP.out.1); (case aR => exact R_C HY.out.2.1); (case aB => exact Below.refl _ _); (case aS => exact HAP.out.2.2.1.b1); (case aL => have := HAP.out.2.2.2; omega); intro v1 w9 ho hb9 hg hat; have HO := Aside0.mk (And.intro ho (And.intro hb9 hg)); clear ho hb9 hg hat)
                      go_roundg (tot n (fun q => if q = L then r else rem q))
                      case measure => have := HR.out.2.2.2.2.2; omega
                      case rel =>
                        obtain ⟨ho, hb9, hg⟩ := HO.out
                        obtain ⟨hJ4, hR4, hE4, hk4, hm4, hb4⟩ := HY.out
                        obtain ⟨g1, g2, hmF, -⟩ := HAP.out
                        have hm9 := hmF.got' gr g1 g2 hE4 ho hb9 hg
                        have hgolt := HE.out.2.2.2.1
                        have hout4 := R_elder rfl HR.out.2.2.1 hb4 (fun k hk => by have e : go = k := by simpa [Value.ownBlock] using hk
                                                                                   rw [← e]; exact hgolt)
                        have hout9 := R_elder rfl hout4 hb9 (fun k hk => by have e : go = k := by simpa [Value.ownBlock] using hk
                                                                            rw [← e]; exact hgolt)
                        have hl9 := fun q hq => ((HR.out.2.2.2.1 q hq).step (w' := w4) (fun k hk _ _ => hb4.block k hk)).step (w' := w9) (fun k hk _ _ => hb9.block k hk)
                        exact ⟨t + 1, _, _, vd4, wv4, _, _, rfl, by first | rfl | rw [hwt1], rfl, by have h1 := HR.out.2.2.2.2.2; have h2 := HQ.out.2.2.2.2.2; omega, HR.out.1, hm9, hout9, by rw [List.length_set]; exact HQ.out.2.2.2.1, hl9⟩
--END2
            · have f3 : decide ((0 : Int) < ((tot n rem : Nat) : Int)) = false := decide_eq_false (by omega)
              have f3' : decide (0 < tot n rem) = false := decide_eq_false hpos
              have hrem := tot_zero (show tot n rem = 0 by omega)
              obtain ⟨hw0, hpre⟩ := al_end HQ.out.1 hrem HDF.out ⟨rfl, rfl, rfl, rfl⟩ HX.out.2
              have hst := HQ.out.1.still
              have hthin : thinJ 0 J3 = J3 := thin_stop (by rw [hw0]; simp)
              have hphi : 2 * phi J3 ≤ 70000 := by
                unfold phi
                rw [hw0]
                split <;> (try split) <;> simp <;> (try split) <;> omega
              have hfl := flush_any W3 wsz g bm vl vd3 _ wv3 [] J3 _ HQ.out.2.1.jm hst.ok hst.step (by have := HT5.out; omega) HQ.out.2.1.b1 (by simp; omega)
              rw [hthin] at hfl
              obtain ⟨gr, g1, g2⟩ := HQ.out.2.1.got
              obtain ⟨Ag, cg, rfl⟩ := Kd.R_slice g1
              have hgl : gr.length = P.length := by rw [g2.1, hpre]; simp
              rw [hgl]
              have hev3 : J3.evs = [] := hst.evs
              have hPl := HM.out.1
              have HG := Aside0.mk (And.intro g1 (And.intro g2 (And.intro hpre (And.intro hw0 (And.intro hev3 hgl)))))
              clear hrem hw0 hpre hst hthin hphi g1 g2 hgl hpos hev3 hPl
              have z1 : ((P.length : Int) == (P.length : Int)) = true := by simp
              go_wp2_with (fail)
              refine hfl.mono ?_
              rintro e w4 ⟨vd4, ve4, wv4, er4, rfl, hJ4, hR4, hE4, hk4, hm4, hb4⟩
              have hmF := HQ.out.2.1.fed hJ4 hk4 hm4 hb4
              rw [HG.out.2.2.2.2.1] at hE4
              have hle : er4.length = 0 := hE4.1
              obtain ⟨A4, c4, rfl⟩ := Kd.R_slice hR4
              simp only [hle]
              have hkp := kept_any w4 _ g bm _ _ _ _ _ _ hJ4
              have hwz : ({ J3 with evs := [] } : Jn).wait.length = 0 := by
                show J3.wait.length = 0
                rw [HG.out.2.2.2.1]
                rfl
              rw [hwz] at hkp
              have HF := Aside0.mk (And.intro hmF (And.intro (R_joiner rfl HG.out.1 HQ.out.2.1.jm hk4 (by decide) (by decide) (by decide)) (HG.out.2.1.imp fun x y hxy => Yb.EvOK.kept hxy hk4 hm4)))
              clear hJ4 hR4 hE4 hk4 hm4 hb4 hmF hwz hfl hle
              go_upto_region 38 with (first
                | (go_at_call 36; refine hkp.mono ?_; rintro e w5 ⟨rfl, rfl⟩))
              obtain ⟨T, hT⟩ : ∃ T, T = pre3 := ⟨_, rfl⟩
              have HH := Aside0.mk (And.intro HF.out.2.1 (And.intro HF.out.2.2 (And.intro HG.out.2.2.1 (And.intro HG.out.2.2.2.2.2 HF.out.1.below))))
              clear HF HQ HG hT hkp HE HTOT
              go_wp2_with (fail)
              go_loopg [180] P.length (fun k v180 wr5 => Aside0 (∃ s : Nat, v180 = .int .i64 (s : Int) ∧ s ≤ P.length ∧ k = P.length - s ∧ Below w5.heap.size w5 wr5))
              case atStart => exact ⟨0, rfl, Nat.zero_le _, by omega, Below.refl _ _⟩
              case round =>
                obtain ⟨s, rfl, hs, rfl, hbl⟩ := hrel.out
                clear hrel
                obtain ⟨W3', hW3'⟩ : ∃ V, V = wr := ⟨_, rfl⟩
                rw [← hW3'] at hbl ⊢
                clear hW3'
                have HS' := Aside0.mk (And.intro hs hbl)
                clear hs hbl
                by_cases hsl : s < P.length
                · have g1 : decide ((s : Int) < (P.length : Int)) = true := decide_eq_true (by omega)
                  have g1' : decide (s < P.length) = true := decide_eq_true hsl
                  have hs0 : (0 : Int) ≤ (s : Int) := by omega
                  have hs2 : (s : Int) < (P.length : Int) := by omega
                  have hws : IntKind.i64.wrap ((s : Int) + 1) = ((s + 1 : Nat) : Int) := by rw [IntWalk.i64_in _ (by have := HM.out.1; omega)]; omega
                  obtain ⟨ade, ev, A3, c3, rfl, hTs, x0, x1, x2, x3, l3, g3⟩ := ev_at HH.out.1 HH.out.2.1 s (by rw [HH.out.2.2.2.1]; exact hsl)
                  obtain ⟨x, hx⟩ : ∃ x, X s = x := ⟨_, rfl⟩
                  have hev : ev = ev0 x := by
                    rw [HH.out.2.2.1, List.getElem?_map, List.getElem?_map, List.getElem?_range hsl] at hTs
                    have h9 : some (ev0 (X s)) = some ev := hTs
                    rw [hx] at h9
                    exact (Option.some.inj h9).symm
                  subst hev
                  simp only [ev0] at x0 x1 x2 x3 l3 g3
                  obtain ⟨adp, A0, c0, rfl, p0, pl, pC⟩ := at_L3 HIN.out.1 (s : Int) hs0 hs2
                  have hrd : rd_L3 P (s : Int) = x := by rw [← hx, HX.out.1]; rfl
                  rw [hrd] at p0 pl pC
                  have hx60 : x.length ≤ 60 := by rw [← hx]; exact HX.out.2 s
                  have y0 := pw_cell_below HS'.out.2 x0
                  have y1 := pw_cell_below HS'.out.2 x1
                  have y2 := pw_cell_below HS'.out.2 x2
                  have y3 := pw_cell_below HS'.out.2 x3
                  have q0 := pw_cell_below (below_step HH.out.2.2.2.2 HS'.out.2) p0
                  simp only [Int.toNat_natCast] at q0
                  have HEV := Aside0.mk (And.intro l3 (And.intro g3 (And.intro pl (And.intro pC hx60))))
                  have HSL := Aside0.mk hsl
                  clear x0 x1 x2 x3 l3 g3 pl pC hTs hsl p0 hx hrd hx60
                  go_upto_region 41 with (fail)
                  have hba := below_alloc (Below.refl W3'.heap.size W3') (.cells #[.int .i64 0, .slice A3 x.length c3, .int .i64 0, .int .i64 0] 84)
                  have hPn := new1 W3' (.cells #[.int .i64 0, .slice A3 x.length c3, .int .i64 0, .int .i64 0] 84)
                  obtain ⟨g29, hg29⟩ : ∃ q, W3'.heap.size = q := ⟨_, rfl⟩
                  rw [hg29] at hPn
                  have HPN := Aside0.mk hPn
                  have HBA := Aside0.mk (below_step HS'.out.2 hba)
                  have q1 := pw_cell_below hba q0
                  simp only [hg29]
                  clear hba hPn hg29 y0 y1 y2 y3 q0
                  generalize W3'.alloc (.cells #[.int .i64 0, .slice A3 x.length c3, .int .i64 0, .int .i64 0] 84) = W1 at HPN HBA q1 ⊢
                  obtain ⟨b0, b1, b2, b3⟩ := cells4 HPN.out
                  have HEQ := Aside0.mk (And.intro (Kd.C_below HEV.out.2.1 HBA.out) (And.intro HEV.out.1 (And.intro (Kd.C_below HEV.out.2.2.2.1 (below_step HH.out.2.2.2.2 HBA.out)) (And.intro HEV.out.2.2.1 (equal_self x (by have := HEV.out.2.2.2.2; omega))))))
                  go_region_held3 (fun w' => w'.cell? ⟨g29, 0, none⟩ = some (.int .i64 0) ∧ w'.cell? ⟨g29, 1, none⟩ = some (.slice A3 x.length c3) ∧ w'.cell? (adp.add s) = some (.slice A0 x.length c0)) (first | go_keep)
                    (first | (go_at_call 17; refine (marlineref01_Equal.calls (x.length + 1) A3 c3 x A0 c0 x true _ (Kd.C_drew HEQ.out.1) HEQ.out.2.1 (Kd.C_drew HEQ.out.2.2.1) HEQ.out.2.2.2.1 HEQ.out.2.2.2.2).mono ?_; rintro e2 w2 ⟨rfl, hd2⟩; have HD2 := Aside0.mk hd2; have u0 : w2.cell? ⟨g29, 0, none⟩ = some (.int .i64 0) := pw_cell_below hd2.below b0; have u1 : w2.cell? ⟨g29, 1, none⟩ = some (.slice A3 x.length c3) := pw_cell_below hd2.below b1; have u2 : w2.cell? (adp.add s) = some (.slice A0 x.length c0) := pw_cell_below hd2.below q1; clear hd2))
                  go_wp2
                  go_roundg (P.length - (s + 1))
                  case measure => have := HSL.out; omega
                  case rel => exact ⟨s + 1, by first | rfl | rw [hws], HSL.out, rfl, (below_drew HBA.out).trans (HD2.out.below.mono HBA.out.size)⟩
                · have g1 : decide ((s : Int) < (P.length : Int)) = false := decide_eq_false (by omega)
                  have g1' : decide (s < P.length) = false := decide_eq_false hsl
                  clear hsl
                  go_wp2_with (fail)
                  go_ret
                  exact ⟨rfl, below_step HH.out.2.2.2.2 HS'.out.2⟩

end Go.Proofs.YtgopklnfdlnojaaDoor.Ze
