/- JoinRoom, walked: it answers true. -/
import Derived.Test.YtgopklnfdlnojaaDoorNe
namespace Go.Proofs.YtgopklnfdlnojaaDoor.Nf
open Go.RowKit Go.Proofs.YtgopklnfdlnojaaDoor.Ga Go.Proofs.YtgopklnfdlnojaaDoor.My Go.Proofs.YtgopklnfdlnojaaDoor.Gb Go.Proofs.YtgopklnfdlnojaaDoor.Gp Go.Proofs.YtgopklnfdlnojaaDoor.Ja Go.Proofs.YtgopklnfdlnojaaDoor.Jb Go.Proofs.YtgopklnfdlnojaaDoor.Jc Go.Proofs.YtgopklnfdlnojaaDoor.Jd Go.Proofs.YtgopklnfdlnojaaDoor.Je Go.Proofs.YtgopklnfdlnojaaDoor.Jf Go.Proofs.YtgopklnfdlnojaaDoor.Jg Go.Proofs.YtgopklnfdlnojaaDoor.Jh Go.Proofs.YtgopklnfdlnojaaDoor.Ji Go.Proofs.YtgopklnfdlnojaaDoor.Ix Go.Proofs.YtgopklnfdlnojaaDoor.Nb Go.Proofs.YtgopklnfdlnojaaDoor.Nc Go.Proofs.YtgopklnfdlnojaaDoor.Nd Go.Proofs.YtgopklnfdlnojaaDoor.Ne Go.Proofs.YtgopklnfdlnojaaDoorW.PrintWords Go.Proofs.YtgopklnfdlnojaaDoorW.PrintLast Go.Proofs.YtgopklnfdlnojaaDoorW.PrintMore
set_option linter.unusedVariables false
set_option linter.unusedSimpArgs false

/-- A piece, as another type. -/
def to29 (p : S24) : S29 := ⟨p.f0, p.f1, p.f2, p.f3⟩

set_option maxHeartbeats 4000000 in
set_option maxRecDepth 100000 in
theorem room_walk (links room : Int) (A : Option Addr) (c : Nat) (l : List S67) (W : World) (hS : Shapes W) (hl0 : 0 ≤ links ∧ links ≤ 255) (hr0 : 0 ≤ room ∧ room ≤ 255) (hC : k67.C W A l.length l) (hc : l.length ≤ c) :
    Calls Tryd.prog 9 #[.int .u8 links, .int .u8 room, .slice A l.length c] W fun e w' => e = .returned (.bool true) ∧ Below W.heap.size W w' := by
  have hsp := speaks_any W hS
  have HS := Aside0.mk hS
  have HC := Aside0.mk hC
  have HL := Aside0.mk hc
  clear hS hC hc
  by_cases hlen : (60 : Int) < (l.length : Int)
  · have d60 : decide ((60 : Int) < (l.length : Int)) = true := decide_eq_true hlen
    have d60' : decide (60 < l.length) = true := decide_eq_true (by omega)
    clear hlen hl0 hr0
    go_enter Tryd.func9, Tryd.ntmps9
    go_upto_region 2 with (first
      | (go_at_call 27; refine hsp.mono ?_; rintro e w1 ⟨rfl, hb1⟩; have HB1 := Aside0.mk hb1; clear hb1))
    have hsp2 := speaks_any w1 (HS.out.below HB1.out)
    go_wp2_with (first
      | (go_at_call 27; refine hsp2.mono ?_; rintro e w2 ⟨rfl, hb2⟩; have HB2 := Aside0.mk hb2; clear hb2))
    go_ret
    exact ⟨rfl, below_step HB1.out HB2.out⟩
  · have d60 : decide ((60 : Int) < (l.length : Int)) = false := decide_eq_false hlen
    have d60' : decide (60 < l.length) = false := decide_eq_false (by omega)
    obtain ⟨n, hn⟩ : ∃ n : Int, 1 + Int.tmod links 16 = n := ⟨_, rfl⟩
    obtain ⟨m, hm⟩ : ∃ m : Int, 1 + Int.tmod room 8 = m := ⟨_, rfl⟩
    have v1 : IntKind.i64.wrap links = links := IntWalk.i64_in _ (by omega)
    have v2 : IntKind.i64.wrap room = room := IntWalk.i64_in _ (by omega)
    have t1 := Int.tmod_lt_of_pos links (show (0 : Int) < 16 by omega)
    have t2 := Int.tmod_nonneg 16 hl0.1
    have t3 := Int.tmod_lt_of_pos room (show (0 : Int) < 8 by omega)
    have t4 := Int.tmod_nonneg 8 hr0.1
    have w3 : IntKind.i64.wrap (Int.tmod links 16) = Int.tmod links 16 := IntWalk.i64_in _ (by omega)
    have w4 : IntKind.i64.wrap (Int.tmod room 8) = Int.tmod room 8 := IntWalk.i64_in _ (by omega)
    have w5 : IntKind.i64.wrap (1 + Int.tmod links 16) = n := by rw [← hn]; exact IntWalk.i64_in _ (by omega)
    have w6 : IntKind.i64.wrap (1 + Int.tmod room 8) = m := by rw [← hm]; exact IntWalk.i64_in _ (by omega)
    have HNM := Aside0.mk (show 1 ≤ n ∧ n ≤ 16 ∧ 1 ≤ m ∧ m ≤ 8 by omega)
    have HLEN := Aside0.mk hlen
    clear hlen hl0 hr0 t1 t2 t3 t4 hn hm
    go_enter Tryd.func9, Tryd.ntmps9
    go_upto_region 4 with (first
      | (go_at_call 27; refine hsp.mono ?_; rintro e w1 ⟨rfl, hb1⟩; have HB1 := Aside0.mk hb1; clear hb1))
    have hnew := new_ok false n m 50 w1 (HS.out.below HB1.out) (by have := HNM.out; unfold mayJ; omega)
    go_wp2_with (first
      | (go_at_call 28; refine hnew.mono ?_; rintro e w2 ⟨g, bm, vl, rfl, hJ2, hb2⟩; have HB2 := Aside0.mk hb2; have HJ2 := Aside0.mk hJ2; clear hJ2 hb2))
    have hst0 := newJ_ok (short := false) (links := n) (room := m) (most := 50) (by have := HNM.out; unfold mayJ; omega)
    have HST0 := Aside0.mk hst0
    clear hst0 hnew hsp
    go_loopg [47] l.length (fun k v47 wr => Aside0 (∃ i : Nat, v47 = .int .i64 (i : Int) ∧ i ≤ l.length ∧ k = l.length - i ∧ ∃ vd wv J, JM wr w1.heap.size g bm vl vd (.slice none 0 0) wv [] J ∧ Still J ((i : Int) * 16777216) ∧ J.nm = 16777216 ∧ J.room = m ∧ (J.last.length : Int) = n ∧ J.wait.length ≤ i ∧ (J.wait.length : Int) ≤ m ∧ w1.heap.size ≤ wr.heap.size ∧ Below W.heap.size W wr))
    case atStart =>
      refine ⟨0, rfl, Nat.zero_le _, by omega, .slice none 0 0, [], newJ false n m 50, HJ2.out, ⟨by simpa using HST0.out.1, HST0.out.2, rfl, by have := HNM.out; simp [newJ]; omega⟩, rfl, rfl, ?_, Nat.le_refl _, by have := HNM.out; simp [newJ]; omega, HB2.out.size, HB1.out.trans (HB2.out.mono HB1.out.size)⟩
      have := HNM.out
      simp [newJ]
      omega
    case round =>
      obtain ⟨i, rfl, hi, rfl, vd, wv, J, hJ, hst, hnm, hrm, hll, hwi, hwm, hsz, hb⟩ := hrel.out
      clear hrel
      have HJ := Aside0.mk hJ
      have HST := Aside0.mk hst
      have HR := Aside0.mk (And.intro hi (And.intro hnm (And.intro hrm (And.intro hll (And.intro hwi (And.intro hwm (And.intro hsz hb)))))))
      clear hJ hst hi hnm hrm hll hwi hwm hsz hb
      by_cases hlt : i < l.length
      · have d1 : decide ((i : Int) < (l.length : Int)) = true := decide_eq_true (by omega)
        have d2 : decide (i < l.length) = true := decide_eq_true hlt
        obtain ⟨ad, A4, c4, rfl, y0, y1, y2, y3, y4, xl, xC⟩ := at_T67 HC.out i hlt
        have hbW := HR.out.2.2.2.2.2.2.2
        have x0 := pw_cell_below hbW y0
        have x1 := pw_cell_below hbW y1
        have x2 := pw_cell_below hbW y2
        have x3 := pw_cell_below hbW y3
        have x4 := pw_cell_below hbW y4
        clear y0 y1 y2 y3 y4 hbW
        obtain ⟨x, hx⟩ : ∃ x, l.getD i z67 = x := ⟨_, rfl⟩
        rw [hx] at x0 x1 x2 x3 x4 xl xC
        have HX := Aside0.mk (And.intro hx (And.intro xl xC))
        have hi2 : (i : Int) < (l.length : Int) := by omega
        have HLT := Aside0.mk hlt
        have hwi1 : IntKind.i64.wrap ((i : Int) + 1) = ((i + 1 : Nat) : Int) := by rw [IntWalk.i64_in _ (by have := HLEN.out; omega)]; omega
        have hi0 : (0 : Int) ≤ (i : Int) := by omega
        clear hx xl xC
        go_upto_region 10 with (fail)
        have hba := below_alloc (Below.refl wr.heap.size wr) (.cells #[.int .i64 x.f0, .bool x.f1.f0, .bool x.f1.f1, .int .i64 x.f1.f2, .slice A4 x.f1.f3.length c4] 67)
        have hP := new1 wr (.cells #[.int .i64 x.f0, .bool x.f1.f0, .bool x.f1.f1, .int .i64 x.f1.f2, .slice A4 x.f1.f3.length c4] 67)
        have HP := Aside0.mk hP
        have HBA := Aside0.mk hba
        obtain ⟨g7, hg7⟩ : ∃ q, wr.heap.size = q := ⟨_, rfl⟩
        rw [hg7] at hP HP
        simp only [hg7]
        have HG7 := Aside0.mk hg7
        clear hba hP x0 x1 x2 x3 x4 hg7
        generalize wr.alloc (.cells #[.int .i64 x.f0, .bool x.f1.f0, .bool x.f1.f1, .int .i64 x.f1.f2, .slice A4 x.f1.f3.length c4] 67) = W1 at HP HBA ⊢
        have HJ1 := Aside0.mk (jm_below HJ.out HBA.out)
        have q0 := blk_cell HP.out 0
        have q1 := blk_cell HP.out 1
        have q2 := blk_cell HP.out 2
        have q3 := blk_cell HP.out 3
        have q4 := blk_cell HP.out 4
        simp at q0 q1 q2 q3 q4
        by_cases hbig : (60 : Int) < (x.f1.f3.length : Int)
        · have d3 : decide ((60 : Int) < (x.f1.f3.length : Int)) = true := decide_eq_true hbig
          have d3' : decide (60 < x.f1.f3.length) = true := decide_eq_true (by omega)
          clear hbig
          go_wp2_with (fail)
          refine bodyPost_ret (results_tmp rfl _ _ _) rfl ?_
          exact ⟨rfl, below_step HR.out.2.2.2.2.2.2.2 HBA.out⟩
        · have d3 : decide ((60 : Int) < (x.f1.f3.length : Int)) = false := decide_eq_false hbig
          have d3' : decide (60 < x.f1.f3.length) = false := decide_eq_false (by omega)
          have HBIG := Aside0.mk hbig
          clear hbig
          have hsl := sl_came HX.out.2.2 (below_step HR.out.2.2.2.2.2.2.2 HBA.out) HJ1.out HB1.out.size
          have hfd := feed_any W1 w1.heap.size g bm vl vd wv J ((i : Int) * 16777216) x.f0 (to29 x.f1) A4 c4 HJ1.out HST.out (by have h1 := HR.out.2.1; have h2 := HLEN.out; omega) (Nat.le_trans HR.out.2.2.2.2.2.2.1 HBA.out.size) (by have h1 := HR.out.2.2.2.2.1; have := HLEN.out; omega) (by have := HBIG.out; simp only [to29]; omega) HX.out.2.1 hsl
          obtain ⟨f1, f2, f3, f4, f5, f6, f7, f8, f9⟩ := feed_still (link := x.f0) (p := to29 x.f1) HST.out (by have := HBIG.out; simp only [to29]; omega)
          have hkp := kept_any W1 _ g bm _ _ _ _ _ _ HJ1.out
          simp only [to29] at hfd
          obtain ⟨J4, hJ4e⟩ : ∃ q, (feedJ J x.f0 ⟨x.f1.f0, x.f1.f1, x.f1.f2, x.f1.f3⟩).1 = q := ⟨_, rfl⟩
          have f1' : Still (rest J4) ((i : Int) * 16777216 + J.nm) := by rw [← hJ4e]; exact f1
          have f2' : J4.nm = J.nm := by rw [← hJ4e]; exact f2
          have f3' : J4.room = J.room := by rw [← hJ4e]; exact f3
          have f5' : J4.last.length = J.last.length := by rw [← hJ4e]; exact f5
          have f6' : J4.wait.length ≤ J.wait.length + 1 := by rw [← hJ4e]; exact f6
          have f7' : (feedJ J x.f0 ⟨x.f1.f0, x.f1.f1, x.f1.f2, x.f1.f3⟩).2 = 0 → J4.wait.length ≤ J.room.toNat := by rw [← hJ4e]; exact f7
          have f8' : (feedJ J x.f0 ⟨x.f1.f0, x.f1.f1, x.f1.f2, x.f1.f3⟩).2 ≠ 0 → J4 = J := by rw [← hJ4e]; exact f8
          rw [hJ4e] at hfd
          have hr' := HR.out
          have HF := Aside0.mk (show Still (rest J4) (((i + 1 : Nat) : Int) * 16777216) ∧ J4.nm = 16777216 ∧ J4.room = m ∧ (J4.last.length : Int) = n ∧ J4.wait.length ≤ i + 1 from ⟨by
            rw [hr'.2.1] at f1'
            rw [show (((i + 1 : Nat) : Int) * 16777216) = (i : Int) * 16777216 + 16777216 by omega]
            exact f1', f2'.trans hr'.2.1, f3'.trans hr'.2.2.1, by rw [f5']; exact hr'.2.2.2.1, by omega⟩)
          clear hr'
          have hd5 : decide ((J.wait.length : Int) + 1 < (J4.wait.length : Int)) = false := decide_eq_false (by omega)
          have hd5' : decide (J.wait.length + 1 < J4.wait.length) = false := decide_eq_false (by omega)
          have hd6 : decide (m < (J4.wait.length : Int)) = false := decide_eq_false (by
            have h1 := HR.out
            by_cases hz : (feedJ J x.f0 ⟨x.f1.f0, x.f1.f1, x.f1.f2, x.f1.f3⟩).2 = 0
            · have := f7' hz
              have h3 := HNM.out
              omega
            · rw [f8' hz]
              omega)
          have hw7 : IntKind.i64.wrap ((J.wait.length : Int) + 1) = (J.wait.length : Int) + 1 := IntWalk.i64_in _ (by have := HR.out.2.2.2.2.1; have := HLEN.out; omega)
          have HF7 := Aside0.mk (And.intro f7' f8')
          have HJ4E := Aside0.mk hJ4e
          clear f1 f2 f3 f4 f5 f6 f7 f8 f9 f1' f2' f3' f5' f6' f7' f8' hsl hJ4e
          by_cases hneg : x.f0 < 0
          · have hdn : decide (x.f0 < 0) = true := decide_eq_true hneg
            have hR2 : (feedJ J x.f0 ⟨x.f1.f0, x.f1.f1, x.f1.f2, x.f1.f3⟩).2 = 1 := by unfold feedJ; rw [if_pos (.inl hneg)]
            have hsame : J4 = J := HF7.out.2 (by rw [hR2]; decide)
            clear hneg
            rw [hR2] at hfd
            go_upto_region 14 with (first
              | (go_at_call 36; refine hkp.mono ?_; rintro e w3 ⟨rfl, rfl⟩)
              | (go_at_call 35; refine hfd.mono ?_; rintro e w4 ⟨vd4, ve4, wv4, er4, rfl, hJ4, hR4, hE4, hk4, hm4, hb4⟩; have HY := Aside0.mk (And.intro hJ4 (And.intro hk4 hb4)); clear hJ4 hR4 hE4 hk4 hm4 hb4))
            have hkp4 := kept_any w4 _ g bm _ _ _ _ _ _ HY.out.1
            have hrw : (rest J4).wait = J4.wait := rfl
            rw [hrw] at hkp4
            have hP4 := (HY.out.2.1.2 g7 (Array.getElem?_eq_some_iff.1 HP.out).1 (fun e => absurd (mut_lt HJ.out _ e) (by have := HG7.out; omega))).trans HP.out
            have z0 := blk_cell hP4 0
            simp at z0
            clear hP4 q0 q1 q2 q3 q4 hfd hkp hrw
            subst hsame
            go_wp2_with (first
              | (go_at_call 36; refine hkp4.mono ?_; rintro e w5 ⟨rfl, rfl⟩))
            go_roundg (l.length - (i + 1))
            case measure => have h1 := HLT.out; omega
            case rel =>
              have h1 := HR.out
              have h2 := HF.out
              have h3 := of_decide_eq_false hd6
              refine ⟨i + 1, by first | rfl | rw [hwi1], by have := HLT.out; omega, rfl, vd4, wv4, rest J4, HY.out.1, h2.1, h2.2.1, h2.2.2.1, h2.2.2.2.1, h2.2.2.2.2, show (J4.wait.length : Int) ≤ m by omega, ?_, ?_⟩
              · exact Nat.le_trans h1.2.2.2.2.2.2.1 (Nat.le_trans HBA.out.size HY.out.2.2.size)
              · exact (below_step h1.2.2.2.2.2.2.2 HBA.out).trans (HY.out.2.2.mono HB1.out.size)
          · have hdn : decide (x.f0 < 0) = false := decide_eq_false hneg
            by_cases hge : n ≤ x.f0
            · have hdg : decide (n ≤ x.f0) = true := decide_eq_true hge
              have hR2 : (feedJ J x.f0 ⟨x.f1.f0, x.f1.f1, x.f1.f2, x.f1.f3⟩).2 = 1 := by unfold feedJ; rw [if_pos (.inr (by have := HR.out.2.2.2.1; omega))]
              have hsame : J4 = J := HF7.out.2 (by rw [hR2]; decide)
              clear hneg hge
              rw [hR2] at hfd
              go_upto_region 14 with (first
                | (go_at_call 36; refine hkp.mono ?_; rintro e w3 ⟨rfl, rfl⟩)
                | (go_at_call 35; refine hfd.mono ?_; rintro e w4 ⟨vd4, ve4, wv4, er4, rfl, hJ4, hR4, hE4, hk4, hm4, hb4⟩; have HY := Aside0.mk (And.intro hJ4 (And.intro hk4 hb4)); clear hJ4 hR4 hE4 hk4 hm4 hb4))
              have hkp4 := kept_any w4 _ g bm _ _ _ _ _ _ HY.out.1
              have hrw : (rest J4).wait = J4.wait := rfl
              rw [hrw] at hkp4
              have hP4 := (HY.out.2.1.2 g7 (Array.getElem?_eq_some_iff.1 HP.out).1 (fun e => absurd (mut_lt HJ.out _ e) (by have := HG7.out; omega))).trans HP.out
              have z0 := blk_cell hP4 0
              simp at z0
              clear hP4 q0 q1 q2 q3 q4 hfd hkp hrw
              subst hsame
              go_wp2_with (first
                | (go_at_call 36; refine hkp4.mono ?_; rintro e w5 ⟨rfl, rfl⟩))
              go_roundg (l.length - (i + 1))
              case measure => have h1 := HLT.out; omega
              case rel =>
                have h1 := HR.out
                have h2 := HF.out
                have h3 := of_decide_eq_false hd6
                refine ⟨i + 1, by first | rfl | rw [hwi1], by have := HLT.out; omega, rfl, vd4, wv4, rest J4, HY.out.1, h2.1, h2.2.1, h2.2.2.1, h2.2.2.2.1, h2.2.2.2.2, show (J4.wait.length : Int) ≤ m by omega, ?_, ?_⟩
                · exact Nat.le_trans h1.2.2.2.2.2.2.1 (Nat.le_trans HBA.out.size HY.out.2.2.size)
                · exact (below_step h1.2.2.2.2.2.2.2 HBA.out).trans (HY.out.2.2.mono HB1.out.size)
            · have hdg : decide (n ≤ x.f0) = false := decide_eq_false hge
              have hlk : ¬ (x.f0 < 0 ∨ (J.last.length : Int) ≤ x.f0) := by have := HR.out.2.2.2.1; omega
              by_cases hnum : x.f1.f2 < 0 ∨ J.nm ≤ x.f1.f2
              · have hR2 : (feedJ J x.f0 ⟨x.f1.f0, x.f1.f1, x.f1.f2, x.f1.f3⟩).2 = 5 := by unfold feedJ; rw [if_neg hlk, if_pos hnum]
                have hsame : J4 = J := HF7.out.2 (by rw [hR2]; decide)
                clear hneg hge hlk hnum
                rw [hR2] at hfd
                go_upto_region 14 with (first
                  | (go_at_call 36; refine hkp.mono ?_; rintro e w3 ⟨rfl, rfl⟩)
                  | (go_at_call 35; refine hfd.mono ?_; rintro e w4 ⟨vd4, ve4, wv4, er4, rfl, hJ4, hR4, hE4, hk4, hm4, hb4⟩; have HY := Aside0.mk (And.intro hJ4 (And.intro hk4 hb4)); clear hJ4 hR4 hE4 hk4 hm4 hb4))
                have hkp4 := kept_any w4 _ g bm _ _ _ _ _ _ HY.out.1
                have hrw : (rest J4).wait = J4.wait := rfl
                rw [hrw] at hkp4
                have hP4 := (HY.out.2.1.2 g7 (Array.getElem?_eq_some_iff.1 HP.out).1 (fun e => absurd (mut_lt HJ.out _ e) (by have := HG7.out; omega))).trans HP.out
                have z0 := blk_cell hP4 0
                simp at z0
                clear hP4 q0 q1 q2 q3 q4 hfd hkp hrw
                subst hsame
                go_wp2_with (first
                  | (go_at_call 36; refine hkp4.mono ?_; rintro e w5 ⟨rfl, rfl⟩))
                go_roundg (l.length - (i + 1))
                case measure => have h1 := HLT.out; omega
                case rel =>
                  have h1 := HR.out
                  have h2 := HF.out
                  have h3 := of_decide_eq_false hd6
                  refine ⟨i + 1, by first | rfl | rw [hwi1], by have := HLT.out; omega, rfl, vd4, wv4, rest J4, HY.out.1, h2.1, h2.2.1, h2.2.2.1, h2.2.2.2.1, h2.2.2.2.2, show (J4.wait.length : Int) ≤ m by omega, ?_, ?_⟩
                  · exact Nat.le_trans h1.2.2.2.2.2.2.1 (Nat.le_trans HBA.out.size HY.out.2.2.size)
                  · exact (below_step h1.2.2.2.2.2.2.2 HBA.out).trans (HY.out.2.2.mono HB1.out.size)
              · have hR2 : (feedJ J x.f0 ⟨x.f1.f0, x.f1.f1, x.f1.f2, x.f1.f3⟩).2 = 0 := by unfold feedJ; rw [if_neg hlk, if_neg hnum]
                have hsame : True := trivial
                clear hneg hge hlk hnum
                rw [hR2] at hfd
                go_upto_region 14 with (first
                  | (go_at_call 36; refine hkp.mono ?_; rintro e w3 ⟨rfl, rfl⟩)
                  | (go_at_call 35; refine hfd.mono ?_; rintro e w4 ⟨vd4, ve4, wv4, er4, rfl, hJ4, hR4, hE4, hk4, hm4, hb4⟩; have HY := Aside0.mk (And.intro hJ4 (And.intro hk4 hb4)); clear hJ4 hR4 hE4 hk4 hm4 hb4))
                have hkp4 := kept_any w4 _ g bm _ _ _ _ _ _ HY.out.1
                have hrw : (rest J4).wait = J4.wait := rfl
                rw [hrw] at hkp4
                have hP4 := (HY.out.2.1.2 g7 (Array.getElem?_eq_some_iff.1 HP.out).1 (fun e => absurd (mut_lt HJ.out _ e) (by have := HG7.out; omega))).trans HP.out
                have z0 := blk_cell hP4 0
                simp at z0
                clear hP4 q0 q1 q2 q3 q4 hfd hkp hrw
                go_wp2_with (first
                  | (go_at_call 36; refine hkp4.mono ?_; rintro e w5 ⟨rfl, rfl⟩))
                go_roundg (l.length - (i + 1))
                case measure => have h1 := HLT.out; omega
                case rel =>
                  have h1 := HR.out
                  have h2 := HF.out
                  have h3 := of_decide_eq_false hd6
                  refine ⟨i + 1, by first | rfl | rw [hwi1], by have := HLT.out; omega, rfl, vd4, wv4, rest J4, HY.out.1, h2.1, h2.2.1, h2.2.2.1, h2.2.2.2.1, h2.2.2.2.2, show (J4.wait.length : Int) ≤ m by omega, ?_, ?_⟩
                  · exact Nat.le_trans h1.2.2.2.2.2.2.1 (Nat.le_trans HBA.out.size HY.out.2.2.size)
                  · exact (below_step h1.2.2.2.2.2.2.2 HBA.out).trans (HY.out.2.2.mono HB1.out.size)
      · have d1 : decide ((i : Int) < (l.length : Int)) = false := decide_eq_false (by omega)
        have d2 : decide (i < l.length) = false := decide_eq_false hlt
        have hK : (i : Int) * 16777216 ≤ 1000000000000 := by have h1 := HR.out.1; have h2 := HLEN.out; omega
        have hphi : 2 * phi J ≤ 70000 := by
          have h1 := HR.out.2.2.2.2.1
          have h2 := HLEN.out
          have h3 := HR.out.1
          unfold phi
          split <;> split <;> (try split) <;> omega
        have hfl := flush_any wr w1.heap.size g bm vl vd _ wv [] J _ HJ.out HST.out.ok HST.out.step hK HR.out.2.2.2.2.2.2.1 (by simp; omega)
        obtain ⟨a1, a2, a3, a4, a5, a6, a7, a8, a9⟩ := thin_ok (room := 0) _ (Nat.le_refl _) HST.out.ok HST.out.step
        have hz : (rest (thinJ 0 J)).wait.length = 0 := Nat.le_zero.1 a9
        have hph2 : 2 * phi (rest (thinJ 0 J)) ≤ 80000 := by
          have e : (thinJ 0 J).wait.length = 0 := hz
          unfold phi
          rw [hz]
          split <;> split <;> (try split) <;> omega
        have HT := Aside0.mk (And.intro (ok_rest a1) (And.intro (step_rest a2) (And.intro hz hph2)))
        have hsame : thinJ 0 (rest (thinJ 0 J)) = rest (thinJ 0 J) := thin_stop (by omega)
        have HSM := Aside0.mk hsame
        clear a1 a2 a3 a4 a5 a6 a7 a8 a9 hz hph2 hsame hphi
        go_upto_region 19 with (first
          | (go_at_call 33; refine hfl.mono ?_; rintro e w3 ⟨vd3, ve3, wv3, er3, rfl, hJ3, hR3, hE3, hk3, hm3, hb3⟩; have HY := Aside0.mk (And.intro hJ3 (And.intro hk3 hb3)); clear hJ3 hR3 hE3 hk3 hm3 hb3))
        have hJ3 : JM w3 w1.heap.size g bm vl vd3 (.slice none 0 0) wv3 [] (rest (thinJ 0 J)) := HY.out.1
        have hkp3 := kept_any w3 _ g bm _ _ _ _ _ _ hJ3
        have hfl3 := flush_any w3 w1.heap.size g bm vl vd3 _ wv3 [] _ _ hJ3 HT.out.1 HT.out.2.1 hK (Nat.le_trans HR.out.2.2.2.2.2.2.1 HY.out.2.2.size) (by have := HT.out.2.2.2; simp; omega)
        rw [HT.out.2.2.1] at hkp3
        clear hJ3 hfl
        go_wp2_with (first
          | (go_at_call 36; refine hkp3.mono ?_; rintro e w5 ⟨rfl, rfl⟩)
          | (go_at_call 33; refine hfl3.mono ?_; rintro e w6 ⟨vd6, ve6, wv6, er6, rfl, hJ6, hR6, hE6, hk6, hm6, hb6⟩; rw [HSM.out] at hE6; have hle : er6.length = 0 := hE6.1; obtain ⟨A6, c6, rfl⟩ := Kd.R_slice hR6; simp only [hle]; have HZ := Aside0.mk hb6; clear hJ6 hR6 hE6 hk6 hm6 hb6))
        go_ret
        exact ⟨rfl, (HR.out.2.2.2.2.2.2.2.trans (HY.out.2.2.mono HB1.out.size)).trans (HZ.out.mono HB1.out.size)⟩

end Go.Proofs.YtgopklnfdlnojaaDoor.Nf
