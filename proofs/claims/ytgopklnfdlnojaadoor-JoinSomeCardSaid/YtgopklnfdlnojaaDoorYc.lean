/- JoinSome, walked: it answers true. -/
import Derived.Test.YtgopklnfdlnojaaDoorYb
namespace Go.Proofs.YtgopklnfdlnojaaDoor.Yc
open Go.RowKit Go.Proofs.YtgopklnfdlnojaaDoor.Ga Go.Proofs.YtgopklnfdlnojaaDoor.My Go.Proofs.YtgopklnfdlnojaaDoor.Gb Go.Proofs.YtgopklnfdlnojaaDoor.Gp Go.Proofs.YtgopklnfdlnojaaDoor.Sb Go.Proofs.YtgopklnfdlnojaaDoor.Ja Go.Proofs.YtgopklnfdlnojaaDoor.Jb Go.Proofs.YtgopklnfdlnojaaDoor.Jc Go.Proofs.YtgopklnfdlnojaaDoor.Jd Go.Proofs.YtgopklnfdlnojaaDoor.Je Go.Proofs.YtgopklnfdlnojaaDoor.Jf Go.Proofs.YtgopklnfdlnojaaDoor.Jg Go.Proofs.YtgopklnfdlnojaaDoor.Jh Go.Proofs.YtgopklnfdlnojaaDoor.Ji Go.Proofs.YtgopklnfdlnojaaDoor.Nb Go.Proofs.YtgopklnfdlnojaaDoor.Nc Go.Proofs.YtgopklnfdlnojaaDoor.Nd Go.Proofs.YtgopklnfdlnojaaDoor.Ne Go.Proofs.YtgopklnfdlnojaaDoor.Xa Go.Proofs.YtgopklnfdlnojaaDoor.Xb Go.Proofs.YtgopklnfdlnojaaDoor.Xc Go.Proofs.YtgopklnfdlnojaaDoor.Ya Go.Proofs.YtgopklnfdlnojaaDoor.Yb Go.Proofs.YtgopklnfdlnojaaDoorW.PrintWords Go.Proofs.YtgopklnfdlnojaaDoorW.PrintLast Go.Proofs.YtgopklnfdlnojaaDoorW.PrintMore
set_option linter.unusedVariables false
set_option linter.unusedSimpArgs false

theorem firstLong : ∀ P : List (List Int), ∃ n0, n0 ≤ P.length ∧ (∀ i, i < n0 → (P.getD i []).length ≤ 60) ∧ (n0 = P.length ∨ 60 < (P.getD n0 []).length)
  | [] => ⟨0, Nat.le_refl _, fun i h => absurd h (Nat.not_lt_zero _), .inl rfl⟩
  | p :: P => by
    obtain ⟨n0, h1, h2, h3⟩ := firstLong P
    by_cases hp : p.length ≤ 60
    · refine ⟨n0 + 1, by simp; omega, fun i hi => ?_, ?_⟩
      · cases i with
        | zero => simpa using hp
        | succ i => simpa using h2 i (by omega)
      · rcases h3 with h3 | h3
        · left; simp [h3]
        · right; simpa using h3
    · exact ⟨0, Nat.zero_le _, fun i h => absurd h (Nat.not_lt_zero _), .inr (by simp; omega)⟩
/-- The packets up to the first that is too long. -/
def upX (P : List (List Int)) (n0 i : Nat) : List Int := if i < n0 then P.getD i [] else []
/-- Does the k-th piece lack? -/
def lackf (Ls : List Bool) (k : Nat) : Bool := decide (0 < Ls.length) && Ls.getD (k % Ls.length) false

theorem wantI_len (B : Nat → Bool) (X : Nat → List Int) : ∀ i, (wantI B X i).length ≤ i
  | 0 => Nat.le_refl _
  | i + 1 => by
    have := wantI_len B X i
    rw [wantI, List.length_append]
    split <;> simp <;> omega
theorem wantI_mem (B : Nat → Bool) (X : Nat → List Int) (x : List Int) : ∀ i, x ∈ wantI B X i → ∃ q, x = X q
  | 0, h => by simp [wantI] at h
  | i + 1, h => by
    rw [wantI, List.mem_append] at h
    rcases h with h | h
    · exact wantI_mem B X x i h
    · split at h
      · exact ⟨i, by simpa using h⟩
      · simp at h
set_option maxHeartbeats 2000000 in
set_option maxRecDepth 100000 in
/-- All that is too much: the example alone is asked. -/
theorem some_much (short two : Bool) (Ap : Option Addr) (np cp : Nat) (Ad : Option Addr) (nd cd : Nat) (Al : Option Addr) (nl cl : Nat) (W : World) (hS : Shapes W) (h : 20 < np ∨ 100 < nd ∨ 300 < nl) :
    Calls Tryd.prog 10 #[.bool short, .bool two, .slice Ap np cp, .slice Ad nd cd, .slice Al nl cl] W fun e w' => e = .returned (.bool true) ∧ Below W.heap.size W w' := by
  have hsp := speaks_any W hS
  have HS := Aside0.mk hS
  clear hS
  by_cases m1 : 20 < np
  · have em1 : decide ((20 : Int) < (np : Int)) = true := decide_eq_true (by omega)
    have fm1 : decide (20 < np) = true := decide_eq_true m1
    clear h m1
    go_enter Tryd.func10, Tryd.ntmps10
    go_upto_region 2 with (first
      | (go_at_call 27; refine hsp.mono ?_; rintro e w1 ⟨rfl, hb1⟩; have HB1 := Aside0.mk hb1; clear hb1))
    have hsp2 := speaks_any w1 (HS.out.below HB1.out)
    go_wp2_with (first
      | (go_at_call 27; refine hsp2.mono ?_; rintro e w2 ⟨rfl, hb2⟩; have HB2 := Aside0.mk hb2; clear hb2))
    go_ret
    exact ⟨rfl, below_step HB1.out HB2.out⟩
  by_cases m2 : 100 < nd
  · have em2 : decide ((100 : Int) < (nd : Int)) = true := decide_eq_true (by omega)
    have fm2 : decide (100 < nd) = true := decide_eq_true m2
    have em1 : decide ((20 : Int) < (np : Int)) = false := decide_eq_false (by omega)
    have fm1 : decide (20 < np) = false := decide_eq_false m1
    clear h m1 m2
    go_enter Tryd.func10, Tryd.ntmps10
    go_upto_region 2 with (first
      | (go_at_call 27; refine hsp.mono ?_; rintro e w1 ⟨rfl, hb1⟩; have HB1 := Aside0.mk hb1; clear hb1))
    have hsp2 := speaks_any w1 (HS.out.below HB1.out)
    go_wp2_with (first
      | (go_at_call 27; refine hsp2.mono ?_; rintro e w2 ⟨rfl, hb2⟩; have HB2 := Aside0.mk hb2; clear hb2))
    go_ret
    exact ⟨rfl, below_step HB1.out HB2.out⟩
  by_cases m3 : 300 < nl
  · have em3 : decide ((300 : Int) < (nl : Int)) = true := decide_eq_true (by omega)
    have fm3 : decide (300 < nl) = true := decide_eq_true m3
    have em1 : decide ((20 : Int) < (np : Int)) = false := decide_eq_false (by omega)
    have fm1 : decide (20 < np) = false := decide_eq_false m1
    have em2 : decide ((100 : Int) < (nd : Int)) = false := decide_eq_false (by omega)
    have fm2 : decide (100 < nd) = false := decide_eq_false m2
    clear h m1 m2 m3
    go_enter Tryd.func10, Tryd.ntmps10
    go_upto_region 2 with (first
      | (go_at_call 27; refine hsp.mono ?_; rintro e w1 ⟨rfl, hb1⟩; have HB1 := Aside0.mk hb1; clear hb1))
    have hsp2 := speaks_any w1 (HS.out.below HB1.out)
    go_wp2_with (first
      | (go_at_call 27; refine hsp2.mono ?_; rintro e w2 ⟨rfl, hb2⟩; have HB2 := Aside0.mk hb2; clear hb2))
    go_ret
    exact ⟨rfl, below_step HB1.out HB2.out⟩
  omega

set_option maxHeartbeats 8000000 in
set_option maxRecDepth 100000 in
theorem some_walk (short two : Bool) (Ap : Option Addr) (cp : Nat) (P : List (List Int)) (Ad : Option Addr) (cd : Nat) (D : List Int) (Al : Option Addr) (cl : Nat) (Ls : List Bool) (W : World) (hS : Shapes W) (hP : (Kd.slice 5 (Kd.int .u8)).C W Ap P.length P) (kp : P.length ≤ cp)
    (hD : (Kd.int .u8).C W Ad D.length D) (kd : D.length ≤ cd) (bD : ∀ x ∈ D, 0 ≤ x ∧ x ≤ 255) (hL : Kd.bool.C W Al Ls.length Ls) (kl : Ls.length ≤ cl) :
    Calls Tryd.prog 10 #[.bool short, .bool two, .slice Ap P.length cp, .slice Ad D.length cd, .slice Al Ls.length cl] W fun e w' => e = .returned (.bool true) ∧ Below W.heap.size W w' := by
  by_cases hmuch : 20 < P.length ∨ 100 < D.length ∨ 300 < Ls.length
  · exact some_much short two Ap _ cp Ad _ cd Al _ cl W hS hmuch
  have hsp := speaks_any W hS
  have HS := Aside0.mk hS
  have HIN := Aside0.mk (And.intro hP (And.intro hD (And.intro hL (And.intro kp (And.intro kd (And.intro kl bD))))))
  have HM := Aside0.mk (show P.length ≤ 20 ∧ D.length ≤ 100 ∧ Ls.length ≤ 300 by omega)
  have d1 : decide ((20 : Int) < (P.length : Int)) = false := decide_eq_false (by omega)
  have d1' : decide (20 < P.length) = false := decide_eq_false (by omega)
  have d2 : decide ((100 : Int) < (D.length : Int)) = false := decide_eq_false (by omega)
  have d2' : decide (100 < D.length) = false := decide_eq_false (by omega)
  have d3 : decide ((300 : Int) < (Ls.length : Int)) = false := decide_eq_false (by omega)
  have d3' : decide (300 < Ls.length) = false := decide_eq_false (by omega)
  obtain ⟨lk, hlk⟩ : ∃ lk : Nat, lk = if two then 2 else 1 := ⟨_, rfl⟩
  have HLK := Aside0.mk hlk
  have hlk2 : 1 ≤ lk ∧ lk ≤ 2 := by rw [hlk]; cases two <;> decide
  have HLK2 := Aside0.mk hlk2
  clear hS hP kp hD kd bD hL kl hmuch hlk hlk2
  go_enter Tryd.func10, Tryd.ntmps10
  go_upto_if 50 with (first
    | (go_at_call 27; refine hsp.mono ?_; rintro e w1 ⟨rfl, hb1⟩; have HB1 := Aside0.mk hb1; clear hb1))
  go_cut [11] from 29 (fun v11 wc => v11 = .int .i64 (lk : Int) ∧ wc = w1)
  case first =>
    cases two with
    | true =>
      have e := HLK.out
      simp only [if_true] at e
      subst e
      go_wp2
      go_meet
      exact ⟨rfl, rfl⟩
    | false =>
      have e := HLK.out
      simp only [Bool.false_eq_true, if_false] at e
      subst e
      go_wp2
      go_meet
      exact ⟨rfl, rfl⟩
  case rest =>
    obtain ⟨rfl, hww⟩ := hcut
    obtain ⟨wq, hwq⟩ : ∃ V, V = wc := ⟨_, rfl⟩
    rw [← hwq] at hww ⊢
    subst hww
    clear hwq
    have hnew := new_ok short (lk : Int) 4096 100 wq (HS.out.below HB1.out) (by have := HLK2.out; unfold mayJ; omega)
    go_wp2_with (first
      | (go_at_call 28; refine hnew.mono ?_; rintro e w2 ⟨g, bm, vl, rfl, hJ2, hb2⟩; have HB2 := Aside0.mk hb2; have HJ2 := Aside0.mk hJ2; clear hJ2 hb2))
    obtain ⟨n0, hn1, hn2, hn3⟩ := firstLong P
    have HN0 := Aside0.mk (And.intro hn1 (And.intro hn2 hn3))
    obtain ⟨X, hX⟩ : ∃ X, X = upX P n0 := ⟨_, rfl⟩
    have hXl : ∀ i, (X i).length ≤ 60 := by
      intro i
      rw [hX, upX]
      split
      · exact hn2 i (by assumption)
      · simp
    have HX := Aside0.mk (And.intro hX hXl)
    obtain ⟨lf, hlf⟩ : ∃ lf, lf = lackf Ls := ⟨_, rfl⟩
    have HLF := Aside0.mk hlf
    obtain ⟨nm, hnm⟩ : ∃ nm, nm = numbers short := ⟨_, rfl⟩
    have HNM := Aside0.mk hnm
    obtain ⟨S0, hS0⟩ : ∃ S0, S0 = newJ short (lk : Int) 4096 100 := ⟨_, rfl⟩
    have HS0 := Aside0.mk hS0
    have hst0 : St nm X n0 lf S0 lk 0 [] (newJ short (lk : Int) 4096 100) := by rw [hnm, hS0]; exact st_new short lk HLK2.out.1 (by have := HLK2.out; omega)
    have HST0 := Aside0.mk hst0
    have hmem0 : Mem W w2 wq.heap.size g bm vl (.slice none 0 0) (.slice none 0 0) (.slice none 0 0) [] (newJ short (lk : Int) 4096 100) [] (wantI (BS X n0 lf) X 0) :=
      ⟨HJ2.out, ⟨[], Kd.R_nil _ _ _ _ _, rfl, fun j x y hx => by simp at hx⟩, ⟨[], Kd.R_nil _ _ _ _ _, rfl, fun j x y hx => by simp [wantI] at hx⟩, HB1.out.trans (HB2.out.mono HB1.out.size), HB1.out.size, HB2.out.size⟩
    have HMEM0 := Aside0.mk hmem0
    have hoff : off X n0 ≤ 2000 := by have := off_le X hXl n0; have := HM.out.1; omega
    have HOFF := Aside0.mk hoff
    clear hn1 hn2 hn3 hX hXl hlf hnm hS0 hst0 hmem0 hoff hsp hnew
    go_loopg [65, 14, 15, 16, 17] P.length (fun k v65 v14 v15 v16 v17 wr => Aside0 (∃ (i : Nat) (vd : Value) (wv : List (Int × Value)) (J : Jn) (pre : List Ev), v65 = .int .i64 (i : Int) ∧ i ≤ n0 ∧ k = P.length - i ∧ v16 = .int .i64 ((off X i : Int) % nm) ∧ v17 = .int .i64 (off X i : Int) ∧ Mem W wr wq.heap.size g bm vl vd v14 v15 wv J pre (wantI (BS X n0 lf) X i) ∧ St nm X n0 lf S0 lk (off X i) pre J))
    case atStart =>
      exact ⟨0, _, _, _, _, rfl, Nat.zero_le _, by omega, by simp [off], rfl, HMEM0.out, HST0.out⟩
    case round =>
      obtain ⟨i, vd, wv, J, pre, rfl, hi, rfl, rfl, rfl, hmem, hst⟩ := hrel.out
      clear hrel
      have HMEM := Aside0.mk hmem
      have HST := Aside0.mk hst
      have HI := Aside0.mk hi
      clear hmem hst hi
      by_cases hlt : i < P.length
      · have e1 : decide ((i : Int) < (P.length : Int)) = true := decide_eq_true (by omega)
        have e1' : decide (i < P.length) = true := decide_eq_true hlt
        have hi0 : (0 : Int) ≤ (i : Int) := by omega
        have hi2 : (i : Int) < (P.length : Int) := by omega
        obtain ⟨ad, A0, c0, rfl, y0, xl, xC⟩ := at_L3 HIN.out.1 (i : Int) hi0 hi2
        obtain ⟨x, hx⟩ : ∃ x, P.getD i [] = x := ⟨_, rfl⟩
        have hrd : rd_L3 P (i : Int) = x := by rw [← hx]; rfl
        rw [hrd] at y0 xl xC
        have x0 := pw_cell_below HMEM.out.below y0
        simp only [Int.toNat_natCast] at x0
        have HXX := Aside0.mk (And.intro hx (And.intro xl xC))
        have HLT := Aside0.mk hlt
        clear y0 hx hrd xl xC hlt
        by_cases hbig : (60 : Int) < (x.length : Int)
        · have d4 : decide ((60 : Int) < (x.length : Int)) = true := decide_eq_true hbig
          have d4' : decide (60 < x.length) = true := decide_eq_true (by omega)
          clear hbig
          go_wp2_with (fail)
          refine bodyPost_ret (results_tmp rfl _ _ _) rfl ?_
          exact ⟨rfl, HMEM.out.below⟩
        · have d4 : decide ((60 : Int) < (x.length : Int)) = false := decide_eq_false hbig
          have d4' : decide (60 < x.length) = false := decide_eq_false (by omega)
          have hin : i < n0 := by
            have h1 := HI.out
            rcases HN0.out.2.2 with h2 | h2
            · have := HLT.out; omega
            · by_cases e : i = n0
              · rw [← e, HXX.out.1] at h2; omega
              · omega
          have hXi : X i = x := by rw [HX.out.1, upX, if_pos hin, HXX.out.1]
          have HXI := Aside0.mk (And.intro hin hXi)
          have hmod : Int.tmod (i : Int) 5 = ((i % 5 : Nat) : Int) := by rw [Int.tmod_eq_emod_of_nonneg hi0]; rfl
          have hw1 : IntKind.i64.wrap ((i % 5 : Nat) : Int) = ((i % 5 : Nat) : Int) := IntWalk.i64_in _ (by omega)
          have hw2 : IntKind.i64.wrap (1 + ((i % 5 : Nat) : Int)) = ((mAt i : Nat) : Int) := by rw [IntWalk.i64_in _ (by omega)]; unfold mAt; omega
          have hsplit := split_row short ((off X i : Int) % nm) (mAt i) A0 x.length c0 x wr (HS.out.below HMEM.out.below) (by unfold mAt; omega) (Int.emod_nonneg _ (by rw [HNM.out]; have := (numbers_pos short).1; omega)) (by rw [← HNM.out]; exact Int.emod_lt_of_pos _ (by rw [HNM.out]; exact (numbers_pos short).1)) (Kd.C_below HXX.out.2.2 HMEM.out.below) HXX.out.2.1 (by omega)
          rw [← HNM.out] at hsplit
          have HBIG := Aside0.mk hbig
          clear hin hXi hbig
          have hN : nP (mAt i) x.length = nAt X i := by rw [← HXI.out.2]; rfl
          have hpe : pcs ((off X i : Int) % nm) nm (mAt i) (nP (mAt i) x.length) x = piecesOf nm X i := by rw [← HXI.out.2]; rfl
          have hnx : ((off X i : Int) % nm + (nP (mAt i) x.length : Nat)) % nm = (off X (i + 1) : Int) % nm := by
            rw [hN, mod_add, show off X (i + 1) = off X i + nAt X i from rfl, Int.natCast_add]
          rw [hnx, hpe, hN] at hsplit
          clear hN hpe hnx
          go_wp2_with (first
            | (go_at_call 20; refine hsplit.mono ?_; rintro e ws ⟨A', c', rfl, hc', hR, hbs⟩; have HSP := Aside0.mk (And.intro hc' (And.intro hR hbs)); clear hc' hR hbs))
          obtain ⟨hc', hR, hbs⟩ := HSP.out
          have hms := HMEM.out.step hbs
          obtain ⟨rr, hRr, hPc⟩ := pieces_own hR
          have hF0 : Pcs ws wr.heap.size (fun k => wr.heap.size ≤ k ∧ k < ws.heap.size) (.slice A' (nAt X i) c') (piecesOf nm X i) rr := ⟨hRr, hPc⟩
          obtain ⟨b29, hb29⟩ : ∃ b29, b29 = wr.heap.size := ⟨_, rfl⟩
          obtain ⟨okS, hokS⟩ : ∃ okS : Nat → Prop, okS = fun k => wr.heap.size ≤ k ∧ k < ws.heap.size := ⟨_, rfl⟩
          rw [← hokS, ← hb29] at hF0
          have hap0 : ∀ k, okS k → ¬ Mut g bm vl vd (.slice none 0 0) k ∧ some k ≠ u15.ownBlock ∧ k < ws.heap.size := by
            intro k hk
            rw [hokS] at hk
            refine ⟨fun hm => ?_, fun hm => ?_, hk.2⟩
            · have := mut_lt HMEM.out.jm k hm; omega
            · obtain ⟨gr, g1, g2⟩ := HMEM.out.got
              have := Kd.R_lt g1 k hm.symm
              omega
          have HM1 := Aside0.mk (And.intro hms (And.intro hF0 (And.intro hap0 hc')))
          have HBS := Aside0.mk hbs
          clear hc' hR hbs hms hF0 hap0 hokS hsplit x0 HSP hRr hPc hb29
          go_loopg [89, 15, 17, 23] (nAt X i) (fun k v89 u15 u17 u23 wr2 => Aside0 (∃ (j : Nat) (vd : Value) (wv : List (Int × Value)) (J : Jn) (pre : List Ev), v89 = .int .i64 (j : Int) ∧ j ≤ nAt X i ∧ k = nAt X i - j ∧ u17 = .int .i64 ((off X i + j : Nat) : Int) ∧ u23 = .bool ((List.range j).all fun q => BS X n0 lf (off X i + q)) ∧ Mem W wr2 wq.heap.size g bm vl vd u14 u15 wv J pre (wantI (BS X n0 lf) X i) ∧ St nm X n0 lf S0 lk (off X i + j) pre J ∧ Pcs wr2 b29 okS (.slice A' (nAt X i) c') (piecesOf nm X i) rr ∧ (∀ k, okS k → ¬ Mut g bm vl vd (.slice none 0 0) k ∧ some k ≠ u15.ownBlock ∧ k < wr2.heap.size)))
          case atStart =>
            exact ⟨0, vd, wv, J, pre, rfl, Nat.zero_le _, rfl, rfl, rfl, HM1.out.1, HST.out, HM1.out.2.1, HM1.out.2.2.1⟩
          case round =>
            obtain ⟨j, vd2, wv2, J2, pre2, rfl, hj, rfl, rfl, rfl, hmem2, hst2, hF2, hap2⟩ := hrel.out
            clear hrel
            have HMEM2 := Aside0.mk hmem2
            have HST2 := Aside0.mk hst2
            have HF2 := Aside0.mk (And.intro hF2 hap2)
            have HJ := Aside0.mk hj
            clear hmem2 hst2 hF2 hap2 hj
            by_cases hjl : j < nAt X i
            · have f1 : decide ((j : Int) < (nAt X i : Int)) = true := decide_eq_true (by omega)
              have f1' : decide (j < nAt X i) = true := decide_eq_true hjl
              have hj0 : (0 : Int) ≤ (j : Int) := by omega
              have hj2 : (j : Int) < (nAt X i : Int) := by omega
              obtain ⟨adp, Aq, cq, rfl, p0, p1, p2, p3, pl, pC⟩ := Pcs.at HF2.out.1 (pcs_len _ _ _ _ _) j hjl
              obtain ⟨t, ht⟩ : ∃ t, off X i + j = t := ⟨_, rfl⟩
              obtain ⟨p, hp⟩ : ∃ p, psI nm X n0 t = p := ⟨_, rfl⟩
              have hrdp : (piecesOf nm X i).getD j z29 = p := by
                rw [← hp, ← ht, psI_at nm X n0 i j HXI.out.1 hjl]
                unfold piecesOf pcs
                simp [hjl]
              rw [hrdp] at p0 p1 p2 p3 pl pC
              have HP := Aside0.mk (And.intro ht (And.intro hp (And.intro pl pC)))
              have HJL := Aside0.mk hjl
              simp only [ht]
              clear ht hp pl pC hrdp hjl
              go_upto_region 25 with (fail)
              have hba := below_alloc (Below.refl wr.heap.size wr) (.cells #[.bool p.f0, .bool p.f1, .int .i64 p.f2, .slice Aq p.f3.length cq] 29)
              have hPn := new1 wr (.cells #[.bool p.f0, .bool p.f1, .int .i64 p.f2, .slice Aq p.f3.length cq] 29)
              obtain ⟨g25, hg25⟩ : ∃ q, wr.heap.size = q := ⟨_, rfl⟩
              rw [hg25] at hPn
              have HPN := Aside0.mk hPn
              have HBA := Aside0.mk hba
              simp only [hg25]
              clear hba hPn hg25 p0 p1 p2 p3
              generalize wr.alloc (.cells #[.bool p.f0, .bool p.f1, .int .i64 p.f2, .slice Aq p.f3.length cq] 29) = W1 at HPN HBA ⊢
              have hwt : IntKind.i64.wrap ((t : Int) + 1) = ((t + 1 : Nat) : Int) := by
                have h1 := HP.out.1
                have h2 := HJL.out
                have h3 := off_mono X (i + 1) n0 (by have := HXI.out.1; omega)
                have h4 : off X (i + 1) = off X i + nAt X i := rfl
                have h5 := HOFF.out
                rw [IntWalk.i64_in _ (by omega)]
                omega
              have hwj : IntKind.i64.wrap ((j : Int) + 1) = ((j + 1 : Nat) : Int) := by
                have h1 := HJL.out
                have h3 := off_mono X (i + 1) n0 (by have := HXI.out.1; omega)
                have h4 : off X (i + 1) = off X i + nAt X i := rfl
                have h5 := HOFF.out
                rw [IntWalk.i64_in _ (by omega)]
                omega
              go_upto_region 26 with (fail)
              have hlk : lf (t + 1) = lackf Ls (t + 1) := by rw [HLF.out]
              go_cut [106] from 95 to 105 (fun v106 wc2 => v106 = .bool (lf (t + 1)) ∧ wc2 = W1)
              case first =>
                by_cases hz : Ls.length = 0
                · have z1 : decide ((0 : Int) < (Ls.length : Int)) = false := decide_eq_false (by omega)
                  have z1' : decide (0 < Ls.length) = false := decide_eq_false (by omega)
                  have z2 : lf (t + 1) = false := by rw [hlk]; simp [lackf, hz]
                  have HZ := Aside0.mk hz
                  clear hz hlk
                  go_wp2
                  go_meet
                  exact ⟨by rw [z2], rfl⟩
                · have z1 : decide ((0 : Int) < (Ls.length : Int)) = true := decide_eq_true (by omega)
                  have z1' : decide (0 < Ls.length) = true := decide_eq_true (by omega)
                  have hlt := Nat.mod_lt (t + 1) (show 0 < Ls.length by omega)
                  obtain ⟨q, hq⟩ : ∃ q, (t + 1) % Ls.length = q := ⟨_, rfl⟩
                  have hq0 : (0 : Int) ≤ (q : Int) := by omega
                  have hq2 : (q : Int) < (Ls.length : Int) := by rw [hq] at hlt; omega
                  obtain ⟨adl, rfl, hcl⟩ := Kd.at_bool HIN.out.2.2.1 (q : Int) hq0 hq2
                  have hcl1 := pw_cell_below (below_step HMEM2.out.below HBA.out) hcl
                  simp only [Int.toNat_natCast] at hcl1
                  have hrm : Int.tmod ((t + 1 : Nat) : Int) (Ls.length : Int) = (q : Int) := by
                    rw [Int.tmod_eq_emod_of_nonneg (by omega), ← hq]
                    rfl
                  have hwq : IntKind.i64.wrap (q : Int) = (q : Int) := IntWalk.i64_in _ (by have := HM.out.2.2; omega)
                  have hnz : ¬ (Ls.length : Int) = 0 := by omega
                  have hnz' : ¬ Ls.length = 0 := hz
                  have z2 : lf (t + 1) = rdOf false Ls (q : Int) := by
                    rw [hlk]
                    simp only [lackf, hq, z1', Bool.true_and]
                    rfl
                  have HQ := Aside0.mk (And.intro hq (And.intro hlt z2))
                  clear hz hlk hq hlt z2
                  have hrm2 : Int.tmod ((t : Int) + 1) (Ls.length : Int) = (q : Int) := hrm
                  go_wp2
                  go_meet
                  exact ⟨by rw [HQ.out.2.2], rfl⟩
              case rest =>
                obtain ⟨rfl, hwW⟩ := hcut
                obtain ⟨W9, hW9⟩ : ∃ V, V = wc := ⟨_, rfl⟩
                rw [← hW9] at hwW ⊢
                subst hwW
                clear hW9
                have hall : ((List.range (j + 1)).all fun q => BS X n0 lf (off X i + q)) = (((List.range j).all fun q => BS X n0 lf (off X i + q)) && BS X n0 lf t) := by
                  rw [List.range_succ, List.all_append]
                  simp [HP.out.1]
                have HALL := Aside0.mk hall
                cases hlf : lf (t + 1) with
                | true =>
                  have HLFT := Aside0.mk hlf
                  clear hlf
                  go_wp2_with (fail)
                  go_roundg (nAt X i - (j + 1))
                  case measure => have := HJL.out; omega
                  case rel =>
                    have ht1 : off X i + (j + 1) = t + 1 := by have := HP.out.1; omega
                    have hap := HF2.out.2
                    refine ⟨j + 1, vd2, wv2, J2, pre2, by first | rfl | rw [hwj], by have := HJL.out; omega, rfl, by rw [ht1]; rfl, ?_, HMEM2.out.step HBA.out, ?_, HF2.out.1.below HBA.out, fun k hk => ⟨(hap k hk).1, (hap k hk).2.1, Nat.lt_of_lt_of_le (hap k hk).2.2 HBA.out.size⟩⟩
                    · rw [HALL.out]
                      have : BS X n0 lf t = false := by simp [BS, HLFT.out]
                      rw [this, Bool.and_false]
                    · rw [ht1]
                      exact st_skip (HP.out.1 ▸ HST2.out) HLFT.out
                | false =>
                  have HLFT := Aside0.mk hlf
                  clear hlf
                  obtain ⟨b0, b1, b2, b3⟩ := cells4 HPN.out
                  go_upto_if 109 with (fail)
                  go_cut [26] from 108 to 119 (fun v26 wd => wd = W9 ∧ ∃ L : Nat, L < lk ∧ v26 = .int .i64 (L : Int))
                  case first =>
                    by_cases hz : D.length = 0
                    · have z1 : decide ((0 : Int) < (D.length : Int)) = false := decide_eq_false (by omega)
                      have z1' : decide (0 < D.length) = false := decide_eq_false (by omega)
                      clear hz
                      simp only [z1']
                      go_wp2
                      go_meet
                      exact ⟨rfl, 0, HLK2.out.1, rfl⟩
                    · have z1 : decide ((0 : Int) < (D.length : Int)) = true := decide_eq_true (by omega)
                      have z1' : decide (0 < D.length) = true := decide_eq_true (by omega)
                      have hlt := Nat.mod_lt (t + 1) (show 0 < D.length by omega)
                      obtain ⟨q, hq⟩ : ∃ q, (t + 1) % D.length = q := ⟨_, rfl⟩
                      have hq0 : (0 : Int) ≤ (q : Int) := by omega
                      have hq2 : (q : Int) < (D.length : Int) := by rw [hq] at hlt; omega
                      obtain ⟨adl, rfl, hcl⟩ := Kd.at_int HIN.out.2.1 (q : Int) hq0 hq2
                      have hcl1 := pw_cell_below (below_step HMEM2.out.below HBA.out) hcl
                      simp only [Int.toNat_natCast] at hcl1
                      obtain ⟨y, hy⟩ : ∃ y, rd D (q : Int) = y := ⟨_, rfl⟩
                      rw [hy] at hcl1
                      have hyb : 0 ≤ y ∧ y ≤ 255 := by
                        rw [← hy]
                        unfold rd
                        rw [Int.toNat_natCast, List.getD_eq_getElem?_getD, List.getElem?_eq_getElem (by omega)]
                        exact HIN.out.2.2.2.2.2.2 _ (List.getElem_mem _)
                      have hrm : Int.tmod ((t + 1 : Nat) : Int) (D.length : Int) = (q : Int) := by
                        rw [Int.tmod_eq_emod_of_nonneg (by omega), ← hq]
                        rfl
                      have hrm2 : Int.tmod ((t : Int) + 1) (D.length : Int) = (q : Int) := hrm
                      have hwq : IntKind.i64.wrap (q : Int) = (q : Int) := IntWalk.i64_in _ (by have := HM.out.2.1; omega)
                      have hwy : IntKind.i64.wrap y = y := IntWalk.i64_in _ (by omega)
                      have hnz : ¬ (D.length : Int) = 0 := by omega
                      have hnz' : ¬ D.length = 0 := hz
                      have hlk0 : ¬ (lk : Int) = 0 := by have := HLK2.out; omega
                      have hlk0' : ¬ lk = 0 := by have := HLK2.out; omega
                      have hm1 := Int.tmod_lt_of_pos y (show (0 : Int) < (lk : Int) by have := HLK2.out; omega)
                      have hm2 := Int.tmod_nonneg (lk : Int) hyb.1
                      obtain ⟨L, hL⟩ : ∃ L : Nat, Int.tmod y (lk : Int) = (L : Int) := ⟨(Int.tmod y (lk : Int)).toNat, by omega⟩
                      have hwL : IntKind.i64.wrap (L : Int) = (L : Int) := IntWalk.i64_in _ (by have := HLK2.out; omega)
                      have HLL := Aside0.mk (show L < lk by omega)
                      clear hz hq hlt hy hyb hm1 hm2 hcl
                      simp only [z1']
                      go_wp2
                      go_meet
                      exact ⟨rfl, L, HLL.out, rfl⟩
                  case rest =>
                    obtain ⟨hwd, L, hL, rfl⟩ := hcut
                    obtain ⟨W8, hW8⟩ : ∃ V, V = wc := ⟨_, rfl⟩
                    rw [← hW8] at hwd ⊢
                    subst hwd
                    clear hW8
                    have HLL := Aside0.mk hL
                    have ht := HP.out.1
                    have hp := HP.out.2.1
                    have hstt : St nm X n0 lf S0 lk t pre2 J2 := ht ▸ HST2.out
                    have hfeed := st_feed hstt HLFT.out HOFF.out (by rw [HNM.out]; cases short <;> simp [numbers]) HXI.out.1 HJL.out ht.symm hL
                    rw [hp] at hfeed
                    have hmemA := HMEM2.out.step HBA.out
                    have hp5 : p.f3.length ≤ 5 := by rw [← hp, ← ht]; exact psI_short nm X n0 i j HXI.out.1 HJL.out
                    have hap := HF2.out.2
                    have hsl : Sl0 W8 (Mut g bm vl vd2 (.slice none 0 0)) Aq p.f3.length p.f3 := by
                      refine Kd.F_mono (Kd.F_below HP.out.2.2.2 HBA.out) (fun k hk => ⟨Nat.lt_of_lt_of_le (hap k hk).2.2 HBA.out.size, (hap k hk).1⟩)
                    have htb : t ≤ 2000 := by
                      have h3 := off_mono X (i + 1) n0 (by have := HXI.out.1; omega)
                      have h4 : off X (i + 1) = off X i + nAt X i := rfl
                      have h5 := HOFF.out
                      have h6 := HJL.out
                      omega
                    have hfd := feed_any W8 wq.heap.size g bm vl vd2 wv2 J2 ((t : Int) * 16777216) (L : Int) p Aq cq hmemA.jm hstt.still (by rw [hstt.nm, HNM.out]; have := (numbers_pos short).2; omega) hmemA.b1 (by have := hstt.wait; omega) (by omega) HP.out.2.2.1 hsl
                    rw [hfeed.1] at hfd
                    have HFD := Aside0.mk (And.intro hfeed.2 hmemA)
                    clear hL ht hp hstt hfeed hmemA hp5 hap hsl htb
                    go_upto_region 34 with (first
                      | (go_at_call 35; refine hfd.mono ?_; rintro e w4 ⟨vd4, ve4, wv4, er4, rfl, hJ4, hR4, hE4, hk4, hm4, hb4⟩; have HY := Aside0.mk (And.intro hJ4 (And.intro hR4 (And.intro hE4 (And.intro hk4 (And.intro hm4 hb4))))); clear hJ4 hR4 hE4 hk4 hm4 hb4))
                    obtain ⟨hJ4, hR4, hE4, hk4, hm4, hb4⟩ := HY.out
                    have hmF := HFD.out.2.fed hJ4 hk4 hm4 hb4
                    obtain ⟨gr, g1, g2⟩ := hmF.got
                    obtain ⟨Ae, ce, rfl⟩ := Kd.R_slice hR4
                    obtain ⟨Ag, cg, rfl⟩ := Kd.R_slice g1
                    have hgl := g2.1
                    have hel := hE4.1
                    have hevb := HFD.out.1.evs
                    rw [List.length_append, ← hgl, ← hel] at hevb
                    have htb : t ≤ 2000 := by
                      have h1 := HP.out.1
                      have h3 := off_mono X (i + 1) n0 (by have := HXI.out.1; omega)
                      have h4 : off X (i + 1) = off X i + nAt X i := rfl
                      have h5 := HOFF.out
                      have h6 := HJL.out
                      omega
                    have HAP := Aside0.mk (And.intro g1 (And.intro g2 (And.intro hmF (show gr.length + er4.length ≤ 100000000 by omega))))
                    clear hJ4 hR4 hE4 hk4 hm4 hb4 hmF g1 g2 hgl hel hevb htb
                    go_wp2_with (at_builtin; (refine Kd.R_append_rows (rawK 4) (w0 := w4) (W := w4) wq.heap.size ?aW (.tmp 129) (.tmp 130) 72 84 (.agg #[.int .i64 0, .slice none 0 0, .int .i64 0, .int .i64 0]) 48 ?aU Tryd.underlying72 info84 rfl (by decide) (by decide) (.slice Ag gr.length cg) gr er4 Ae er4.length ce (fun _ => True) (fun _ => False) ?aV ?aX ?aO ?aR (fun _ _ h => h) (fun _ h => h.elim) (fun _ _ => trivial) ?aB ?aS ?aL ?_); (case aW => rfl); (case aU => rfl); (case aV => rfl); (case aX => rfl); (case aO => exact HAP.out.1); (case aR => exact R_C HY.out.2.1); (case aB => exact Below.refl _ _); (case aS => exact HAP.out.2.2.1.b1); (case aL => have := HAP.out.2.2.2; omega); intro v1 w9 ho hb9 hg hat; have HO := Aside0.mk (And.intro ho (And.intro hb9 (And.intro hg hat))); clear ho hb9 hg hat)
                    go_roundg (nAt X i - (j + 1))
                    case measure => have := HJL.out; omega
                    case rel =>
                      obtain ⟨ho, hb9, hg, hat⟩ := HO.out
                      obtain ⟨hJ4, hR4, hE4, hk4, hm4, hb4⟩ := HY.out
                      obtain ⟨g1, g2, hmF, -⟩ := HAP.out
                      have ht1 : off X i + (j + 1) = t + 1 := by have := HP.out.1; omega
                      have hap := HF2.out.2
                      have hm9 := hmF.got' gr g1 g2 hE4 ho hb9 hg
                      have hp4 := (HF2.out.1.below HBA.out).fed HFD.out.2.jm hk4 (fun k hk => (hap k hk).1)
                      have hp9 := hp4.grown hg (fun k hk => own_type g1 k hk.symm) (fun k hk => (hap k hk).2.1)
                      refine ⟨j + 1, vd4, wv4, _, _, by first | rfl | rw [hwj], by have := HJL.out; omega, rfl, by rw [ht1]; rfl, ?_, hm9, by rw [ht1]; exact HFD.out.1, hp9, fun k hk => ?_⟩
                      · rw [HALL.out]
                        have : BS X n0 lf t = true := by
                          have h1 := HP.out.1
                          have h3 := off_mono X (i + 1) n0 (by have := HXI.out.1; omega)
                          have h4 : off X (i + 1) = off X i + nAt X i := rfl
                          have h6 := HJL.out
                          simp [BS, HLFT.out]
                          omega
                        rw [this, Bool.and_true]
                      · obtain ⟨q1, q2, q3⟩ := hap k hk
                        have hk8 : k < W8.heap.size := Nat.lt_of_lt_of_le q3 HBA.out.size
                        refine ⟨fun hm => q1 (hm4 k hk8 hm), fun e => ?_, Nat.lt_of_lt_of_le hk8 (Nat.le_trans hk4.1 hg.size)⟩
                        rcases hat with e2 | ⟨b, e2, hb⟩
                        · exact q2 (e.trans e2)
                        · rw [e2] at e
                          cases e
                          have := hk4.1
                          omega
            · have f1 : decide ((j : Int) < (nAt X i : Int)) = false := decide_eq_false (by omega)
              have f1' : decide (j < nAt X i) = false := decide_eq_false hjl
              have hjn : j = nAt X i := by have := HJ.out; omega
              have hwi : IntKind.i64.wrap ((i : Int) + 1) = ((i + 1 : Nat) : Int) := by rw [IntWalk.i64_in _ (by have := HM.out.1; have := HLT.out; omega)]; omega
              have hwhole : ((List.range j).all fun q => BS X n0 lf (off X i + q)) = whole (BS X n0 lf) X i := by rw [hjn]; rfl
              rw [hwhole]
              have HJN := Aside0.mk hjn
              clear hjl hjn hwhole
              cases hb : whole (BS X n0 lf) X i with
              | false =>
                have HB := Aside0.mk hb
                clear hb
                go_wp2_with (fail)
                go_roundg (P.length - (i + 1))
                case measure => have := HLT.out; omega
                case rel =>
                  have hoj : off X (i + 1) = off X i + j := by rw [HJN.out]; rfl
                  refine ⟨i + 1, vd2, wv2, J2, pre2, by first | rfl | rw [hwi], HXI.out.1, rfl, rfl, by rw [hoj], ?_, by rw [hoj]; exact HST2.out⟩
                  rw [wantI, HB.out]
                  simpa using HMEM2.out
              | true =>
                have HB := Aside0.mk hb
                clear hb
                obtain ⟨rw14, r1, r2⟩ := HMEM2.out.want
                obtain ⟨Aw, cw, rfl⟩ := Kd.R_slice r1
                have hwl := r2.1
                have HRW := Aside0.mk (And.intro r1 r2)
                have hwlen : (wantI (BS X n0 lf) X i).length ≤ i := wantI_len _ _ i
                have hrl : rw14.length ≤ 100 := by have := HM.out.1; have := HLT.out; omega
                clear r1 r2 hwl hwlen
                go_wp2_with (at_builtin; (refine Kd.R_append (rawK 1) (w0 := wr) (W := wr) wq.heap.size ?aW (.tmp 134) (.tmp 136) 81 22 (.slice none 0 0) 24 ?aU Tryd.underlying81 info22 rfl (by decide) (by decide) (.slice Aw rw14.length cw) rw14 [.slice A0 x.length c0] [.slice A0 x.length c0] (fun _ => True) (fun _ => False) ?aV ?aX ?aP (fun _ h => h.elim) (fun _ _ => trivial) ?aO ?aB ?aS ?aL ?_); (case aW => rfl); (case aU => rfl); (case aV => rfl); (case aX => rfl); (case aP => exact raw_M _ _ _ _ rfl (by simp [Value.oneCell'])); (case aO => exact HRW.out.1); (case aB => exact Below.refl _ _); (case aS => exact HMEM2.out.b1); (case aL => omega); intro v1 w9 ho hb9 hg hat; have HO := Aside0.mk (And.intro ho (And.intro hb9 hg)); clear ho hb9 hg hat)
                go_roundg (P.length - (i + 1))
                case measure => have := HLT.out; omega
                case rel =>
                  have hoj : off X (i + 1) = off X i + j := by rw [HJN.out]; rfl
                  have hm9 := HMEM2.out.want' rw14 HRW.out.1 HRW.out.2 ⟨A0, c0, rfl, HXX.out.2.1, HXX.out.2.2⟩ HO.out.1 HO.out.2.1 HO.out.2.2
                  refine ⟨i + 1, vd2, wv2, J2, pre2, by first | rfl | rw [hwi], HXI.out.1, rfl, rfl, by rw [hoj]; rfl, ?_, by rw [hoj]; exact HST2.out⟩
                  rw [wantI, HB.out, if_pos rfl, HXI.out.2]
                  exact hm9
      · have e1 : decide ((i : Int) < (P.length : Int)) = false := decide_eq_false (by omega)
        have e1' : decide (i < P.length) = false := decide_eq_false hlt
        have hin : i = n0 := by have h1 := HI.out; have h2 := HN0.out.1; omega
        have HIN0 := Aside0.mk hin
        have hstE : St nm X n0 lf S0 lk (off X n0) pre J := hin ▸ HST.out
        have hmemE : Mem W wr wq.heap.size g bm vl vd u14 u15 wv J pre (wantI (BS X n0 lf) X n0) := hin ▸ HMEM.out
        obtain ⟨h1e, h2e⟩ := st_end hstE (by rw [HS0.out]; exact ⟨rfl, rfl, rfl, rfl⟩) HX.out.2
        have hofn := HOFF.out
        have hphi : 2 * phi J ≤ 70000 := by
          have := hstE.wait
          unfold phi
          split <;> split <;> (try split) <;> omega
        have hfl := flush_any wr wq.heap.size g bm vl vd _ wv [] J _ hmemE.jm hstE.still.ok hstE.still.step (by omega) hmemE.b1 (by simp; omega)
        obtain ⟨a1, a2, a3, a4, a5, a6, a7, a8, a9⟩ := thin_ok (room := 0) _ (Nat.le_refl _) hstE.still.ok hstE.still.step
        have hev0 : J.evs.length = 0 := by rw [hstE.still.evs]; rfl
        have hevT : (thinJ 0 J).evs.length ≤ 70000 := by omega
        have hprel := hstE.evs
        have HE := Aside0.mk (And.intro hmemE (And.intro h1e (And.intro h2e (And.intro hevT hprel))))
        clear hlt hin hstE hmemE h1e h2e hofn hphi a1 a2 a3 a4 a5 a6 a7 a8 a9 hev0 hevT hprel
        go_wp2_with (first
          | (go_at_call 33; refine hfl.mono ?_; rintro e w4 ⟨vd4, ve4, wv4, er4, rfl, hJ4, hR4, hE4, hk4, hm4, hb4⟩; have hmF := HE.out.1.fed hJ4 hk4 hm4 hb4; obtain ⟨gr, g1, g2⟩ := hmF.got; obtain ⟨Ae, ce, rfl⟩ := Kd.R_slice hR4; obtain ⟨Ag, cg, rfl⟩ := Kd.R_slice g1; have hgl := g2.1; have hel := hE4.1; have HAP := Aside0.mk (And.intro g1 (And.intro g2 (And.intro hmF (And.intro hE4 (And.intro hR4 (show gr.length + er4.length ≤ 100000000 by have := HE.out.2.2.2; have := HOFF.out; omega)))))); clear hJ4 hR4 hE4 hk4 hm4 hb4 hmF g1 g2 hgl hel)
          | (at_builtin; (refine Kd.R_append_rows (rawK 4) (w0 := w4) (W := w4) wq.heap.size ?aW (.tmp 139) (.tmp 141) 72 84 (.agg #[.int .i64 0, .slice none 0 0, .int .i64 0, .int .i64 0]) 48 ?aU Tryd.underlying72 info84 rfl (by decide) (by decide) (.slice Ag gr.length cg) gr er4 Ae er4.length ce (fun _ => True) (fun _ => False) ?aV ?aX ?aO ?aR (fun _ _ h => h) (fun _ h => h.elim) (fun _ _ => trivial) ?aB ?aS ?aL ?_); (case aW => rfl); (case aU => rfl); (case aV => rfl); (case aX => rfl); (case aO => exact HAP.out.1); (case aR => exact R_C HAP.out.2.2.2.2.1); (case aB => exact Below.refl _ _); (case aS => exact HAP.out.2.2.1.b1); (case aL => have := HAP.out.2.2.2.2.2; omega); intro v1 w9 ho hb9 hg hat; have hm9 := HAP.out.2.2.1.got' gr HAP.out.1 HAP.out.2.1 HAP.out.2.2.2.1 ho hb9 hg; have HM9 := Aside0.mk hm9; obtain ⟨gT, q1, q2⟩ := hm9.got; obtain ⟨A9, c9, rfl⟩ := Kd.R_slice q1; have HK := Aside0.mk (And.intro q1 q2); clear ho hb9 hg hat hm9 q1 q2))
        obtain ⟨T, hT⟩ : ∃ T, T = pre ++ (thinJ 0 J).evs := ⟨_, rfl⟩
        obtain ⟨Ws, hWs⟩ : ∃ Ws, Ws = wantI (BS X n0 lf) X n0 := ⟨_, rfl⟩
        have hchk1 := HE.out.2.1
        have hchk2 := HE.out.2.2.1
        have hgT := HK.out.1
        have hgT2 := HK.out.2
        obtain ⟨rwT, r1, r2⟩ := HM9.out.want
        obtain ⟨Aw, cw, rfl⟩ := Kd.R_slice r1
        rw [← hT, ← hWs] at hchk2
        rw [← hT] at hchk1 hgT2
        rw [← hWs] at r2
        have hgl := hgT2.1
        have hrl : rwT.length = Ws.length := r2.1
        have hwl : Ws.length ≤ 20 := by rw [hWs]; have := wantI_len (BS X n0 lf) X n0; have := HN0.out.1; have := HM.out.1; omega
        have hTl : gT.length ≤ 100000000 := by
          rw [hgl, hT, List.length_append]
          have := HE.out.2.2.2
          have := HOFF.out
          omega
        have HC := Aside0.mk (And.intro hchk1 (And.intro hchk2 (And.intro hgT (And.intro hgT2 (And.intro r1 (And.intro r2 (And.intro hgl (And.intro hrl (And.intro hwl hTl)))))))))
        have HB9 := Aside0.mk HM9.out.below
        have HW60 := Aside0.mk (show ∀ x ∈ Ws, x.length ≤ 60 from fun x hx => by
          rw [hWs] at hx
          obtain ⟨q, rfl⟩ := wantI_mem _ _ _ _ hx
          exact HX.out.2 q)
        rw [hrl]
        clear hT hWs hchk1 hchk2 hgT hgT2 r1 r2 hgl hrl hwl hTl HK HM9 HAP HE
        go_loopg [145, 29] gT.length (fun k v145 v29 wr3 => Aside0 (∃ s : Nat, v145 = .int .i64 (s : Int) ∧ s ≤ gT.length ∧ k = gT.length - s ∧ v29 = .int .i64 (cnt0 T s : Int) ∧ Below w9.heap.size w9 wr3))
        case atStart => exact ⟨0, rfl, Nat.zero_le _, by omega, rfl, Below.refl _ _⟩
        case round =>
          obtain ⟨s, rfl, hs, rfl, rfl, hbl⟩ := hrel.out
          clear hrel
          have HS' := Aside0.mk (And.intro hs hbl)
          clear hs hbl
          by_cases hsl : s < gT.length
          · have f1 : decide ((s : Int) < (gT.length : Int)) = true := decide_eq_true (by omega)
            have f1' : decide (s < gT.length) = true := decide_eq_true hsl
            have hs0 : (0 : Int) ≤ (s : Int) := by omega
            have hs2 : (s : Int) < (gT.length : Int) := by omega
            have hws : IntKind.i64.wrap ((s : Int) + 1) = ((s + 1 : Nat) : Int) := by rw [IntWalk.i64_in _ (by have := HC.out.2.2.2.2.2.2.2.2.2; omega)]; omega
            obtain ⟨ade, ev, A3, c3, rfl, hTs, x0, x1, x2, x3, l3, g3⟩ := ev_at HC.out.2.2.1 HC.out.2.2.2.1 s hsl
            obtain ⟨k1, k2, k3, k4⟩ := chk HC.out.1 HC.out.2.1 hTs
            have y0 := pw_cell_below HS'.out.2 x0
            have y1 := pw_cell_below HS'.out.2 x1
            have y2 := pw_cell_below HS'.out.2 x2
            have y3 := pw_cell_below HS'.out.2 x3
            have HEV := Aside0.mk (And.intro k1 (And.intro k2 (And.intro k3 (And.intro k4 (And.intro l3 g3)))))
            have HSL := Aside0.mk hsl
            clear x0 x1 x2 x3 k1 k2 k3 k4 l3 g3 hTs hsl
            go_upto_region 44 with (fail)
            have hba := below_alloc (Below.refl wr.heap.size wr) (.cells #[.int .i64 ev.kind, .slice A3 ev.data.length c3, .int .i64 ev.from_, .int .i64 ev.many] 84)
            have hPn := new1 wr (.cells #[.int .i64 ev.kind, .slice A3 ev.data.length c3, .int .i64 ev.from_, .int .i64 ev.many] 84)
            obtain ⟨g31, hg31⟩ : ∃ q, wr.heap.size = q := ⟨_, rfl⟩
            rw [hg31] at hPn
            have HPN := Aside0.mk hPn
            have HBA := Aside0.mk (below_step HS'.out.2 hba)
            simp only [hg31]
            clear hba hPn hg31 y0 y1 y2 y3
            generalize wr.alloc (.cells #[.int .i64 ev.kind, .slice A3 ev.data.length c3, .int .i64 ev.from_, .int .i64 ev.many] 84) = W1 at HPN HBA ⊢
            obtain ⟨b0, b1, b2, b3⟩ := cells4 HPN.out
            have hnk3 : (ev.kind == 3) = false := by have := HEV.out.2.1; simpa using this
            have hnk3' : decide (ev.kind = 3) = false := decide_eq_false HEV.out.2.1
            by_cases hk1 : ev.kind = 1
            · have z1 : (ev.kind == 1) = true := by simpa using hk1
              have z2 : decide (ev.many < 1) = false := decide_eq_false (by have := HEV.out.1 hk1; omega)
              have z3 : (ev.kind == 0) = false := by rw [hk1]; rfl
              have hcn : cnt0 T (s + 1) = cnt0 T s := HEV.out.2.2.2.1 (by omega)
              have HCN := Aside0.mk hcn
              clear hk1 hcn
              go_wp2_with (fail)
              go_roundg (gT.length - (s + 1))
              case measure => have := HSL.out; omega
              case rel => exact ⟨s + 1, by first | rfl | rw [hws], by have := HSL.out; omega, rfl, by rw [HCN.out], HBA.out⟩
            · have z1 : (ev.kind == 1) = false := by simpa using hk1
              by_cases hk0 : ev.kind = 0
              · have z3 : (ev.kind == 0) = true := by simpa using hk0
                obtain ⟨m1, m2⟩ := HEV.out.2.2.1 hk0
                obtain ⟨a, ha⟩ : ∃ a, cnt0 T s = a := ⟨_, rfl⟩
                rw [ha] at m1 m2
                have hal := (List.getElem?_eq_some_iff.1 m1).1
                obtain ⟨adw, A5, c5, rfl, w0', l5, g5⟩ := want_at HC.out.2.2.2.2.1 HC.out.2.2.2.2.2.1 a m1
                have w1' := pw_cell_below HBA.out w0'
                have z4 : decide ((Ws.length : Int) ≤ (a : Int)) = false := decide_eq_false (by omega)
                have z4' : decide (Ws.length ≤ a) = false := decide_eq_false (by omega)
                have ha0 : (0 : Int) ≤ (a : Int) := by omega
                have ha2 : (a : Int) < (Ws.length : Int) := by omega
                have hwa : IntKind.i64.wrap ((a : Int) + 1) = ((a + 1 : Nat) : Int) := by rw [IntWalk.i64_in _ (by have := HC.out.2.2.2.2.2.2.2.2.1; omega)]; omega
                have HEQ := Aside0.mk (And.intro (Kd.C_below HEV.out.2.2.2.2.2 HBA.out) (And.intro HEV.out.2.2.2.2.1 (And.intro (Kd.C_below g5 (below_step HB9.out HBA.out)) (And.intro l5 (And.intro (equal_self ev.data (by have h1 := HW60.out _ (List.mem_of_getElem? m1); omega)) m2)))))
                have HA := Aside0.mk ha
                rw [ha]
                clear m1 m2 hal l5 g5 w0' hk1 hk0 ha
                go_wp2_with (fail)
                go_region_held3 (fun w' => w'.cell? ⟨g31, 1, none⟩ = some (.slice A3 ev.data.length c3) ∧ w'.cell? (adw.add a) = some (.slice A5 ev.data.length c5)) (first | go_keep)
                  (first | (go_at_call 17; refine (marlineref01_Equal.calls (ev.data.length + 1) A3 c3 ev.data A5 c5 ev.data true _ (Kd.C_drew HEQ.out.1) HEQ.out.2.1 (Kd.C_drew HEQ.out.2.2.1) HEQ.out.2.2.2.1 HEQ.out.2.2.2.2.1).mono ?_; rintro e2 w2 ⟨rfl, hd2⟩; have HD2 := Aside0.mk hd2; have u1 : w2.cell? ⟨g31, 1, none⟩ = some (.slice A3 ev.data.length c3) := pw_cell_below hd2.below b1; have u2 : w2.cell? (adw.add a) = some (.slice A5 ev.data.length c5) := pw_cell_below hd2.below w1'; clear hd2))
                go_wp2
                go_roundg (gT.length - (s + 1))
                case measure => have := HSL.out; omega
                case rel => exact ⟨s + 1, by first | rfl | rw [hws], by have := HSL.out; omega, rfl, by rw [HEQ.out.2.2.2.2.2]; first | rfl | rw [hwa], (below_drew HBA.out).trans (HD2.out.below.mono HBA.out.size)⟩
              · have z3 : (ev.kind == 0) = false := by simpa using hk0
                have hcn : cnt0 T (s + 1) = cnt0 T s := HEV.out.2.2.2.1 hk0
                have HCN := Aside0.mk hcn
                clear hk1 hcn hk0
                go_wp2_with (fail)
                go_roundg (gT.length - (s + 1))
                case measure => have := HSL.out; omega
                case rel => exact ⟨s + 1, by first | rfl | rw [hws], by have := HSL.out; omega, rfl, by rw [HCN.out], HBA.out⟩
          · have f1 : decide ((s : Int) < (gT.length : Int)) = false := decide_eq_false (by omega)
            have f1' : decide (s < gT.length) = false := decide_eq_false hsl
            have hse : s = gT.length := by have := HS'.out.1; omega
            have hcn : cnt0 T s = Ws.length := by rw [hse, HC.out.2.2.2.2.2.2.1]; exact chk_end HC.out.2.1
            rw [hcn]
            clear hsl hse hcn
            go_wp2_with (fail)
            go_ret
            exact ⟨rfl, below_step HB9.out HS'.out.2⟩

end Go.Proofs.YtgopklnfdlnojaaDoor.Yc
