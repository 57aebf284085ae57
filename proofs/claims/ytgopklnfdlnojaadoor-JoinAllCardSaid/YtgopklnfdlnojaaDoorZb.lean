/- Pieces dealt to lanes (law24.dealt). -/
import Derived.Test.YtgopklnfdlnojaaDoorZa
namespace Go.Proofs.YtgopklnfdlnojaaDoor.Zb
open Go.RowKit Go.Proofs.YtgopklnfdlnojaaDoor.Ga Go.Proofs.YtgopklnfdlnojaaDoor.My Go.Proofs.YtgopklnfdlnojaaDoor.Gb Go.Proofs.YtgopklnfdlnojaaDoor.Gp Go.Proofs.YtgopklnfdlnojaaDoor.Sa Go.Proofs.YtgopklnfdlnojaaDoor.Sb Go.Proofs.YtgopklnfdlnojaaDoor.Ja Go.Proofs.YtgopklnfdlnojaaDoor.Jb Go.Proofs.YtgopklnfdlnojaaDoor.Jc Go.Proofs.YtgopklnfdlnojaaDoor.Ji Go.Proofs.YtgopklnfdlnojaaDoor.Xa Go.Proofs.YtgopklnfdlnojaaDoor.Xb Go.Proofs.YtgopklnfdlnojaaDoor.Xc Go.Proofs.YtgopklnfdlnojaaDoor.Yb Go.Proofs.YtgopklnfdlnojaaDoor.Za Go.Proofs.YtgopklnfdlnojaaDoorW.PrintWords Go.Proofs.YtgopklnfdlnojaaDoorW.PrintLast Go.Proofs.YtgopklnfdlnojaaDoorW.PrintMore
set_option linter.unusedVariables false
set_option linter.unusedSimpArgs false

/-- The lane that a piece is dealt to. -/
def dealf (D : List Int) (n k : Nat) : Nat := if D.length = 0 then 0 else (D.getD (k % D.length) 0).toNat % n
/-- A lane's pieces, of the first t. -/
def laneP (ps : Nat → S29) (df : Nat → Nat) (t L : Nat) : List S29 := ((List.range t).filter fun k => df k == L).map ps
theorem laneP_succ (ps : Nat → S29) (df : Nat → Nat) (t L : Nat) : laneP ps df (t + 1) L = if L = df t then laneP ps df t L ++ [ps t] else laneP ps df t L := by
  unfold laneP
  rw [List.range_succ, List.filter_append, List.map_append]
  by_cases h : L = df t
  · subst h; simp
  · have : (df t == L) = false := by simpa using (Ne.symm h)
    simp [h, this]
theorem info41 : (Tryd.prog.info? 41).map (fun i => (i.zero, i.size, i.bytes)) = some (some (.slice none 0 0), 1, 24) := by kernel_rfl
theorem info29' : (Tryd.prog.info? 29).map (fun i => (i.zero, i.size, i.bytes)) = some (some (.agg #[.bool false, .bool false, .int .i64 0, .slice none 0 0]), 4, 40) := by kernel_rfl
theorem info3' : (Tryd.prog.info? 3).map (fun i => (i.zero, i.size, i.bytes)) = some (some (.int .i64 0), 1, 8) := by kernel_rfl
theorem own_slice {α : Type} {d : Kd α} {e base : Nat} {w : World} {v : Value} {xs : List α} (h : d.R e w base (fun _ => True) v xs) (hne : 0 < xs.length) : ∃ go cap, v = .slice (some ⟨go, 0, none⟩) xs.length cap := by
  obtain ⟨inner, hown⟩ := Kd.R_own h
  rcases hown.2 with ⟨_, hz⟩ | ⟨go, cap, cur, rfl, _⟩
  · omega
  · exact ⟨go, cap, rfl⟩
theorem lanes_new {w : World} {base n go cap : Nat} {ps : Nat → S29} {df : Nat → Nat} (h : slK.R 41 w base (fun _ => True) (.slice (some ⟨go, 0, none⟩) n cap) (List.replicate n no)) : Lanes w base n go cap (List.replicate n no) (fun _ => []) (laneP ps df 0) := by
  have hget : ∀ L, L < n → (List.replicate n no).getD L no = no := fun L hL => by simp [List.getD_eq_getElem?_getD, hL]
  refine ⟨h, by simp, fun L hL => by rw [hget L hL]; exact Kd.R_nil _ _ _ _ _, fun L hL => ⟨rfl, fun j x y hx => by simp [laneP] at hx⟩, fun L L' hL hL' hne k hk => ?_⟩
  rw [hget L hL] at hk
  simp [encS, no, Value.ownBlock] at hk

theorem below_step' {b : Nat} {W w1 w2 w3 : World} (h1 : Below b W w1) (h2 : Below w1.heap.size w1 w2) (hb : b ≤ W.heap.size) (h3 : Below b w2 w3) : Below b W w3 :=
  (h1.trans (h2.mono (Nat.le_trans hb h1.size))).trans h3
set_option maxHeartbeats 8000000 in
set_option maxRecDepth 100000 in
theorem dealt_any (short : Bool) (n : Nat) (Ap : Option Addr) (cp : Nat) (P : List (List Int)) (Ad : Option Addr) (cd : Nat) (D : List Int) (W : World) (hS : Shapes W) (hn : 1 ≤ n ∧ n ≤ 8) (hP : (Kd.slice 5 (Kd.int .u8)).C W Ap P.length P) (kp : P.length ≤ cp) (hPl : P.length ≤ 20)
    (hD : (Kd.int .u8).C W Ad D.length D) (kd : D.length ≤ cd) (hDl : D.length ≤ 100) (bD : ∀ x ∈ D, 0 ≤ x ∧ x ≤ 255) (X : Nat → List Int) (hX : ∀ i, X i = P.getD i []) (hXl : ∀ i, (X i).length ≤ 60) :
    Calls Tryd.prog 37 #[.bool short, .int .i64 (n : Int), .slice Ap P.length cp, .slice Ad D.length cd] W fun e w' => ∃ go cap chs rrs vm, e = .returned (.tuple #[.slice (some ⟨go, 0, none⟩) n cap, vm, .bool true]) ∧
      Lanes w' W.heap.size n go cap chs rrs (laneP (psI (numbers short) X P.length) (dealf D n) (off X P.length)) ∧ Below W.heap.size W w' := by
  have HS := Aside0.mk hS
  have HIN := Aside0.mk (And.intro hP (And.intro hD (And.intro kp (And.intro kd bD))))
  have HM := Aside0.mk (And.intro hn (And.intro hPl hDl))
  have HX := Aside0.mk (And.intro hX hXl)
  obtain ⟨nm, hnm⟩ : ∃ nm, nm = numbers short := ⟨_, rfl⟩
  have HNM := Aside0.mk hnm
  rw [← hnm]
  have hoff : off X P.length ≤ 2000 := by have := off_le X hXl P.length; omega
  have HOFF := Aside0.mk hoff
  have hn0 : (0 : Int) ≤ (n : Int) := by omega
  clear hS hP hD kp kd bD hn hPl hDl hX hXl hnm hoff
  have hmk := print_make_int (P := Tryd.prog) 86 41 (.slice none 0 0) 24 Tryd.underlying86 info41 rfl (by decide) (n : Int) hn0 (by have := HM.out.1.2; simp; omega)
  simp only [Int.toNat_natCast] at hmk
  go_enter Tryd.func37, Tryd.ntmps37
  go_upto_region 2 with (fail)
  have hlan : Lanes (W.alloc (.cells (madeCells #[.slice none 0 0] n) 41)) W.heap.size n W.heap.size n (List.replicate n no) (fun _ => []) (laneP (psI nm X P.length) (dealf D n) 0) := by
    refine lanes_new (Kd.R_of_own (enc := encS) (h1 := encS_one) ⟨by simp [encs], .inr ⟨W.heap.size, n, _, by simp, Nat.le_refl _, new1 W _, by simp, by have := HM.out.1.2; unfold maxLen; omega, by rw [size_madeCells, Nat.mul_one], ?_⟩⟩ (fun _ _ => trivial))
    rw [toList_madeCells_one]
    simp [encs, encS, no]
  have hb1 := below_alloc (Below.refl W.heap.size W) (.cells (madeCells #[.slice none 0 0] n) 41)
  have HL0 := Aside0.mk (And.intro hlan hb1)
  obtain ⟨go, hgo⟩ : ∃ go, go = W.heap.size := ⟨_, rfl⟩
  have HGO := Aside0.mk hgo
  rw [← hgo] at HL0 ⊢
  clear hlan hb1 hgo hmk
  generalize W.alloc (.cells (madeCells #[.slice none 0 0] n) 41) = w1 at HL0 ⊢
  go_wp2_with (fail)
  go_loopg [27, 12, 13, 14] P.length (fun k v27 v12 v13 v14 wr => Aside0 (∃ (i : Nat) (chs : List Ch) (rrs : Nat → List (List Value)) (ms : List Int), v27 = .int .i64 (i : Int) ∧ i ≤ P.length ∧ k = P.length - i ∧ v13 = .int .i64 ((off X i : Int) % nm) ∧ v14 = .int .i64 (off X i : Int) ∧ (Kd.int .i64).R 3 wr go (fun _ => True) v12 ms ∧ ms.length ≤ i ∧ Lanes wr go n go n chs rrs (laneP (psI nm X P.length) (dealf D n) (off X i)) ∧ Below go W wr))
  case atStart =>
    exact ⟨0, _, _, [], rfl, Nat.zero_le _, by omega, by simp [off], rfl, Kd.R_nil _ _ _ _ _, Nat.le_refl _, HL0.out.1, HL0.out.2⟩
  case round =>
    obtain ⟨i, chs, rrs, ms, rfl, hi, rfl, rfl, rfl, hms, hml, hlan, hb⟩ := hrel.out
    clear hrel
    have HLN := Aside0.mk (And.intro hlan hb)
    have HMS := Aside0.mk (And.intro hms hml)
    have HI := Aside0.mk hi
    have hbW : Below W.heap.size W wr := by have := HLN.out.2; rwa [HGO.out] at this
    have HBW := Aside0.mk hbW
    clear hlan hb hms hml hi hbW
    by_cases hlt : i < P.length
    · have e1 : decide ((i : Int) < (P.length : Int)) = true := decide_eq_true (by omega)
      have e1' : decide (i < P.length) = true := decide_eq_true hlt
      have hi0 : (0 : Int) ≤ (i : Int) := by omega
      have hi2 : (i : Int) < (P.length : Int) := by omega
      obtain ⟨ad, A0, c0, rfl, y0, xl, xC⟩ := at_L3 HIN.out.1 (i : Int) hi0 hi2
      obtain ⟨x, hx⟩ : ∃ x, X i = x := ⟨_, rfl⟩
      have hrd : rd_L3 P (i : Int) = x := by rw [← hx, HX.out.1 i]; rfl
      rw [hrd] at y0 xl xC
      have x0 := pw_cell_below HBW.out y0
      simp only [Int.toNat_natCast] at x0
      have HXX := Aside0.mk (And.intro hx (And.intro xl xC))
      have HLT := Aside0.mk hlt
      have hx60 : x.length ≤ 60 := by rw [← hx]; exact HX.out.2 i
      clear y0 hx hrd xl xC hlt
      have hmod : Int.tmod (i : Int) 5 = ((i % 5 : Nat) : Int) := by rw [Int.tmod_eq_emod_of_nonneg hi0]; rfl
      have hw1 : IntKind.i64.wrap ((i % 5 : Nat) : Int) = ((i % 5 : Nat) : Int) := IntWalk.i64_in _ (by omega)
      have hw2 : IntKind.i64.wrap (1 + ((i % 5 : Nat) : Int)) = ((mAt i : Nat) : Int) := by rw [IntWalk.i64_in _ (by omega)]; unfold mAt; omega
      have hsplit := split_row short ((off X i : Int) % nm) (mAt i) A0 x.length c0 x wr (HS.out.below HBW.out) (by unfold mAt; omega) (Int.emod_nonneg _ (by rw [HNM.out]; cases short <;> decide)) (by rw [← HNM.out]; exact Int.emod_lt_of_pos _ (by rw [HNM.out]; cases short <;> decide)) (Kd.C_below HXX.out.2.2 HBW.out) HXX.out.2.1 (by omega)
      rw [← HNM.out] at hsplit
      have hN : nP (mAt i) x.length = nAt X i := by rw [← HXX.out.1]; rfl
      have hpe : pcs ((off X i : Int) % nm) nm (mAt i) (nP (mAt i) x.length) x = piecesOf nm X i := by rw [← HXX.out.1]; rfl
      have hnx : ((off X i : Int) % nm + (nP (mAt i) x.length : Nat)) % nm = (off X (i + 1) : Int) % nm := by
        rw [hN, mod_add, show off X (i + 1) = off X i + nAt X i from rfl, Int.natCast_add]
      rw [hnx, hpe, hN] at hsplit
      have hnpos := nAt_pos X i
      have z5 : decide ((nAt X i : Int) = 0) = false := decide_eq_false (by omega)
      have z5' : ((nAt X i : Int) == 0) = false := by simp; omega
      have z6 : decide (nAt X i = 0) = false := decide_eq_false (by omega)
      have z6' : (nAt X i == 0) = false := by simp; omega
      have HNP := Aside0.mk hnpos
      clear hN hpe hnx hx60 hnpos
      go_upto_region 10 with (first
        | (go_at_call 20; refine hsplit.mono ?_; rintro e ws ⟨A', c', rfl, hc', hR, hbs⟩; have HSP := Aside0.mk (And.intro hc' (And.intro hR hbs)); clear hc' hR hbs))
      obtain ⟨hc', hR, hbs⟩ := HSP.out
      obtain ⟨rr, hRr, hPc⟩ := pieces_typed hR
      have hlan := HLN.out.1.below hbs
      obtain ⟨Am, cm, rfl⟩ := Kd.R_slice HMS.out.1
      have hms := Kd.R_below HMS.out.1 hbs
      have hbsz := hbs.size
      have HD := Aside0.mk (And.intro hlan (And.intro (show PRow ws wr.heap.size (.slice A' (nAt X i) c') (piecesOf nm X i) rr from ⟨hRr, hPc⟩) (And.intro hms (And.intro (below_step HBW.out hbs) hbsz))))
      have hgb : go ≤ ws.heap.size := by have := HBW.out.size; have := HGO.out; omega
      have hmlen : ms.length ≤ 20 := by have := HMS.out.2; have := HLT.out; have := HM.out.2.1; omega
      have hap0 : ∀ L, L < n → ∀ k, (encS (chs.getD L no)).ownBlock = some k → (Value.slice A' (nAt X i) c').ownBlock ≠ some k := by
        intro L hL k hk hk2
        have h1 := Kd.R_lt (HLN.out.1.row L hL) k hk
        have h2 := Kd.R_base hRr k hk2
        omega
      have HAP := Aside0.mk hap0
      clear hc' hR hbs hRr hPc hlan hms hbsz hap0
      go_wp2_with (at_builtin; (refine Kd.R_append (Kd.int .i64) (w0 := ws) (W := ws) go ?aW (.tmp 51) (.tmp 54) 59 3 (.int .i64 0) 8 ?aU Tryd.underlying59 info3' rfl (by decide) (by decide) (.slice Am ms.length cm) ms ((nAt X i : Nat) : Int) [.int .i64 ((nAt X i : Nat) : Int)] (fun _ => True) (fun _ => False) ?aV ?aX ?aP (fun _ h => h.elim) (fun _ _ => trivial) ?aO ?aB ?aS ?aL ?_); (case aW => rfl); (case aU => rfl); (case aV => rfl); (case aX => rfl); (case aP => exact rfl); (case aO => exact HD.out.2.2.1); (case aB => exact Below.refl _ _); (case aS => exact hgb); (case aL => omega); intro v1 w2 ho hb9 hg hat; have hov : Over 3 ws w2 := over_grown hg (fun k hk => own_type HD.out.2.2.1 k hk.symm); have HQ := Aside0.mk (And.intro ho (And.intro hb9 (And.intro (HD.out.1.over hov (by decide) (by decide) (by decide)) (HD.out.2.1.over hov (by decide) (by decide))))); clear ho hb9 hg hat hov)
      obtain ⟨b29, hb29⟩ : ∃ b29, b29 = wr.heap.size := ⟨_, rfl⟩
      rw [← hb29] at HQ
      have hb2 : Below go W w2 := by
        have h1 := HD.out.2.2.2.1
        rw [← HGO.out] at h1
        exact h1.trans HQ.out.2.1
      have HB2 := Aside0.mk hb2
      clear hb29 hb2 hsplit x0 hgb hmlen
      go_loopg [58, 14] (nAt X i) (fun k v58 v14 wr2 => Aside0 (∃ (j : Nat) (chs2 : List Ch) (rrs2 : Nat → List (List Value)), v58 = .int .i64 (j : Int) ∧ j ≤ nAt X i ∧ k = nAt X i - j ∧ v14 = .int .i64 ((off X i + j : Nat) : Int) ∧ Lanes wr2 go n go n chs2 rrs2 (laneP (psI nm X P.length) (dealf D n) (off X i + j)) ∧ PRow wr2 b29 (.slice A' (nAt X i) c') (piecesOf nm X i) rr ∧ (Kd.int .i64).R 3 wr2 go (fun _ => True) v1 (ms ++ [((nAt X i : Nat) : Int)]) ∧ (∀ L, L < n → ∀ k, (encS (chs2.getD L no)).ownBlock = some k → (Value.slice A' (nAt X i) c').ownBlock ≠ some k) ∧ Below go W wr2))
      case atStart =>
        exact ⟨0, chs, rrs, rfl, Nat.zero_le _, rfl, rfl, HQ.out.2.2.1, HQ.out.2.2.2, HQ.out.1, HAP.out, HB2.out⟩
      case round =>
        obtain ⟨j, chs2, rrs2, rfl, hj, rfl, rfl, hlan, hprow, hms2, hap2, hb2⟩ := hrel.out
        clear hrel
        have HL2 := Aside0.mk (And.intro hlan (And.intro hprow (And.intro hms2 (And.intro hap2 hb2))))
        have HJ := Aside0.mk hj
        clear hlan hprow hms2 hap2 hb2 hj
        by_cases hjl : j < nAt X i
        · have f1 : decide ((j : Int) < (nAt X i : Int)) = true := decide_eq_true (by omega)
          have f1' : decide (j < nAt X i) = true := decide_eq_true hjl
          have hj0 : (0 : Int) ≤ (j : Int) := by omega
          have hj2 : (j : Int) < (nAt X i : Int) := by omega
          obtain ⟨adp, Aq, cq, rfl, p0, p1, p2, p3, pS⟩ := PRow.at HL2.out.2.1 (pcs_len _ _ _ _ _) j hjl
          obtain ⟨t, ht⟩ : ∃ t, off X i + j = t := ⟨_, rfl⟩
          obtain ⟨p, hp⟩ : ∃ p, psI nm X P.length t = p := ⟨_, rfl⟩
          have hrdp : (piecesOf nm X i).getD j z29 = p := by
            rw [← hp, ← ht, psI_at nm X P.length i j HLT.out hjl]
            unfold piecesOf pcs
            simp [hjl]
          rw [hrdp] at p0 p1 p2 p3 pS
          have htb : t + 1 ≤ 2001 := by
            have h3 := off_mono X (i + 1) P.length (by have := HLT.out; omega)
            have h4 : off X (i + 1) = off X i + nAt X i := rfl
            have h5 := HOFF.out
            omega
          have HP := Aside0.mk (And.intro ht (And.intro hp (And.intro pS htb)))
          have HJL := Aside0.mk hjl
          have hwt : IntKind.i64.wrap ((t : Int) + 1) = ((t + 1 : Nat) : Int) := by rw [IntWalk.i64_in _ (by omega)]; omega
          have hwj : IntKind.i64.wrap ((j : Int) + 1) = ((j + 1 : Nat) : Int) := by rw [IntWalk.i64_in _ (by omega)]; omega
          simp only [ht]
          clear ht hp pS hrdp hjl htb
          go_upto_region 15 with (fail)
          have hba := below_alloc (Below.refl wr.heap.size wr) (.cells #[.bool p.f0, .bool p.f1, .int .i64 p.f2, .slice Aq p.f3.length cq] 29)
          have hPn := new1 wr (.cells #[.bool p.f0, .bool p.f1, .int .i64 p.f2, .slice Aq p.f3.length cq] 29)
          obtain ⟨g21, hg21⟩ : ∃ q, wr.heap.size = q := ⟨_, rfl⟩
          rw [hg21] at hPn
          have HPN := Aside0.mk hPn
          have HBA := Aside0.mk hba
          simp only [hg21]
          clear hba hPn hg21 p0 p1 p2 p3
          generalize wr.alloc (.cells #[.bool p.f0, .bool p.f1, .int .i64 p.f2, .slice Aq p.f3.length cq] 29) = W1 at HPN HBA ⊢
          go_upto_if 64 with (fail)
          go_cut [22] from 62 to 74 (fun v22 wd => wd = W1 ∧ v22 = .int .i64 ((dealf D n t : Nat) : Int))
          case first =>
            by_cases hz : D.length = 0
            · have z1 : decide ((0 : Int) < (D.length : Int)) = false := decide_eq_false (by omega)
              have z1' : decide (0 < D.length) = false := decide_eq_false (by omega)
              have hdf : dealf D n t = 0 := by simp [dealf, hz]
              have HDF := Aside0.mk hdf
              clear hz hdf
              simp only [z1']
              go_wp2
              go_meet
              exact ⟨rfl, by rw [HDF.out]; rfl⟩
            · have z1 : decide ((0 : Int) < (D.length : Int)) = true := decide_eq_true (by omega)
              have z1' : decide (0 < D.length) = true := decide_eq_true (by omega)
              have hlt := Nat.mod_lt t (show 0 < D.length by omega)
              obtain ⟨q, hq⟩ : ∃ q, t % D.length = q := ⟨_, rfl⟩
              have hq0 : (0 : Int) ≤ (q : Int) := by omega
              have hq2 : (q : Int) < (D.length : Int) := by rw [hq] at hlt; omega
              obtain ⟨adl, rfl, hcl⟩ := Kd.at_int HIN.out.2.1 (q : Int) hq0 hq2
              have hbW1 : Below W.heap.size W W1 := by
                have h1 := HL2.out.2.2.2.2
                rw [HGO.out] at h1
                exact below_step h1 HBA.out
              have hcl1 := pw_cell_below hbW1 hcl
              simp only [Int.toNat_natCast] at hcl1
              obtain ⟨y, hy⟩ : ∃ y, rd D (q : Int) = y := ⟨_, rfl⟩
              have hyd : D.getD q 0 = y := hy
              rw [hy] at hcl1
              have hyb : 0 ≤ y ∧ y ≤ 255 := by
                rw [← hyd, List.getD_eq_getElem?_getD, List.getElem?_eq_getElem (by omega)]
                exact HIN.out.2.2.2.2 _ (List.getElem_mem _)
              have hrm : Int.tmod (t : Int) (D.length : Int) = (q : Int) := by
                rw [Int.tmod_eq_emod_of_nonneg (by omega), ← hq]
                rfl
              have hwq : IntKind.i64.wrap (q : Int) = (q : Int) := IntWalk.i64_in _ (by have := HM.out.2.2; omega)
              have hwy : IntKind.i64.wrap y = y := IntWalk.i64_in _ (by omega)
              have hnz : ¬ (D.length : Int) = 0 := by omega
              have hnz' : ¬ D.length = 0 := hz
              have hn8 := HM.out.1
              have hlk0 : ¬ (n : Int) = 0 := by omega
              have hlk0' : ¬ n = 0 := by omega
              have hL : Int.tmod y (n : Int) = ((dealf D n t : Nat) : Int) := by
                unfold dealf
                rw [if_neg hz, hq, hyd, Int.tmod_eq_emod_of_nonneg hyb.1, Int.natCast_emod, Int.toNat_of_nonneg hyb.1]
              have hdl : dealf D n t < n := by
                unfold dealf
                rw [if_neg hz]
                exact Nat.mod_lt _ (by omega)
              have hwL : IntKind.i64.wrap ((dealf D n t : Nat) : Int) = ((dealf D n t : Nat) : Int) := IntWalk.i64_in _ (by omega)
              clear hz hq hlt hy hyd hyb hcl hbW1 hdl hn8
              simp only [z1']
              go_wp2
              go_meet
              exact ⟨rfl, rfl⟩
          case rest =>
            obtain ⟨hwd, rfl⟩ := hcut
            obtain ⟨W8, hW8⟩ : ∃ V, V = wc := ⟨_, rfl⟩
            rw [← hW8] at hwd ⊢
            subst hwd
            clear hW8
            obtain ⟨L, hL⟩ : ∃ L, dealf D n t = L := ⟨_, rfl⟩
            have hLn : L < n := by
              rw [← hL]
              unfold dealf
              split
              · have := HM.out.1; omega
              · exact Nat.mod_lt _ (by have := HM.out.1; omega)
            have HLL := Aside0.mk (And.intro hL hLn)
            simp only [hL]
            have hlan8 := (HL2.out.1.below HBA.out)
            obtain ⟨ch, hch⟩ : ∃ ch, chs2.getD L no = ch := ⟨_, rfl⟩
            obtain ⟨Al, nl, cl⟩ := ch
            have hcell := hlan8.cell hLn
            have hrow := hlan8.row L hLn
            rw [hch] at hcell hrow
            simp only [encS] at hcell hrow
            obtain ⟨hc1, hc2⟩ := hcell
            have hnl := (Kd.R_reads' hrow).1
            have HRW := Aside0.mk (And.intro hlan8 (And.intro hrow (And.intro hch hnl)))
            have hL0 : (0 : Int) ≤ (L : Int) := by omega
            have hL2 : (L : Int) < (n : Int) := by omega
            obtain ⟨b0, b1, b2, b3⟩ := cells4 HPN.out
            clear hL hLn hlan8 hch hrow hnl
            go_upto_region 18 with (fail)
            have hb0 : go ≤ W8.heap.size := by have h1 := HL2.out.2.2.2.2; have h2 := HBA.out.size; have h3 := h1.size; have h4 := HGO.out; omega
            have hrl : (rrs2 L).length ≤ 2001 := by
              have h1 := (HRW.out.1.pcs L HLL.out.2).1
              have h2 : (laneP (psI nm X P.length) (dealf D n) (off X i + j) L).length ≤ off X i + j := by
                unfold laneP
                rw [List.length_map]
                exact Nat.le_trans (List.length_filter_le _ _) (by simp)
              have h3 := HP.out.1
              have h4 := HP.out.2.2.2
              omega
            have HB0 := Aside0.mk (And.intro hb0 hrl)
            have hnl := HRW.out.2.2.2
            subst hnl
            have tL : ∀ o : Obj, (W8.alloc o).cell? ⟨go, L, none⟩ = some (.slice Al (rrs2 L).length cl) := fun o => pw_cell_below (below_alloc (Below.refl _ W8) o) hc1
            have t0 : ∀ o : Obj, (W8.alloc o).cell? ⟨g21, 0, none⟩ = some (.bool p.f0) := fun o => pw_cell_below (below_alloc (Below.refl _ W8) o) b0
            have t1 : ∀ o : Obj, (W8.alloc o).cell? ⟨g21, 1, none⟩ = some (.bool p.f1) := fun o => pw_cell_below (below_alloc (Below.refl _ W8) o) b1
            have t2 : ∀ o : Obj, (W8.alloc o).cell? ⟨g21, 2, none⟩ = some (.int .i64 p.f2) := fun o => pw_cell_below (below_alloc (Below.refl _ W8) o) b2
            have t3 : ∀ o : Obj, (W8.alloc o).cell? ⟨g21, 3, none⟩ = some (.slice Aq p.f3.length cq) := fun o => pw_cell_below (below_alloc (Below.refl _ W8) o) b3
            clear hb0
            go_region_law (refine Kd.R_append_step (rawK 4) (w0 := W8) (W := W8.drew) go ?aW (.tmp 80) (.tmp 82) 41 29 (.agg #[.bool false, .bool false, .int .i64 0, .slice none 0 0]) 40 ?aU Tryd.underlying41 info29' rfl (by decide) (by decide) (.slice Al (rrs2 L).length cl) (rrs2 L) [.bool p.f0, .bool p.f1, .int .i64 p.f2, .slice Aq p.f3.length cq] [.bool p.f0, .bool p.f1, .int .i64 p.f2, .slice Aq p.f3.length cq] (fun _ => True) (fun _ => False) ?aV ?aX ?aP (fun _ h => h.elim) (fun _ _ => trivial) ?aO ?aB ?aS ?aL ?_; (case aW => rfl); (case aU => rfl); (case aV => rfl); (case aX => rfl); (case aP => exact raw_M _ _ _ _ rfl (by simp [Value.oneCell'])); (case aO => exact Kd.R_drew HRW.out.2.1); (case aB => exact below_drew (Below.refl _ _)); (case aS => exact HB0.out.1); (case aL => omega); intro v1' w9 ho hb9 hg hat; have hov : Over 29 W8.drew w9 := over_grown hg (fun k hk => own_type (Kd.R_drew HRW.out.2.1) k hk.symm); obtain ⟨y1, y2⟩ := Kd.R_celln no (R_over rfl (Kd.R_drew HRW.out.1.out) hov (by decide)) (L : Int) hL0 hL2; simp only [Int.toNat_natCast] at y1 y2; obtain ⟨A9, c9, rfl⟩ := Kd.R_slice ho; have HO := Aside0.mk (And.intro ho (And.intro hb9 (And.intro hg hat))); clear ho hb9 hg hat hov)
            all_goals
              go_wp2
              go_roundg (nAt X i - (j + 1))
              case measure => have := HJL.out; omega
              case rel =>
                obtain ⟨ho, hb9, hg, hat⟩ := HO.out
                simp only [List.length_append, List.length_singleton] at ho hat
                have hch := HRW.out.2.2.1
                have ht1 : off X i + (j + 1) = t + 1 := by have := HP.out.1; omega
                have hpd := HL2.out.2.1.below HBA.out
                have hld : Lanes W8.drew go n go n chs2 rrs2 (laneP (psI nm X P.length) (dealf D n) (off X i + j)) := HRW.out.1.below (below_drew (Below.refl _ _))
                have hput := hld.put (x := p) (c9 := (A9, ((rrs2 L).length + 1), c9)) HLL.out.2 ((HP.out.2.2.1.below HBA.out).below (below_drew (Below.refl _ _))) ho (by rw [hch]; exact hg) (by rw [hch]; exact hat)
                have hLL : (fun q => if q = L then laneP (psI nm X P.length) (dealf D n) (off X i + j) L ++ [p] else laneP (psI nm X P.length) (dealf D n) (off X i + j) q) = laneP (psI nm X P.length) (dealf D n) (off X i + (j + 1)) := by
                  funext q
                  rw [ht1, laneP_succ, HLL.out.1, HP.out.2.1, HP.out.1]
                  by_cases e : q = L
                  · rw [if_pos e, if_pos e, e]
                  · rw [if_neg e, if_neg e]
                rw [hLL] at hput
                have hcs := hld.typed
                obtain ⟨cs, hcs⟩ := hcs
                have hov : Over 29 W8.drew w9 := over_grown hg (fun k hk => own_type (Kd.R_drew HRW.out.2.1) k hk.symm)
                have hset : Over 41 w9 (w9.setCell ⟨go, L, none⟩ (.slice A9 ((rrs2 L).length + 1) c9)) := over_set (over_keeps hov (by decide) go cs hcs)
                have hpr : PRow w9 b29 (.slice (some adp) (nAt X i) c') (piecesOf nm X i) rr := (hpd.below (below_drew (Below.refl _ _))).grown hg (fun k hk => own_type (Kd.R_drew HRW.out.2.1) k hk.symm) (fun k hk e => HL2.out.2.2.2.1 L HLL.out.2 k (by rw [hch]; exact e) hk)
                refine ⟨j + 1, _, _, by first | rfl | rw [hwj], by have := HJL.out; omega, rfl, by rw [ht1]; first | rfl | rw [hwt], hput, hpr.over hset (by decide) (by decide), R_over rfl (R_over rfl (Kd.R_drew (Kd.R_below HL2.out.2.2.1 HBA.out)) hov (by decide)) hset (by decide), fun L' hL' k hk => ?_, ?_⟩
                · by_cases e : L' = L
                  · subst e
                    rw [List.getD_eq_getElem?_getD, List.getElem?_set_self (by rw [hld.len]; exact hL')] at hk
                    rcases hat with e2 | ⟨b, e2, hb⟩
                    · exact HL2.out.2.2.2.1 L' hL' k (by rw [hch]; exact e2.symm.trans hk)
                    · intro hk2
                      have h1 : some b = some k := e2.symm.trans hk
                      have h2 := Kd.R_lt hpd.1 k hk2
                      have h3 : b = k := by simpa using h1
                      have h4 : W8.heap.size ≤ b := hb
                      omega
                  · rw [List.getD_eq_getElem?_getD, List.getElem?_set_ne (Ne.symm e), ← List.getD_eq_getElem?_getD] at hk
                    exact HL2.out.2.2.2.1 L' hL' k hk
                · have h1 := HL2.out.2.2.2.2
                  have h0 := HGO.out
                  exact (below_step' h1 HBA.out (by rw [h0]; exact Nat.le_refl _) hb9).setCell (p := ⟨go, L, none⟩) (Nat.le_refl _) _
        · have f1 : decide ((j : Int) < (nAt X i : Int)) = false := decide_eq_false (by omega)
          have f1' : decide (j < nAt X i) = false := decide_eq_false hjl
          have hjn : j = nAt X i := by have := HJ.out; omega
          have hwi : IntKind.i64.wrap ((i : Int) + 1) = ((i + 1 : Nat) : Int) := by rw [IntWalk.i64_in _ (by have := HM.out.2.1; have := HLT.out; omega)]; omega
          have HJN := Aside0.mk hjn
          clear hjl hjn
          go_wp2_with (fail)
          go_roundg (P.length - (i + 1))
          case measure => have := HLT.out; omega
          case rel =>
            have hoj : off X (i + 1) = off X i + j := by rw [HJN.out]; rfl
            exact ⟨i + 1, chs2, rrs2, ms ++ [((nAt X i : Nat) : Int)], by first | rfl | rw [hwi], HLT.out, rfl, rfl, by rw [hoj]; first | done | rfl, HL2.out.2.2.1, by have := HMS.out.2; simp; omega, by rw [hoj]; exact HL2.out.1, HL2.out.2.2.2.2⟩
    · have e1 : decide ((i : Int) < (P.length : Int)) = false := decide_eq_false (by omega)
      have e1' : decide (i < P.length) = false := decide_eq_false hlt
      have hin : i = P.length := by have := HI.out; omega
      have HIN1 := Aside0.mk hin
      clear hlt hin
      go_wp2_with (fail)
      go_ret3
      rw [← HGO.out]
      have hl := HLN.out.1
      rw [show off X i = off X P.length by rw [HIN1.out]] at hl
      exact ⟨go, n, chs, rrs, _, rfl, hl, HLN.out.2⟩

end Go.Proofs.YtgopklnfdlnojaaDoor.Zb
