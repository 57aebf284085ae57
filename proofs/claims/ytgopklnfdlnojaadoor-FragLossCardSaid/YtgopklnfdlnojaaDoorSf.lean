/- The law of pieces there and back (FragThere), walked. -/
import Derived.Test.YtgopklnfdlnojaaDoorGs
import Derived.Test.YtgopklnfdlnojaaDoorGz
import Derived.Test.YtgopklnfdlnojaaDoorGh
import Derived.Test.YtgopklnfdlnojaaDoorSe
namespace Go.Proofs.YtgopklnfdlnojaaDoor.Sf
open Go.RowKit Go.Proofs.YtgopklnfdlnojaaDoor.Ga Go.Proofs.YtgopklnfdlnojaaDoor.My Go.Proofs.YtgopklnfdlnojaaDoor.Gb Go.Proofs.YtgopklnfdlnojaaDoor.Gp Go.Proofs.YtgopklnfdlnojaaDoor.Gs Go.Proofs.YtgopklnfdlnojaaDoor.Gv Go.Proofs.YtgopklnfdlnojaaDoor.Gw Go.Proofs.YtgopklnfdlnojaaDoor.Gy Go.Proofs.YtgopklnfdlnojaaDoor.Gz Go.Proofs.YtgopklnfdlnojaaDoor.Gh Go.Proofs.YtgopklnfdlnojaaDoor.Sa Go.Proofs.YtgopklnfdlnojaaDoor.Sb Go.Proofs.YtgopklnfdlnojaaDoor.Sd Go.Proofs.YtgopklnfdlnojaaDoor.Se Go.Proofs.YtgopklnfdlnojaaDoorW.PrintWords Go.Proofs.YtgopklnfdlnojaaDoorW.PrintLast Go.Proofs.YtgopklnfdlnojaaDoorW.PrintMore
set_option linter.unusedVariables false
set_option linter.unusedSimpArgs false

/-- What the packet is parted into at these arguments. -/
theorem split_at (short : Bool) (bg : Int) (m : Nat) (A : Option Addr) (n c : Nat) (xs : List Int) (w : World) (hS : Shapes w) (hm : 1 ≤ m) (h0 : 0 ≤ bg) (h1 : bg < numbers short) (hC : (Kd.int .u8).C w A n xs) (hc : n ≤ c) (hn : n ≤ 1000) :
    Calls Tryd.prog 20 #[.bool short, .int .i64 bg, .int .i64 m, .slice A n c] w fun e w' => ∃ A' c', e = .returned (.tuple #[.slice A' (nP m n) c', .int .i64 ((bg + (nP m n : Nat)) % numbers short), .int .i64 0]) ∧ nP m n ≤ c' ∧ k29.C w' A' (nP m n) (pcs bg (numbers short) m (nP m n) xs) ∧ Below w.heap.size w w' := by
  have := split_any short bg m A n c xs w hS hC hc hn
  have e : splitP short bg m xs = (pcs bg (numbers short) m (nP m n) xs, (bg + (nP m n : Nat)) % numbers short, 0) := by
    rw [splitP, if_neg (by omega), if_neg (by simpa using And.intro h0 h1), Int.toNat_natCast, hC.1]
  rw [e] at this
  simp only [pcs_len] at this
  exact this

theorem arith (short : Bool) (first most : Int) (hf0 : 0 ≤ first) (hf1 : first < 4294967296) (hm0 : 0 ≤ most) (hm1 : most ≤ 255) :
    IntKind.i64.wrap first = first ∧ IntKind.i64.wrap most = most ∧ IntKind.i64.wrap (most + 1) = most + 1 ∧ numbers short ≠ 0 ∧ Int.tmod first (numbers short) = first % numbers short ∧ 0 ≤ first % numbers short ∧ first % numbers short < numbers short := by
  have hn : numbers short = 4096 ∨ numbers short = 16777216 := by cases short <;> simp [numbers]
  generalize numbers short = nm at hn ⊢
  refine ⟨by rw [IntKind.wrap_i64]; omega, by rw [IntKind.wrap_i64]; omega, by rw [IntKind.wrap_i64]; omega, by omega, Int.tmod_eq_emod_of_nonneg hf0, Int.emod_nonneg _ (by omega), Int.emod_lt_of_pos _ (by omega)⟩

theorem arith2 (bg nm : Int) (m n N : Nat) (hm : 1 ≤ m) (hm2 : m ≤ 256) (hn : n ≤ 1000) (hN : nP m n = N) (h0 : 0 ≤ bg) (h1 : bg < nm) (hnm : nm = 4096 ∨ nm = 16777216) :
    IntKind.i64.wrap ((n : Int) + m) = (n : Int) + m ∧ IntKind.i64.wrap ((n : Int) + m - 1) = (n : Int) + m - 1 ∧ (m : Int) ≠ 0 ∧ Int.tdiv ((n : Int) + m - 1) m = ((n : Int) + m - 1) / m ∧ max 1 (((n : Int) + m - 1) / m) = (N : Int) ∧ IntKind.i64.wrap (bg + N) = bg + N ∧ Int.tmod (bg + N) nm = (bg + N) % nm := by
  have hc : (((n : Int) + m - 1) / m) = ((cnt m n : Nat) : Int) := by
    unfold cnt
    rw [Int.natCast_ediv]
    congr 1
    omega
  have hl := cnt_le m n hm
  refine ⟨by rw [IntKind.wrap_i64]; omega, by rw [IntKind.wrap_i64]; omega, by omega, Int.tdiv_eq_ediv_of_nonneg (by omega), ?_, ?_, Int.tmod_eq_emod_of_nonneg (by omega)⟩
  · rw [hc, ← hN]
    unfold nP
    omega
  · unfold nP at hN
    rw [IntKind.wrap_i64]
    omega

theorem arith3 (m n K : Nat) (hm : 1 ≤ m) (hn : n ≤ 1000) (hK : cnt m n = K) : wrap64 (((n : Int) + m - 1) / m) = (K : Int) := by
  have hc : (((n : Int) + m - 1) / m) = ((cnt m n : Nat) : Int) := by
    unfold cnt
    rw [Int.natCast_ediv]
    congr 1
    omega
  have hl := cnt_le m n hm
  rw [hc, hK]
  unfold wrap64
  omega

theorem piece_facts (bg nm : Int) (m N n : Nat) (xs : List Int) (k : Nat) (h : k < N) (hN : nP m n = N) (hn : xs.length = n) (hm : 1 ≤ m) (hnm : 0 < nm) (hxx : ∀ x ∈ xs, 0 ≤ x ∧ x ≤ 255) (P : S29) (hP : rd_T29 (pcs bg nm m N xs) k = P) :
    (∀ x ∈ P.f3, 0 ≤ x ∧ x ≤ 255) ∧ 0 ≤ P.f2 ∧ P.f2 < nm ∧ P.f3.length ≤ m ∧ P.f3.length ≤ n ∧ (P.f3.length = 0 ∧ n = 0 ∨ 0 < P.f3.length) := by
  rw [rd_pcs _ _ _ _ _ _ h] at hP
  subst hP
  refine ⟨fun x hx => hxx x (List.mem_of_mem_drop (List.mem_of_mem_take hx)), Int.emod_nonneg _ (by omega), Int.emod_lt_of_pos _ hnm, by simp; omega, by simp; omega, ?_⟩
  simp only [List.length_take, List.length_drop, hn]
  by_cases h0 : n = 0
  · exact .inl ⟨by omega, h0⟩
  · have hc := (cnt_lt m n 0 hm).2 (by omega)
    have : N = cnt m n := by rw [← hN]; unfold nP; omega
    have := (cnt_lt m n k hm).1 (by omega)
    exact .inr (by omega)

set_option maxHeartbeats 4000000 in
set_option maxRecDepth 100000 in
theorem there_walk (short : Bool) (first most : Int) (A : Option Addr) (n c : Nat) (xs : List Int) (w : World) (hS : Shapes w) (hf0 : 0 ≤ first) (hf1 : first < 4294967296) (hm0 : 0 ≤ most) (hm1 : most ≤ 255)
    (hx : (Kd.int .u8).C w A n xs) (hc : n ≤ c) (hxx : ∀ x ∈ xs, 0 ≤ x ∧ x ≤ 255) :
    Calls Tryd.prog 7 #[.bool short, .int .u32 first, .int .u8 most, .slice A n c] w fun ex w' => ex = .returned (.bool true) ∧ Below w.heap.size w w' := by
  have HS := Aside0.mk hS
  have HX := Aside0.mk hx
  have HC := Aside0.mk hc
  have HXX := Aside0.mk hxx
  obtain ⟨e1, e2, e3, e4, e5, e6, e7⟩ := arith short first most hf0 hf1 hm0 hm1
  have HBG := Aside0.mk (And.intro e6 e7)
  have HM := Aside0.mk (And.intro hm0 hm1)
  clear hS hx hc hxx hf0 hf1 hm0 hm1 e6 e7
  go_enter Tryd.func7, Tryd.ntmps7
  go_wp2_with (fail)
  refine (speaks_any w HS.out).mono ?_
  rintro ex1 w2 ⟨rfl, hb⟩
  have X := Aside0.mk hb
  have HS2 := Aside0.mk (HS.out.below hb)
  clear hb
  by_cases hbig : 1000 < (n : Int)
  · have hb1 : decide (1000 < (n : Int)) = true := decide_eq_true hbig
    go_wp2_with (fail)
    refine (speaks_any w2 HS2.out).mono ?_
    rintro e3 w3 ⟨rfl, hb⟩
    have X3 := Aside0.mk (below_step X.out hb)
    clear hb
    go_wp2
    go_ret
    exact ⟨rfl, X3.out⟩
  have hb1 : decide (1000 < (n : Int)) = false := decide_eq_false hbig
  have HN := Aside0.mk (show n ≤ 1000 by omega)
  clear hbig
  go_wp2_with (fail)
  refine (mod_any short w2 HS2.out).mono ?_
  rintro ex2 w3 ⟨rfl, hb⟩
  replace X := Aside0.mk (below_step X.out hb)
  have HS3 := Aside0.mk (HS2.out.below hb)
  clear hb HS2
  go_wp2_with (fail)
  obtain ⟨m, hme⟩ : ∃ m : Nat, most + 1 = (m : Int) := ⟨(most + 1).toNat, by have := HM.out; omega⟩
  have HMM := Aside0.mk (show 1 ≤ m ∧ m ≤ 256 by have := HM.out; omega)
  simp only [hme]
  clear e1 e2 e3 e5 hme
  generalize first % numbers short = bg at HBG ⊢
  refine (split_at short bg m A n c xs w3 HS3.out HMM.out.1 HBG.out.1 HBG.out.2 (Kd.C_below HX.out X.out) HC.out HN.out).mono ?_
  rintro ex4 w4 ⟨A4, c4, rfl, hcc, hC4, hb⟩
  have HC4 := Aside0.mk hC4
  have HCC := Aside0.mk hcc
  replace X := Aside0.mk (below_step X.out hb)
  have HS4 := Aside0.mk (HS3.out.below hb)
  clear hb HS3 hcc hC4
  obtain ⟨N, hN⟩ : ∃ N, nP m n = N := ⟨_, rfl⟩
  have HNP := Aside0.mk hN
  rw [hN] at HC4 HCC
  simp only [hN]
  clear hN
  obtain ⟨a1, a2, a3, a4, a5, a6, a7⟩ := arith2 bg (numbers short) m n N HMM.out.1 HMM.out.2 HN.out HNP.out HBG.out.1 HBG.out.2 (by cases short <;> simp [numbers])
  obtain ⟨K, hK⟩ : ∃ K : Nat, cnt m n = K := ⟨_, rfl⟩
  have hq := arith3 m n K HMM.out.1 HN.out hK
  have hNK : N = max 1 K := by rw [← HNP.out, ← hK]; rfl
  have HNK := Aside0.mk hNK
  have HK := Aside0.mk hK
  clear a5 hNK hK
  by_cases hk1 : 1 < K
  · have hlt : 1 < wrap64 (((n : Int) + m - 1) / m) := by rw [hq]; omega
    have hNKe : wrap64 (((n : Int) + m - 1) / m) = (N : Int) := by rw [hq, HNK.out]; omega
    clear hq
    go_wp2_with (fail)
    refine (mod_any short w4 HS4.out).mono ?_
    rintro ex5 w5 ⟨rfl, hb⟩
    replace X := Aside0.mk (below_step X.out hb)
    have HS5 := Aside0.mk (HS4.out.below hb)
    have HC5 := Aside0.mk (Kd.C_below HC4.out hb)
    clear hb HS4 HC4
    have hu41 := Tryd.underlying41
    go_wp2
    clear a1 a2 a3 a4 a6 a7
    have HN5 := Aside0.mk (show N ≤ 1000 by
      have h1 := HNP.out
      have h2 := cnt_le m n HMM.out.1
      have h3 := HN.out
      unfold nP at h1
      omega)
    go_loopw [14, 76] (fun v14 v76 wr => ∃ k : Nat, k ≤ N ∧ v76 = .int .i64 k ∧ Aside0 (k29.R 29 wr w5.heap.size (fun _ => True) v14 ((pcs bg (numbers short) m N xs).take k)) ∧ Aside0 (Below w5.heap.size w5 wr)) (fun _ v76 _ => N - (intOf v76).toNat)
    case atStart => exact ⟨0, Nat.zero_le _, rfl, ⟨Kd.R_nil _ _ _ _ _⟩, ⟨Below.refl _ _⟩⟩
    case round =>
      obtain ⟨k, hk, rfl, HR, HB⟩ := hrel
      have hn5 := HN5.out
      by_cases hlt2 : k < N
      · obtain ⟨ad9, A3, c3, rfl, r0, r1, r2, r3, l3, g3⟩ := at_T29 (Kd.C_below HC5.out HB.out) (k : Int) (by omega) (by omega)
        rw [Int.toNat_natCast] at r0 r1 r2 r3
        obtain ⟨P, hP⟩ : ∃ P, rd_T29 (pcs bg (numbers short) m N xs) (k : Int) = P := ⟨_, rfl⟩
        have hpf := piece_facts bg (numbers short) m N n xs k hlt2 HNP.out HX.out.1 HMM.out.1 (by cases short <;> decide) HXX.out P hP
        have htk : (pcs bg (numbers short) m N xs).take (k + 1) = (pcs bg (numbers short) m N xs).take k ++ [P] := by
          rw [pcs_take _ _ _ _ _ _ hlt2, ← rd_pcs _ _ _ _ _ _ hlt2, hP]
        rw [hP] at r0 r1 r2 r3 l3 g3
        have HPF := Aside0.mk hpf
        have HTK := Aside0.mk htk
        have HL3 := Aside0.mk l3
        have HG3 := Aside0.mk g3
        clear hP hpf htk l3 g3
        go_wp2_with (fail)
        have HQ := Aside0.mk (new1 wr (.cells #[.bool P.f0, .bool P.f1, .int .i64 P.f2, .slice A3 P.f3.length c3] 29))
        have HBa := Aside0.mk (below_alloc (Below.refl _ wr) (.cells #[.bool P.f0, .bool P.f1, .int .i64 P.f2, .slice A3 P.f3.length c3] 29))
        generalize wr.alloc (.cells #[.bool P.f0, .bool P.f1, .int .i64 P.f2, .slice A3 P.f3.length c3] 29) = wa at HQ HBa ⊢
        obtain ⟨g16, hg16⟩ : ∃ g, wr.heap.size = g := ⟨_, rfl⟩
        rw [hg16] at HQ
        simp only [hg16]
        have HSa := Aside0.mk ((HS5.out.below HB.out).below HBa.out)
        refine (put_in short P.f0 P.f1 P.f2 A3 P.f3.length c3 P.f3 wa HSa.out (Kd.C_below HG3.out HBa.out) HL3.out (by have := HPF.out.2.2.2.2.1; have := HN.out; omega) ⟨HPF.out.2.1, HPF.out.2.2.1⟩).mono ?_
        rintro ex6 w6 ⟨A6, c6, rfl, hcc6, hC6, hb6⟩
        have HB6 := Aside0.mk (below_step HBa.out hb6)
        have HQ6 := Aside0.mk (blk_keep HQ.out hb6)
        have HS6 := Aside0.mk (HSa.out.below hb6)
        have HC6 := Aside0.mk hC6
        have HCC6 := Aside0.mk hcc6
        clear hcc6 hC6 hb6 r0 r1 r2 r3
        obtain ⟨q0, q1, q2, q3⟩ := cells4 HQ6.out
        have HZL := Aside0.mk (show (putB short P.f0 P.f1 P.f2 P.f3).length ≤ 100000 by
          rw [put_len]
          have h1 := HPF.out.2.2.2.2.1
          have h2 := HN.out
          cases short <;> simp [wide] <;> omega)
        obtain ⟨nz, hnz⟩ : ∃ nz, (putB short P.f0 P.f1 P.f2 P.f3).length = nz := ⟨_, rfl⟩
        rw [hnz] at HC6 HCC6 HZL
        simp only [hnz]
        clear hnz
        go_wp2_with (fail)
        refine (get_own short P.f0 P.f1 P.f2 P.f3 HPF.out.2.1 HPF.out.2.2.1 HPF.out.1 A6 nz c6 w6 HS6.out HC6.out HCC6.out HZL.out).mono ?_
        rintro ex7 w7 ⟨A7, c7, rfl, hR7, hb7⟩
        have HB7 := Aside0.mk (below_step HB6.out hb7)
        have HQ7 := Aside0.mk (blk_keep HQ6.out hb7)
        have HR7 := Aside0.mk hR7
        have HS76 := Aside0.mk (Nat.le_trans HB6.out.size (Nat.le_refl _))
        clear hR7 hb7 q0 q1 q2 q3
        go_upto_region 13 with (fail)
        have HQ9 := Aside0.mk (new1 w7 (.cells #[.bool P.f0, .bool P.f1, .int .i64 P.f2, .slice A7 P.f3.length c7] 29))
        have hba := below_alloc (Below.refl _ w7) (.cells #[.bool P.f0, .bool P.f1, .int .i64 P.f2, .slice A7 P.f3.length c7] 29)
        have HB8 := Aside0.mk (below_step HB7.out hba)
        have HQ8 := Aside0.mk (blk_keep HQ7.out hba)
        have HR8 := Aside0.mk (Kd.R_below HR7.out hba)
        clear hba
        generalize w7.alloc (.cells #[.bool P.f0, .bool P.f1, .int .i64 P.f2, .slice A7 P.f3.length c7] 29) = w8 at HQ9 HB8 HQ8 HR8 ⊢
        generalize w7.heap.size = g19 at HQ9 ⊢
        obtain ⟨q0, q1, q2, q3⟩ := cells4 HQ8.out
        obtain ⟨s0, s1, s2, s3⟩ := cells4 HQ9.out
        have HM8 := Aside0.mk (k29_mkM w8 w5.heap.size (fun j => wr.heap.size ≤ j) P (Kd.R_lower (Kd.R_mono (Kd.R_bound HR8.out) (fun j hj => Nat.le_trans HB6.out.size hj.2.1)) (Nat.le_trans HB.out.size HB6.out.size)))
        have HRw := Aside0.mk (Kd.R_below HR.out HB8.out)
        have HBw := Aside0.mk (below_step HB.out HB8.out)
        have hll : ((pcs bg (numbers short) m N xs).take k).length = k := by rw [List.length_take, pcs_len]; omega
        have HLL := Aside0.mk hll
        have hle := HPF.out.2.2.2.1
        clear hll
        have t6 : (m < P.f3.length) = False := eq_false (by omega)
        have hcase : (((P.f3.length : Int) = 0) = True ∧ ((P.f3.length : Int) == 0) = true ∧ (0 < (n : Int)) = False ∧ (0 < n) = False ∧ (P.f3.length = 0) = True) ∨ (((P.f3.length : Int) = 0) = False ∧ ((P.f3.length : Int) == 0) = false ∧ (0 < (n : Int)) = True ∧ (0 < n) = True ∧ (P.f3.length = 0) = False) := by
          have h3 := HPF.out.2.2.2.2.1
          rcases HPF.out.2.2.2.2.2 with ⟨h1, h2⟩ | h1
          · exact .inl ⟨eq_true (by omega), by rw [h1]; rfl, eq_false (by omega), eq_false (by omega), eq_true h1⟩
          · exact .inr ⟨eq_false (by omega), by simp; intro h; rw [h] at h1; exact absurd h1 (by decide), eq_true (by omega), eq_true (by omega), eq_false (by omega)⟩
        rcases hcase with ⟨t1, t2, t3, t4, t5⟩ | ⟨t1, t2, t3, t4, t5⟩
        all_goals
          go_wp2_with (at_builtin; (refine Kd.R_append k29 (w0 := w5) w5.heap.size rfl (.tmp 116) (.tmp 118) 41 29 (.agg #[.bool false, .bool false, .int .i64 0, .slice none 0 0]) 40 rfl Tryd.underlying41 info29 rfl (by decide) (by decide) u14 ((pcs bg (numbers short) m N xs).take k) P [.bool P.f0, .bool P.f1, .int .i64 P.f2, .slice A7 P.f3.length c7] (fun _ => True) (fun j => wr.heap.size ≤ j) rfl ?aX ?aP ?aK (fun _ _ => trivial) ?aO ?aB ?aS ?aL ?_); (case aX => simp [Act.eval]); (case aP => exact HM8.out); (case aK => exact fun j hj => ⟨trivial, fun e => absurd (Kd.R_lt HR.out j e.symm) (by omega)⟩); (case aO => exact HRw.out); (case aB => exact HBw.out); (case aS => exact HBw.out.size); (case aL => rw [HLL.out]; omega); intro v1 w9 ho hb hg hat; have HR2 := Aside0.mk ho; have HB2 := Aside0.mk hb; clear ho hb hg hat)
          go_roundw
          case measure => simp [intOf]; omega
          case rel => exact ⟨k + 1, by omega, by go_num, ⟨by rw [HTK.out]; exact HR2.out⟩, HB2⟩
      · have hk2 : k = N := by omega
        subst hk2
        have hR := HR.out
        rw [List.take_of_length_le (by rw [pcs_len]; exact Nat.le_refl _)] at hR
        obtain ⟨A', c', hv, hl', hC'⟩ := Kd.R_reads hR
        have hgl : glueP short (pcs bg (numbers short) m k xs) = (xs, 0) := by
          have h1 := glue_pcs short bg m xs HMM.out.1
          rw [HX.out.1, HNP.out] at h1
          exact h1
        have hfl : ((pcs bg (numbers short) m k xs).flatMap (·.f3)).length ≤ 100000 := by
          have h1 := flat_pcs bg (numbers short) m xs HMM.out.1
          rw [HX.out.1, HNP.out] at h1
          rw [h1, HX.out.1]
          have := HN.out
          omega
        have hglue := glue_any short A' _ c' _ wr (HS5.out.below HB.out) hC' hl' (by rw [pcs_len]; omega) hfl
        rw [hgl] at hglue
        have HGL := Aside0.mk hglue
        have HV := Aside0.mk hv
        subst hv
        clear hR hl' hC' hgl hfl hglue HR HV
        go_wp2_with (fail)
        refine HGL.out.mono ?_
        rintro ex9 w9 ⟨A9, c9, rfl, hcc9, hC9, hb9⟩
        have HB9 := Aside0.mk (below_step (below_step X.out HB.out) hb9)
        have HCC9 := Aside0.mk hcc9
        have HC9 := Aside0.mk hC9
        clear hcc9 hC9 hb9 HGL
        go_wp2_with (fail)
        have hmy : xs.length = n := HX.out.1
        have h17 := marlineref01_Equal.calls (xs.length + 1) A9 c9 xs A c xs true w9 HC9.out HCC9.out (by rw [hmy]; exact Kd.C_below HX.out HB9.out) (by rw [hmy]; exact HC.out) (equal_self xs (by have := HN.out; omega))
        simp only [hmy] at h17 ⊢
        refine h17.mono ?_
        clear h17
        rintro e19 w19 ⟨rfl, hd⟩
        have X19 := Aside0.mk (below_step HB9.out hd.below)
        clear hd
        go_wp2
        go_ret
        exact ⟨rfl, X19.out⟩
  · have hlt : wrap64 (((n : Int) + m - 1) / m) ≤ 1 := by rw [hq]; omega
    have hN1 : ((N : Int) = 1) = True := eq_true (by rw [HNK.out]; omega)
    have hN1b : ((N : Int) != 1) = false := by rw [show (N : Int) = 1 by rw [HNK.out]; omega]; rfl
    clear hq
    go_wp2_with (fail)
    refine (mod_any short w4 HS4.out).mono ?_
    rintro ex5 w5 ⟨rfl, hb⟩
    replace X := Aside0.mk (below_step X.out hb)
    have HS5 := Aside0.mk (HS4.out.below hb)
    have HC5 := Aside0.mk (Kd.C_below HC4.out hb)
    clear hb HS4 HC4
    have hu41 := Tryd.underlying41
    go_wp2
    clear a1 a2 a3 a4 a6 a7
    have HN5 := Aside0.mk (show N ≤ 1000 by
      have h1 := HNP.out
      have h2 := cnt_le m n HMM.out.1
      have h3 := HN.out
      unfold nP at h1
      omega)
    go_loopw [14, 76] (fun v14 v76 wr => ∃ k : Nat, k ≤ N ∧ v76 = .int .i64 k ∧ Aside0 (k29.R 29 wr w5.heap.size (fun _ => True) v14 ((pcs bg (numbers short) m N xs).take k)) ∧ Aside0 (Below w5.heap.size w5 wr)) (fun _ v76 _ => N - (intOf v76).toNat)
    case atStart => exact ⟨0, Nat.zero_le _, rfl, ⟨Kd.R_nil _ _ _ _ _⟩, ⟨Below.refl _ _⟩⟩
    case round =>
      obtain ⟨k, hk, rfl, HR, HB⟩ := hrel
      have hn5 := HN5.out
      by_cases hlt2 : k < N
      · obtain ⟨ad9, A3, c3, rfl, r0, r1, r2, r3, l3, g3⟩ := at_T29 (Kd.C_below HC5.out HB.out) (k : Int) (by omega) (by omega)
        rw [Int.toNat_natCast] at r0 r1 r2 r3
        obtain ⟨P, hP⟩ : ∃ P, rd_T29 (pcs bg (numbers short) m N xs) (k : Int) = P := ⟨_, rfl⟩
        have hpf := piece_facts bg (numbers short) m N n xs k hlt2 HNP.out HX.out.1 HMM.out.1 (by cases short <;> decide) HXX.out P hP
        have htk : (pcs bg (numbers short) m N xs).take (k + 1) = (pcs bg (numbers short) m N xs).take k ++ [P] := by
          rw [pcs_take _ _ _ _ _ _ hlt2, ← rd_pcs _ _ _ _ _ _ hlt2, hP]
        rw [hP] at r0 r1 r2 r3 l3 g3
        have HPF := Aside0.mk hpf
        have HTK := Aside0.mk htk
        have HL3 := Aside0.mk l3
        have HG3 := Aside0.mk g3
        clear hP hpf htk l3 g3
        go_wp2_with (fail)
        have HQ := Aside0.mk (new1 wr (.cells #[.bool P.f0, .bool P.f1, .int .i64 P.f2, .slice A3 P.f3.length c3] 29))
        have HBa := Aside0.mk (below_alloc (Below.refl _ wr) (.cells #[.bool P.f0, .bool P.f1, .int .i64 P.f2, .slice A3 P.f3.length c3] 29))
        generalize wr.alloc (.cells #[.bool P.f0, .bool P.f1, .int .i64 P.f2, .slice A3 P.f3.length c3] 29) = wa at HQ HBa ⊢
        obtain ⟨g16, hg16⟩ : ∃ g, wr.heap.size = g := ⟨_, rfl⟩
        rw [hg16] at HQ
        simp only [hg16]
        have HSa := Aside0.mk ((HS5.out.below HB.out).below HBa.out)
        refine (put_in short P.f0 P.f1 P.f2 A3 P.f3.length c3 P.f3 wa HSa.out (Kd.C_below HG3.out HBa.out) HL3.out (by have := HPF.out.2.2.2.2.1; have := HN.out; omega) ⟨HPF.out.2.1, HPF.out.2.2.1⟩).mono ?_
        rintro ex6 w6 ⟨A6, c6, rfl, hcc6, hC6, hb6⟩
        have HB6 := Aside0.mk (below_step HBa.out hb6)
        have HQ6 := Aside0.mk (blk_keep HQ.out hb6)
        have HS6 := Aside0.mk (HSa.out.below hb6)
        have HC6 := Aside0.mk hC6
        have HCC6 := Aside0.mk hcc6
        clear hcc6 hC6 hb6 r0 r1 r2 r3
        obtain ⟨q0, q1, q2, q3⟩ := cells4 HQ6.out
        have HZL := Aside0.mk (show (putB short P.f0 P.f1 P.f2 P.f3).length ≤ 100000 by
          rw [put_len]
          have h1 := HPF.out.2.2.2.2.1
          have h2 := HN.out
          cases short <;> simp [wide] <;> omega)
        obtain ⟨nz, hnz⟩ : ∃ nz, (putB short P.f0 P.f1 P.f2 P.f3).length = nz := ⟨_, rfl⟩
        rw [hnz] at HC6 HCC6 HZL
        simp only [hnz]
        clear hnz
        go_wp2_with (fail)
        refine (get_own short P.f0 P.f1 P.f2 P.f3 HPF.out.2.1 HPF.out.2.2.1 HPF.out.1 A6 nz c6 w6 HS6.out HC6.out HCC6.out HZL.out).mono ?_
        rintro ex7 w7 ⟨A7, c7, rfl, hR7, hb7⟩
        have HB7 := Aside0.mk (below_step HB6.out hb7)
        have HQ7 := Aside0.mk (blk_keep HQ6.out hb7)
        have HR7 := Aside0.mk hR7
        have HS76 := Aside0.mk (Nat.le_trans HB6.out.size (Nat.le_refl _))
        clear hR7 hb7 q0 q1 q2 q3
        go_upto_region 13 with (fail)
        have HQ9 := Aside0.mk (new1 w7 (.cells #[.bool P.f0, .bool P.f1, .int .i64 P.f2, .slice A7 P.f3.length c7] 29))
        have hba := below_alloc (Below.refl _ w7) (.cells #[.bool P.f0, .bool P.f1, .int .i64 P.f2, .slice A7 P.f3.length c7] 29)
        have HB8 := Aside0.mk (below_step HB7.out hba)
        have HQ8 := Aside0.mk (blk_keep HQ7.out hba)
        have HR8 := Aside0.mk (Kd.R_below HR7.out hba)
        clear hba
        generalize w7.alloc (.cells #[.bool P.f0, .bool P.f1, .int .i64 P.f2, .slice A7 P.f3.length c7] 29) = w8 at HQ9 HB8 HQ8 HR8 ⊢
        generalize w7.heap.size = g19 at HQ9 ⊢
        obtain ⟨q0, q1, q2, q3⟩ := cells4 HQ8.out
        obtain ⟨s0, s1, s2, s3⟩ := cells4 HQ9.out
        have HM8 := Aside0.mk (k29_mkM w8 w5.heap.size (fun j => wr.heap.size ≤ j) P (Kd.R_lower (Kd.R_mono (Kd.R_bound HR8.out) (fun j hj => Nat.le_trans HB6.out.size hj.2.1)) (Nat.le_trans HB.out.size HB6.out.size)))
        have HRw := Aside0.mk (Kd.R_below HR.out HB8.out)
        have HBw := Aside0.mk (below_step HB.out HB8.out)
        have hll : ((pcs bg (numbers short) m N xs).take k).length = k := by rw [List.length_take, pcs_len]; omega
        have HLL := Aside0.mk hll
        have hle := HPF.out.2.2.2.1
        clear hll
        have t6 : (m < P.f3.length) = False := eq_false (by omega)
        have hcase : (((P.f3.length : Int) = 0) = True ∧ ((P.f3.length : Int) == 0) = true ∧ (0 < (n : Int)) = False ∧ (0 < n) = False ∧ (P.f3.length = 0) = True) ∨ (((P.f3.length : Int) = 0) = False ∧ ((P.f3.length : Int) == 0) = false ∧ (0 < (n : Int)) = True ∧ (0 < n) = True ∧ (P.f3.length = 0) = False) := by
          have h3 := HPF.out.2.2.2.2.1
          rcases HPF.out.2.2.2.2.2 with ⟨h1, h2⟩ | h1
          · exact .inl ⟨eq_true (by omega), by rw [h1]; rfl, eq_false (by omega), eq_false (by omega), eq_true h1⟩
          · exact .inr ⟨eq_false (by omega), by simp; intro h; rw [h] at h1; exact absurd h1 (by decide), eq_true (by omega), eq_true (by omega), eq_false (by omega)⟩
        rcases hcase with ⟨t1, t2, t3, t4, t5⟩ | ⟨t1, t2, t3, t4, t5⟩
        all_goals
          go_wp2_with (at_builtin; (refine Kd.R_append k29 (w0 := w5) w5.heap.size rfl (.tmp 116) (.tmp 118) 41 29 (.agg #[.bool false, .bool false, .int .i64 0, .slice none 0 0]) 40 rfl Tryd.underlying41 info29 rfl (by decide) (by decide) u14 ((pcs bg (numbers short) m N xs).take k) P [.bool P.f0, .bool P.f1, .int .i64 P.f2, .slice A7 P.f3.length c7] (fun _ => True) (fun j => wr.heap.size ≤ j) rfl ?aX ?aP ?aK (fun _ _ => trivial) ?aO ?aB ?aS ?aL ?_); (case aX => simp [Act.eval]); (case aP => exact HM8.out); (case aK => exact fun j hj => ⟨trivial, fun e => absurd (Kd.R_lt HR.out j e.symm) (by omega)⟩); (case aO => exact HRw.out); (case aB => exact HBw.out); (case aS => exact HBw.out.size); (case aL => rw [HLL.out]; omega); intro v1 w9 ho hb hg hat; have HR2 := Aside0.mk ho; have HB2 := Aside0.mk hb; clear ho hb hg hat)
          go_roundw
          case measure => simp [intOf]; omega
          case rel => exact ⟨k + 1, by omega, by go_num, ⟨by rw [HTK.out]; exact HR2.out⟩, HB2⟩
      · have hk2 : k = N := by omega
        subst hk2
        have hR := HR.out
        rw [List.take_of_length_le (by rw [pcs_len]; exact Nat.le_refl _)] at hR
        obtain ⟨A', c', hv, hl', hC'⟩ := Kd.R_reads hR
        have hgl : glueP short (pcs bg (numbers short) m k xs) = (xs, 0) := by
          have h1 := glue_pcs short bg m xs HMM.out.1
          rw [HX.out.1, HNP.out] at h1
          exact h1
        have hfl : ((pcs bg (numbers short) m k xs).flatMap (·.f3)).length ≤ 100000 := by
          have h1 := flat_pcs bg (numbers short) m xs HMM.out.1
          rw [HX.out.1, HNP.out] at h1
          rw [h1, HX.out.1]
          have := HN.out
          omega
        have hglue := glue_any short A' _ c' _ wr (HS5.out.below HB.out) hC' hl' (by rw [pcs_len]; omega) hfl
        rw [hgl] at hglue
        have HGL := Aside0.mk hglue
        have HV := Aside0.mk hv
        subst hv
        clear hR hl' hC' hgl hfl hglue HR HV
        go_wp2_with (fail)
        refine HGL.out.mono ?_
        rintro ex9 w9 ⟨A9, c9, rfl, hcc9, hC9, hb9⟩
        have HB9 := Aside0.mk (below_step (below_step X.out HB.out) hb9)
        have HCC9 := Aside0.mk hcc9
        have HC9 := Aside0.mk hC9
        clear hcc9 hC9 hb9 HGL
        go_wp2_with (fail)
        have hmy : xs.length = n := HX.out.1
        have h17 := marlineref01_Equal.calls (xs.length + 1) A9 c9 xs A c xs true w9 HC9.out HCC9.out (by rw [hmy]; exact Kd.C_below HX.out HB9.out) (by rw [hmy]; exact HC.out) (equal_self xs (by have := HN.out; omega))
        simp only [hmy] at h17 ⊢
        refine h17.mono ?_
        clear h17
        rintro e19 w19 ⟨rfl, hd⟩
        have X19 := Aside0.mk (below_step HB9.out hd.below)
        clear hd
        go_wp2
        go_ret
        exact ⟨rfl, X19.out⟩

end Go.Proofs.YtgopklnfdlnojaaDoor.Sf
