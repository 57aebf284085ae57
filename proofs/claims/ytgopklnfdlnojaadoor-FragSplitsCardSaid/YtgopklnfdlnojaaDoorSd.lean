/- Pieces, joined: frag.Glue. Conditions: the pieces and their octets are few. -/
import Derived.Test.YtgopklnfdlnojaaDoorSc
namespace Go.Proofs.YtgopklnfdlnojaaDoor.Sd
open Go.RowKit Go.Proofs.YtgopklnfdlnojaaDoor.Ga Go.Proofs.YtgopklnfdlnojaaDoor.My Go.Proofs.YtgopklnfdlnojaaDoor.Gb Go.Proofs.YtgopklnfdlnojaaDoor.Gp Go.Proofs.YtgopklnfdlnojaaDoorW.PrintWords Go.Proofs.YtgopklnfdlnojaaDoorW.PrintLast Go.Proofs.YtgopklnfdlnojaaDoorW.PrintMore
set_option linter.unusedVariables false
set_option linter.unusedSimpArgs false

/-- Is item k's begin and end as it must be? -/
def formAt (l : List S29) (k : Nat) : Bool := (rd_T29 l k).f0 == ((k : Int) == 0) && (rd_T29 l k).f1 == ((k : Int) == (l.length : Int) - 1)
/-- The number that item k must have. -/
def wantAt (nm : Int) (l : List S29) : Nat → Int
  | 0 => (rd_T29 l 0).f2
  | k + 1 => (wantAt nm l k + 1) % nm
def lossAt (nm : Int) (l : List S29) (k : Nat) : Bool := decide (0 ≤ (rd_T29 l k).f2 ∧ (rd_T29 l k).f2 < nm) && (rd_T29 l k).f2 == wantAt nm l k
/-- What pieces are joined to, and the error. -/
def glueP (short : Bool) (l : List S29) : List Int × Int :=
  if l.length = 0 then ([], 13) else if (List.range l.length).all (formAt l) = false then ([], 4)
  else if (List.range l.length).all (lossAt (numbers short) l) = false then ([], 14) else (l.flatMap (·.f3), 0)

theorem glue_form {short : Bool} {l : List S29} {k : Nat} (hk : k < l.length) (h : formAt l k = false) : glueP short l = ([], 4) := by
  have h2 : (List.range l.length).all (formAt l) = false := by
    rw [List.all_eq_false]
    exact ⟨k, List.mem_range.2 hk, by rw [h]; decide⟩
  rw [glueP, if_neg (by omega), if_pos h2]
theorem glue_loss {short : Bool} {l : List S29} {k : Nat} (hk : k < l.length) (hf : ∀ i < l.length, formAt l i = true) (h : lossAt (numbers short) l k = false) : glueP short l = ([], 14) := by
  have h1 : (List.range l.length).all (formAt l) = true := List.all_eq_true.2 fun i hi => hf i (List.mem_range.1 hi)
  have h2 : (List.range l.length).all (lossAt (numbers short) l) = false := by
    rw [List.all_eq_false]
    exact ⟨k, List.mem_range.2 hk, by rw [h]; decide⟩
  rw [glueP, if_neg (by omega), if_neg (by rw [h1]; decide), if_pos h2]
theorem glue_ok {short : Bool} {l : List S29} (h0 : 0 < l.length) (hf : ∀ i < l.length, formAt l i = true) (h : ∀ i < l.length, lossAt (numbers short) l i = true) : glueP short l = (l.flatMap (·.f3), 0) := by
  have h1 : (List.range l.length).all (formAt l) = true := List.all_eq_true.2 fun i hi => hf i (List.mem_range.1 hi)
  have h2 : (List.range l.length).all (lossAt (numbers short) l) = true := List.all_eq_true.2 fun i hi => h i (List.mem_range.1 hi)
  rw [glueP, if_neg (by omega), if_neg (by rw [h1]; decide), if_neg (by rw [h2]; decide)]

theorem take_flat (l : List S29) (j : Nat) (h : j < l.length) : (l.take (j + 1)).flatMap (·.f3) = (l.take j).flatMap (·.f3) ++ (rd_T29 l j).f3 := by
  rw [List.take_add_one, List.flatMap_append, List.getElem?_eq_getElem h]
  simp [rd_T29, List.getD, h]
theorem rnd3 (x nm : Int) (h0 : 0 ≤ x) (h1 : x < nm) (hn : nm = 4096 ∨ nm = 16777216) :
    IntKind.i64.wrap (x + 1) = x + 1 ∧ Int.tmod (x + 1) nm = (x + 1) % nm ∧ nm ≠ 0 :=
  ⟨by rw [IntKind.wrap_i64]; omega, Int.tmod_eq_emod_of_nonneg (by omega), by omega⟩
theorem flat_le (l : List S29) (j : Nat) : ((l.take j).flatMap (·.f3)).length ≤ (l.flatMap (·.f3)).length := by
  have : l.flatMap (·.f3) = (l.take j).flatMap (·.f3) ++ (l.drop j).flatMap (·.f3) := by rw [← List.flatMap_append, List.take_append_drop]
  rw [this, List.length_append]
  omega
theorem wn1 (n : Nat) (hn : n ≤ 100000) : IntKind.i64.wrap ((n : Int) - 1) = (n : Int) - 1 := by rw [IntKind.wrap_i64]; omega
set_option maxHeartbeats 4000000 in
set_option maxRecDepth 100000 in
theorem glue_raw (short : Bool) (A : Option Addr) (n c : Nat) (l : List S29) (w : World) (hS : Shapes w) (hC : k29.C w A n l) (hc : n ≤ c) (hn : n ≤ 100000) (hl : (l.flatMap (·.f3)).length ≤ 100000) :
    Calls Tryd.prog 22 #[.bool short, .slice A n c] w fun e w' => ∃ v, e = .returned (.tuple #[v, .int .i64 (glueP short l).2]) ∧ (Kd.int .u8).R 5 w' w.heap.size (fun _ => True) v (glueP short l).1 ∧ Below w.heap.size w w' := by
  have hu41 := Tryd.underlying41
  have hu22 := Tryd.underlying22
  have HC := Aside0.mk hC
  have HL := Aside0.mk hl
  clear hC hl
  by_cases hz : n = 0
  · have hz2 : decide ((n : Int) = 0) = true := decide_eq_true (by omega)
    have hg : glueP short l = ([], 13) := by
      rw [glueP, if_pos (HC.out.1.trans hz)]
    rw [hg]
    subst hz
    go_enter Tryd.func22, Tryd.ntmps22
    go_wp2_with (go_at_call 38; refine (of_any short _ hS).mono ?_; rintro e1 w1 ⟨rfl, hb⟩)
    have X := Aside0.mk (below_alloc hb (.cells #[.int .i64 (octets short), .int .i64 (numbers short), .int .u8 (mask short)] 91))
    go_wp2
    go_ret2
    exact ⟨_, rfl, Kd.R_nil _ _ _ _ _, X.out⟩
  have hz2 : decide ((n : Int) = 0) = false := decide_eq_false (by omega)
  have hz3 : ((n : Int) == 0) = false := by simp; omega
  go_enter Tryd.func22, Tryd.ntmps22
  go_wp2_with (go_at_call 38; refine (of_any short _ hS).mono ?_; rintro e1 w1 ⟨rfl, hb⟩)
  have X := Aside0.mk (below_alloc hb (.cells #[.int .i64 (octets short), .int .i64 (numbers short), .int .u8 (mask short)] 91))
  have hB6 := new1 w1 (.cells #[.int .i64 (octets short), .int .i64 (numbers short), .int .u8 (mask short)] 91)
  have hS1 := Aside0.mk (hS.below X.out)
  clear hb hS
  generalize w1.alloc (.cells #[.int .i64 (octets short), .int .i64 (numbers short), .int .u8 (mask short)] 91) = W1 at X hB6 hS1 ⊢
  generalize w1.heap.size = g6 at hB6 ⊢
  have HB6 := Aside0.mk hB6
  clear hB6
  have hHC := Aside0.mk hc
  have HN := Aside0.mk hn
  clear hc hn
  go_loopw [20] (fun v20 wr => ∃ k : Nat, k ≤ n ∧ v20 = .int .i64 k ∧ (∀ i < k, formAt l i = true) ∧ Aside0 (Below W1.heap.size W1 wr)) (fun v20 _ => n - (intOf v20).toNat)
  case atStart => exact ⟨0, Nat.zero_le _, rfl, fun i h => absurd h (Nat.not_lt_zero i), ⟨Below.refl _ _⟩⟩
  case round =>
    obtain ⟨k, hk, rfl, hF, HB⟩ := hrel
    have hn5 := HN.out
    have HF := Aside0.mk hF
    clear hF
    by_cases hlt : k < n
    · obtain ⟨ad, A3, c3, rfl, r0, r1, r2, r3, l3, g3⟩ := at_T29 (Kd.C_below (Kd.C_below HC.out X.out) HB.out) (k : Int) (by omega) (by omega)
      rw [Int.toNat_natCast] at r0 r1 r2 r3
      have hfa : formAt l k = ((rd_T29 l k).f0 == ((k : Int) == 0) && (rd_T29 l k).f1 == ((k : Int) == (n : Int) - 1)) := by rw [formAt, HC.out.1]
      have HFA := Aside0.mk hfa
      clear hfa l3 g3
      have hw := wn1 n HN.out
      generalize rd_T29 l (k : Int) = P at r0 r1 r2 r3 HFA
      cases ht1 : (P.f0 == ((k : Int) == 0)) with
      | false =>
        have ht1b : (P.f0 != ((k : Int) == 0)) = true := by rw [bne, ht1]; rfl
        go_wp2
        go_ret2
        have hg : glueP short l = ([], 4) := glue_form (k := k) (by rw [HC.out.1]; exact hlt) (by rw [HFA.out, ht1]; rfl)
        rw [hg]
        exact ⟨_, rfl, Kd.R_nil _ _ _ _ _, below_alloc (below_step X.out HB.out) _⟩
      | true =>
        have ht1b : (P.f0 != ((k : Int) == 0)) = false := by rw [bne, ht1]; rfl
        cases ht2 : (P.f1 == ((k : Int) == (n : Int) - 1)) with
        | false =>
          have ht2b : (P.f1 != ((k : Int) == (n : Int) - 1)) = true := by rw [bne, ht2]; rfl
          go_wp2
          go_ret2
          have hg : glueP short l = ([], 4) := glue_form (k := k) (by rw [HC.out.1]; exact hlt) (by rw [HFA.out, ht1, ht2]; rfl)
          rw [hg]
          exact ⟨_, rfl, Kd.R_nil _ _ _ _ _, below_alloc (below_step X.out HB.out) _⟩
        | true =>
          have ht2b : (P.f1 != ((k : Int) == (n : Int) - 1)) = false := by rw [bne, ht2]; rfl
          go_wp2
          go_roundw
          case measure => simp [intOf]; omega
          case rel =>
            refine ⟨k + 1, by omega, by go_num, fun i hi => ?_, ⟨below_alloc HB.out _⟩⟩
            by_cases h : i < k
            · exact HF.out i h
            · obtain rfl : i = k := by omega
              rw [HFA.out, ht1, ht2]; rfl
    · have hk : k = n := by omega
      subst hk
      obtain ⟨ad, A3, c3, rfl, r0, r1, r2, r3, l3, g3⟩ := at_T29 (Kd.C_below (Kd.C_below HC.out X.out) HB.out) ((0 : Nat) : Int) (by omega) (by omega)
      rw [Int.toNat_natCast, Nat.zero_mul] at r2
      rw [show ad.add 0 = ad from by simp [Addr.add]] at r2
      clear r0 r1 r3 l3 g3
      have HC2 := Aside0.mk (Kd.C_below (Kd.C_below HC.out X.out) HB.out)
      have XV := Aside0.mk (below_step X.out HB.out)
      have HB6V := Aside0.mk (blk_keep HB6.out HB.out)
      go_wp2
      clear r2
      obtain ⟨V, hV⟩ : ∃ V, V = wr := ⟨_, rfl⟩
      subst hV
      go_loopw [9, 10, 47] (fun v9 v10 v47 w5 => ∃ j : Nat, j ≤ k ∧ v47 = .int .i64 j ∧ v10 = .int .i64 (wantAt (numbers short) l j) ∧ (∀ i < j, lossAt (numbers short) l i = true) ∧ Aside0 ((Kd.int .u8).R 5 w5 V.heap.size (fun _ => True) v9 ((l.take j).flatMap (·.f3))) ∧ Aside0 (Below V.heap.size V w5)) (fun _ _ v47 _ => k - (intOf v47).toNat)
      case atStart => exact ⟨0, Nat.zero_le _, rfl, rfl, fun i h => absurd h (Nat.not_lt_zero i), ⟨Kd.R_nil _ _ _ _ _⟩, ⟨Below.refl _ _⟩⟩
      case round =>
        obtain ⟨j, hj, rfl, rfl, hG, HR, HBB⟩ := hrel
        have HG := Aside0.mk hG
        clear hG
        by_cases hlt2 : j < k
        · obtain ⟨ad9, A3, c3, he, r0, r1, r2, r3, l3, g3⟩ := at_T29 (Kd.C_below HC2.out HBB.out) (j : Int) (by omega) (by omega)
          obtain rfl : ad = ad9 := Option.some.inj he
          clear he
          rw [Int.toNat_natCast] at r0 r1 r2 r3
          have p0 := fun o : Obj => (cells3 (blk_keep (blk_keep HB6V.out HBB.out) (below_alloc (Below.refl _ wr) o))).1
          have p1 := fun o : Obj => (cells3 (blk_keep (blk_keep HB6V.out HBB.out) (below_alloc (Below.refl _ wr) o))).2.1
          have p2 := fun o : Obj => (cells3 (blk_keep (blk_keep HB6V.out HBB.out) (below_alloc (Below.refl _ wr) o))).2.2
          have hla : lossAt (numbers short) l j = (decide (0 ≤ (rd_T29 l j).f2 ∧ (rd_T29 l j).f2 < numbers short) && (rd_T29 l j).f2 == wantAt (numbers short) l j) := rfl
          have htk : (l.take (j + 1)).flatMap (·.f3) = (l.take j).flatMap (·.f3) ++ (rd_T29 l j).f3 := take_flat l j (by rw [HC.out.1]; exact hlt2)
          have HLA := Aside0.mk hla
          have HTK := Aside0.mk htk
          have HG3 := Aside0.mk g3
          have HL3 := Aside0.mk l3
          clear hla htk g3 l3
          generalize rd_T29 l (j : Int) = P at r0 r1 r2 r3 HLA HTK HG3 HL3
          go_wp2_with (fail)
          have HQ := Aside0.mk (new1 wr (.cells #[.bool P.f0, .bool P.f1, .int .i64 P.f2, .slice A3 P.f3.length c3] 29))
          have HBa := Aside0.mk (below_alloc (Below.refl _ wr) (.cells #[.bool P.f0, .bool P.f1, .int .i64 P.f2, .slice A3 P.f3.length c3] 29))
          generalize wr.alloc (.cells #[.bool P.f0, .bool P.f1, .int .i64 P.f2, .slice A3 P.f3.length c3] 29) = wa at HQ HBa ⊢
          refine (has_any short P.f2 wa).mono ?_
          rintro e6 w6 ⟨rfl, hb6⟩
          have HB5 := Aside0.mk (below_step (below_step HBB.out HBa.out) hb6)
          have HBw := Aside0.mk (below_step HBa.out hb6)
          have HR6 := Aside0.mk (Kd.R_below (Kd.R_below HR.out HBa.out) hb6)
          have HG6 := Aside0.mk (Kd.C_below HG3.out HBw.out)
          obtain ⟨q0, q1, q2, q3⟩ := cells4 (blk_keep HQ.out hb6)
          clear p0 p1 p2 r0 r1 r2 r3
          obtain ⟨p0, p1, p2⟩ := cells3 (blk_keep HB6V.out HB5.out)
          clear hb6
          cases hd : decide (0 ≤ P.f2 ∧ P.f2 < numbers short) with
          | false =>
            go_wp2
            go_ret2
            have hg : glueP short l = ([], 14) := glue_loss (k := j) (by rw [HC.out.1]; exact hlt2) (by rw [HC.out.1]; exact HF.out) (by rw [HLA.out, hd]; rfl)
            rw [hg]
            exact ⟨_, rfl, Kd.R_nil _ _ _ _ _, XV.out.trans (HB5.out.mono XV.out.size)⟩
          | true =>
            cases he : (P.f2 == wantAt (numbers short) l j) with
            | false =>
              have heb : (P.f2 != wantAt (numbers short) l j) = true := by rw [bne, he]; rfl
              go_wp2
              go_ret2
              have hg : glueP short l = ([], 14) := glue_loss (k := j) (by rw [HC.out.1]; exact hlt2) (by rw [HC.out.1]; exact HF.out) (by rw [HLA.out, hd, he]; rfl)
              rw [hg]
              exact ⟨_, rfl, Kd.R_nil _ _ _ _ _, XV.out.trans (HB5.out.mono XV.out.size)⟩
            | true =>
              have heb : (P.f2 != wantAt (numbers short) l j) = false := by rw [bne, he]; rfl
              have hin := of_decide_eq_true hd
              have hnum : P.f2 = wantAt (numbers short) l j := by simpa using he
              obtain ⟨e1, e2, e3⟩ := rnd3 (wantAt (numbers short) l j) (numbers short) (by rw [← hnum]; exact hin.1) (by rw [← hnum]; exact hin.2) (by cases short <;> simp [numbers])
              have HNUM := Aside0.mk hnum
              have HIN := Aside0.mk hin
              have hlen : ((l.take j).flatMap (·.f3)).length + P.f3.length ≤ 100000 := by
                have h1 := congrArg List.length HTK.out
                rw [List.length_append] at h1
                have h2 := flat_le l (j + 1)
                have := HL.out
                omega
              have HLEN := Aside0.mk hlen
              clear hnum hin hlen
              go_wp2_with (at_builtin; (refine Kd.R_append_rows (Kd.int .u8) (w0 := V) V.heap.size rfl (.tmp 67) (.tmp 69) 22 5 (.int .u8 0) 1 rfl Tryd.underlying22 info5 rfl (by decide) (by omega) u9 ((l.take j).flatMap (·.f3)) P.f3 A3 P.f3.length c3 (fun _ => True) (fun _ => False) rfl rfl HR6.out HG6.out (fun _ _ h => h) (fun _ h => h.elim) (fun _ _ => trivial) HB5.out HB5.out.size (by have := HLEN.out; omega) ?_); intro v1 w9 ho hb hg hat; have HR2 := Aside0.mk ho; have HB2 := Aside0.mk hb; clear ho hb hg hat)
              go_roundw
              case measure => simp [intOf]; omega
              case rel =>
                refine ⟨j + 1, by omega, by go_num, rfl, fun i hi => ?_, ⟨by rw [HTK.out]; exact HR2.out⟩, HB2⟩
                by_cases h : i < j
                · exact HG.out i h
                · obtain rfl : i = j := by omega
                  rw [HLA.out, hd, he]; rfl
        · have hj2 : j = k := by omega
          subst hj2
          go_wp2
          go_ret2
          have hg : glueP short l = (l.flatMap (·.f3), 0) := glue_ok (by rw [HC.out.1]; omega) (by rw [HC.out.1]; exact HF.out) (by rw [HC.out.1]; exact HG.out)
          rw [hg]
          have hR := HR.out
          rw [List.take_of_length_le (by rw [HC.out.1]; omega)] at hR
          exact ⟨_, rfl, Kd.R_lower hR XV.out.size, XV.out.trans (HBB.out.mono XV.out.size)⟩

/-- frag.Glue: what the pieces are joined to, or why they can't be. -/
theorem glue_any (short : Bool) (A : Option Addr) (n c : Nat) (l : List S29) (w : World) (hS : Shapes w) (hC : k29.C w A n l) (hc : n ≤ c) (hn : n ≤ 100000) (hl : (l.flatMap (·.f3)).length ≤ 100000) :
    Calls Tryd.prog 22 #[.bool short, .slice A n c] w fun e w' => ∃ A' c', e = .returned (.tuple #[.slice A' (glueP short l).1.length c', .int .i64 (glueP short l).2]) ∧ (glueP short l).1.length ≤ c' ∧ (Kd.int .u8).C w' A' (glueP short l).1.length (glueP short l).1 ∧ Below w.heap.size w w' := by
  refine (glue_raw short A n c l w hS hC hc hn hl).mono ?_
  rintro e w' ⟨v, rfl, hR, hb⟩
  obtain ⟨A', c', rfl, hcc, hC2⟩ := Kd.R_reads hR
  exact ⟨A', c', rfl, hcc, hC2, hb⟩

end Go.Proofs.YtgopklnfdlnojaaDoor.Sd
