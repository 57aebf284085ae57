/- slices.Repeat (43) of one number; a new joiner (28). -/
import Derived.Shelf.Bits.Mul64
import Derived.Laws.CopyOwn
import Derived.Test.YtgopklnfdlnojaaDoorIx
namespace Go.Proofs
open Go.Shelf
def Tryd.jMul_ren : Go.Shelf.Ren := ⟨fun | 212 => 52 | 263 => 60 | 264 => 61 | n => n, fun | 46 => 94 | 51 => 51 | 146 => 123 | 53 => 125 | 148 => 126 | n => n, fun | n => n⟩
theorem Tryd.jMul : Go.Proofs.Lays.n212 Tryd.prog Tryd.jMul_ren := {
  mixed := by kernel_rfl
  f212 := Tryd.func52.trans (congrArg some (by kernel_rfl))
  f263 := Tryd.func60.trans (congrArg some (by kernel_rfl))
  f264 := Tryd.func61.trans (congrArg some (by kernel_rfl))
  t46 := Tryd.underlying94
  a46 := Tryd.isAgg94
  z46 := Tryd.sizeOf94
  v46 := Tryd.zeroValue94
  t51 := Tryd.underlying51
  a51 := Tryd.isAgg51
  z51 := Tryd.sizeOf51
  v51 := Tryd.zeroValue51
  t53 := Tryd.underlying125
  a53 := Tryd.isAgg125
  z53 := Tryd.sizeOf125
  v53 := Tryd.zeroValue125
  t146 := Tryd.underlying123
  a146 := Tryd.isAgg123
  z146 := Tryd.sizeOf123
  v146 := Tryd.zeroValue123
  t148 := Tryd.underlying126
  a148 := Tryd.isAgg126
  z148 := Tryd.sizeOf126
  v148 := Tryd.zeroValue126 }
end Go.Proofs
namespace Go.Proofs.YtgopklnfdlnojaaDoor.Na
open Go.RowKit Go.Proofs.YtgopklnfdlnojaaDoor.Ga Go.Proofs.YtgopklnfdlnojaaDoor.My Go.Proofs.YtgopklnfdlnojaaDoor.Gb Go.Proofs.YtgopklnfdlnojaaDoor.Gp Go.Proofs.YtgopklnfdlnojaaDoor.Ja Go.Proofs.YtgopklnfdlnojaaDoor.Jb Go.Proofs.YtgopklnfdlnojaaDoor.Jc Go.Proofs.YtgopklnfdlnojaaDoor.Jd Go.Proofs.YtgopklnfdlnojaaDoor.Je Go.Proofs.YtgopklnfdlnojaaDoor.Jf Go.Proofs.YtgopklnfdlnojaaDoor.Jg Go.Proofs.YtgopklnfdlnojaaDoor.Jh Go.Proofs.YtgopklnfdlnojaaDoor.Ji Go.Proofs.YtgopklnfdlnojaaDoorW.PrintWords Go.Proofs.YtgopklnfdlnojaaDoorW.PrintLast Go.Proofs.YtgopklnfdlnojaaDoorW.PrintMore
set_option linter.unusedVariables false
set_option linter.unusedSimpArgs false

theorem mul_any (c : Nat) (hc : c ≤ 4096) (W : World) : Calls Tryd.prog 52 #[.int .u64 1, .int .u64 (c : Int)] W fun e w' => e = .returned (.tuple #[.int .u64 0, .int .u64 (c : Int)]) ∧ w' = W := by
  have h := Any.bits_Mul Tryd.jMul 1 c (by omega) (by omega) W
  have e1 : 1 * c / 18446744073709551616 = 0 := by omega
  have e2 : 1 * c % 18446744073709551616 = c := by omega
  rw [e1, e2] at h
  exact h

theorem cells_x {w : World} {g n c m : Nat} {x : Int} {cu cs : List Value} (h : w.heap[g]? = some (.cells cu.toArray 3 (0, 0))) (h1 : cs = List.replicate (min n m) (Value.int .i64 x)) (h2 : cu = List.replicate n (Value.int .i64 x) ++ List.replicate c (Value.int .i64 0)) :
    ∀ j v, cs[j]? = some v → w.cell? ((⟨g, 0, none⟩ : Addr).add j) = some v := by
  intro j v hj
  obtain ⟨hl, e⟩ := List.getElem?_eq_some_iff.1 hj
  subst h1
  simp at hl e
  have hc := blk_cell h j
  have hjn : j < n := Nat.lt_of_lt_of_le hl (Nat.min_le_left _ _)
  have e2 : ((⟨g, 0, none⟩ : Addr).add j) = ⟨g, j, none⟩ := by
    by_cases h0 : j = 0
    · subst h0; rfl
    · simp [Addr.add]
      try omega
  rw [e2, hc, h2, List.getElem?_toArray, List.getElem?_append_left (by simpa using hjn), ← e]
  simp [hjn]
theorem splice_x {n c : Nat} {x : Int} {cu cs : List Value} (h1 : cs = List.replicate (min n (c - n)) (Value.int .i64 x)) (h2 : cu = List.replicate n (Value.int .i64 x) ++ List.replicate (c - n) (Value.int .i64 0)) (hlt : n < c) :
    splice cu n cs = List.replicate (n + min n (c - n)) (Value.int .i64 x) ++ List.replicate (c - (n + min n (c - n))) (Value.int .i64 0) := by
  subst h1; subst h2
  unfold splice
  rw [List.take_left' (by simp), List.drop_append, List.drop_of_length_le (by simp), List.nil_append, ← List.append_assoc, List.replicate_append_replicate, List.drop_replicate]
  simp
  omega

set_option maxHeartbeats 2000000 in
set_option maxRecDepth 100000 in
theorem rep_any (W : World) (q : Nat) (x : Int) (c : Nat) (h1 : 1 ≤ c) (h16 : c ≤ 4096) (hq : W.heap[q]? = some (.cells #[.int .i64 x] 3 (0, 0))) :
    Calls Tryd.prog 43 #[.slice (some ⟨q, 0, none⟩) 1 1, .int .i64 (c : Int)] W fun e w' => e = .returned (.slice (some ⟨W.heap.size, 0, none⟩) c c) ∧ w'.heap[W.heap.size]? = some (.cells (List.replicate c (Value.int .i64 x)).toArray 3 (0, 0)) ∧ Below W.heap.size W w' := by
  have hw1 : IntKind.u64.wrap (c : Int) = (c : Int) := by rw [IntKind.wrap_u64]; omega
  have hw2 : IntKind.i64.wrap (c : Int) = (c : Int) := IntWalk.i64_in _ (by omega)
  have hmk := print_make_int (P := Tryd.prog) 59 3 (.int .i64 0) 8 Tryd.underlying59 (by kernel_rfl) rfl (by decide) (c : Int) (by omega) (by simp; omega)
  simp only [Int.toNat_natCast] at hmk
  have hd0 : decide ((c : Int) < 0) = false := decide_eq_false (by omega)
  have hd1 : decide ((9223372036854775807 : Int) < (c : Int)) = false := decide_eq_false (by omega)
  have hd2 : decide (9223372036854775807 < c) = false := decide_eq_false (by omega)
  have HQ := Aside0.mk hq
  have HC := Aside0.mk (And.intro h1 h16)
  have hmul := mul_any c h16
  clear hq h1 h16
  go_enter Tryd.func43, Tryd.ntmps43
  go_upto_region 7 with (first
    | (go_at_call 52; refine (hmul _).mono ?_; rintro e w2 ⟨rfl, rfl⟩))
  have hn0 : (w2.alloc (.cells (madeCells #[.int .i64 0] c) 3)).heap[w2.heap.size]? = some (.cells (List.replicate c (Value.int .i64 0)).toArray 3 (0, 0)) := by
    have := new1 w2 (.cells (madeCells #[.int .i64 0] c) 3)
    rw [← toList_madeCells_one, Array.toArray_toList]
    exact this
  have hb0 := below_alloc (Below.refl w2.heap.size w2) (.cells (madeCells #[.int .i64 0] c) 3)
  have hq0 := blk_keep HQ.out hb0
  have HB0 := Aside0.mk hb0
  obtain ⟨g, hg⟩ : ∃ g, w2.heap.size = g := ⟨_, rfl⟩
  rw [hg] at hn0 HB0
  have HG := Aside0.mk hg
  simp only [hg]
  clear hb0 hmul hg hmk
  have hqc := blk_cell hq0 0
  simp at hqc
  clear hq0
  generalize w2.alloc (.cells (madeCells #[.int .i64 0] c) 3) = W1 at hn0 HB0 hqc ⊢
  obtain ⟨cur, hcur⟩ : ∃ cur, cur = List.replicate c (Value.int .i64 0) := ⟨_, rfl⟩
  rw [← hcur] at hn0
  have hclen : cur.length = c := by rw [hcur]; simp
  have HN0 := Aside0.mk hn0
  have HCUR := Aside0.mk (And.intro hcur hclen)
  clear hcur hclen hn0
  go_wp2_with (refine wpList_copy_splice (o := ⟨some 33, _, _, _, _, _⟩) rfl (.tmp 31) (.tmp 32) 59 59 rfl 3 Tryd.underlying59 (by kernel_rfl) _ _ _ _ _ _ rfl rfl g 0 cur 3 HN0.out [Value.int .i64 x] ?aN ?aP ?aF ?aO g w2 HB0.out (Nat.le_refl _) ?_; (case aN => have := HC.out.1; simp [Nat.min_def]; omega); (case aP => intro _; exact ⟨rfl, _, rfl, by intro j v hj; cases j <;> simp at hj; subst hj; simpa [Addr.add] using hqc⟩); (case aF => have := HCUR.out.2; have := HC.out.1; simp; omega); (case aO => intro v hv; simp at hv; subst hv; rfl); intro W3 hW3 hB3)
  have hs0 : splice cur 0 [Value.int .i64 x] = List.replicate 1 (Value.int .i64 x) ++ List.replicate (c - 1) (Value.int .i64 0) := by
    rw [HCUR.out.1]
    simp [splice]
  rw [hs0] at hW3
  have HI := Aside0.mk (And.intro hW3.out hB3)
  clear hs0 hW3 hB3 hqc
  go_loopg [8] (c - 1) (fun k v8 wr => Aside0 (∃ n : Nat, v8 = .int .i64 (n : Int) ∧ 1 ≤ n ∧ n ≤ c ∧ k = c - n ∧ wr.heap[g]? = some (.cells (List.replicate n (Value.int .i64 x) ++ List.replicate (c - n) (Value.int .i64 0)).toArray 3 (0, 0)) ∧ Below g w2 wr))
  case atStart => exact ⟨1, rfl, Nat.le_refl _, HC.out.1, rfl, HI.out.1, HI.out.2⟩
  case round =>
    obtain ⟨n, rfl, hn1, hn2, rfl, hn3, hn4⟩ := hrel.out
    clear hrel
    have HN := Aside0.mk (And.intro hn3 hn4)
    have HM := Aside0.mk (And.intro hn1 hn2)
    clear hn3 hn4
    by_cases hlt : n < c
    · have hd3 : decide ((n : Int) < (c : Int)) = true := decide_eq_true (by omega)
      have hd4 : decide (n < c) = true := decide_eq_true hlt
      have hle : (n : Int) ≤ (c : Int) := by omega
      have hn0 : (0 : Int) ≤ (n : Int) := by omega
      have hwr : IntKind.i64.wrap ((n : Int) + ((min n (c - n) : Nat) : Int)) = ((n + min n (c - n) : Nat) : Int) := by rw [IntWalk.i64_in _ (by have := HC.out; omega)]; omega
      obtain ⟨cs, hcs⟩ : ∃ cs, cs = List.replicate (min n (c - n)) (Value.int .i64 x) := ⟨_, rfl⟩
      have hcl : cs.length = min n (c - n) := by rw [hcs]; simp
      obtain ⟨cu, hcu⟩ : ∃ cu, cu = List.replicate n (Value.int .i64 x) ++ List.replicate (c - n) (Value.int .i64 0) := ⟨_, rfl⟩
      have hul : cu.length = c := by rw [hcu]; simp; omega
      have HLT := Aside0.mk hlt
      have hcn : ¬ c = n := by omega
      have hgw : wr.drew.heap[g]? = some (.cells cu.toArray 3 (0, 0)) := by rw [hcu]; exact HN.out.1
      have HGW := Aside0.mk hgw
      have HIN := Aside0.mk (show (Tryd.prog.info? 3).map (·.size) = some 1 by kernel_rfl)
      have HCS := Aside0.mk (And.intro hcs hcl)
      have HCU := Aside0.mk (And.intro hcu hul)
      clear hlt hn1 hn2 hcs hcl hcu hul hgw
      go_wp2_with (fail)
      go_region_law (refine step_copy_splice ?aW (.tmp 41) (.tmp 44) 59 59 ?aC 3 Tryd.underlying59 HIN.out (some ⟨g, n, none⟩) (some ⟨g, 0, none⟩) (c - n) (c - n) n c ?aD ?aS g n cu 3 HGW.out cs ?aN ?aP ?aF ?aO g w2 ?aB (Nat.le_refl _) ?_; (case aW => rfl); (case aC => rfl); (case aD => kernel_rfl); (case aS => kernel_rfl); (case aN => exact HCS.out.2); (case aP => exact fun _ => ⟨rfl, _, rfl, cells_x HGW.out HCS.out.1 HCU.out.1⟩); (case aF => have h1 := HCS.out.2; have h2 := HCU.out.2; have h3 := HLT.out; omega); (case aO => intro v hv; rw [HCS.out.1] at hv; rw [(List.mem_replicate.1 hv).2]; rfl); (case aB => exact below_drew HN.out.2); intro W4 hW4 hB4)
      have hs4 : splice cu n cs = List.replicate (n + min n (c - n)) (Value.int .i64 x) ++ List.replicate (c - (n + min n (c - n))) (Value.int .i64 0) := splice_x HCS.out.1 HCU.out.1 HLT.out
      have h4 := hW4.out
      rw [hs4] at h4
      have HW := Aside0.mk (And.intro h4 hB4)
      have hlen := HCS.out.2
      clear hs4 h4 hW4 hB4
      simp only [goInt, hlen]
      go_wp2
      go_roundg (c - (n + min n (c - n)))
      case measure => have h3 := HLT.out; have h5 := HM.out.1; omega
      case rel => exact ⟨n + min n (c - n), by rw [hwr], by have h5 := HM.out.1; omega, by have h3 := HLT.out; omega, rfl, HW.out.1, HW.out.2⟩
    · have hd3 : decide ((n : Int) < (c : Int)) = false := decide_eq_false (by omega)
      have hd4 : decide (n < c) = false := decide_eq_false hlt
      have hnc : n = c := by omega
      subst hnc
      go_wp2_with (fail)
      go_ret
      rw [HG.out]
      refine ⟨rfl, ?_, HN.out.2⟩
      have := HN.out.1
      simpa using this

end Go.Proofs.YtgopklnfdlnojaaDoor.Na
