/- A new joiner of the program, what it is asked to do, and rows of other types beside it. -/
import Derived.Shelf.Bits.Mul64
import Derived.Laws.CopyOwn
import Derived.Test.YtgopklnfdlnojaaDoorPj4
import Derived.Test.YtgopklnfdlnojaaDoorWWords
import Derived.ProofKit
import Derived.OpenShut
import Derived.Deep.Slices
import Derived.Test.YtgopklnfdlnojaaDoorPj1
namespace Go.Proofs
open Go.Shelf
def Tryd.jMul_ren : Go.Shelf.Ren := ⟨fun | 212 => 52 | 263 => 60 | 264 => 61 | n => n, fun | 46 => 94 | 51 => 51 | 146 => 123 | 53 => 125 | 148 => 126 | n => n, fun | n => n⟩
theorem Tryd.jMul : Go.Proofs.Lays.n212 Tryd.prog Tryd.jMul_ren := {
  mixed := by kernel_rfl
  f212 := Tryd.func52.trans (congrArg some (by kernel_rfl))
  f263 := Tryd.func60.trans (congrArg some (by kernel_rfl))
  f264 := Tryd.func61.trans (congrArg some (by kernel_rfl))
  t46 := Tryd.underlying94
  a46 := Tryd.isAgg94
  z46 := Tryd.sizeOf94
  v46 := Tryd.zeroValue94
  t51 := Tryd.underlying51
  a51 := Tryd.isAgg51
  z51 := Tryd.sizeOf51
  v51 := Tryd.zeroValue51
  t53 := Tryd.underlying125
  a53 := Tryd.isAgg125
  z53 := Tryd.sizeOf125
  v53 := Tryd.zeroValue125
  t146 := Tryd.underlying123
  a146 := Tryd.isAgg123
  z146 := Tryd.sizeOf123
  v146 := Tryd.zeroValue123
  t148 := Tryd.underlying126
  a148 := Tryd.isAgg126
  z148 := Tryd.sizeOf126
  v148 := Tryd.zeroValue126 }
end Go.Proofs
namespace Go.Proofs.YtgopklnfdlnojaaDoor.Na
open Go.RowKit Go.Proofs.YtgopklnfdlnojaaDoor.Ga Go.Proofs.YtgopklnfdlnojaaDoor.My Go.Proofs.YtgopklnfdlnojaaDoor.Gb Go.Proofs.YtgopklnfdlnojaaDoor.Gp Go.Proofs.YtgopklnfdlnojaaDoor.Ja Go.Proofs.YtgopklnfdlnojaaDoor.Jb Go.Proofs.YtgopklnfdlnojaaDoor.Jc Go.Proofs.YtgopklnfdlnojaaDoor.Jd Go.Proofs.YtgopklnfdlnojaaDoor.Je Go.Proofs.YtgopklnfdlnojaaDoor.Jf Go.Proofs.YtgopklnfdlnojaaDoor.Jg Go.Proofs.YtgopklnfdlnojaaDoor.Jh Go.Proofs.YtgopklnfdlnojaaDoor.Ji Go.Proofs.YtgopklnfdlnojaaDoorW.PrintWords Go.Proofs.YtgopklnfdlnojaaDoorW.PrintLast Go.Proofs.YtgopklnfdlnojaaDoorW.PrintMore
set_option linter.unusedVariables false
set_option linter.unusedSimpArgs false

theorem mul_any (c : Nat) (hc : c ≤ 4096) (W : World) : Calls Tryd.prog 52 #[.int .u64 1, .int .u64 (c : Int)] W fun e w' => e = .returned (.tuple #[.int .u64 0, .int .u64 (c : Int)]) ∧ w' = W := by
  have h := Any.bits_Mul Tryd.jMul 1 c (by omega) (by omega) W
  have e1 : 1 * c / 18446744073709551616 = 0 := by omega
  have e2 : 1 * c % 18446744073709551616 = c := by omega
  rw [e1, e2] at h
  exact h

theorem cells_x {w : World} {g n c m : Nat} {x : Int} {cu cs : List Value} (h : w.heap[g]? = some (.cells cu.toArray 3 (0, 0))) (h1 : cs = List.replicate (min n m) (Value.int .i64 x)) (h2 : cu = List.replicate n (Value.int .i64 x) ++ List.replicate c (Value.int .i64 0)) :
    ∀ j v, cs[j]? = some v → w.cell? ((⟨g, 0, none⟩ : Addr).add j) = some v := by
  intro j v hj
  obtain ⟨hl, e⟩ := List.getElem?_eq_some_iff.1 hj
  subst h1
  simp at hl e
  have hc := blk_cell h j
  have hjn : j < n := Nat.lt_of_lt_of_le hl (Nat.min_le_left _ _)
  have e2 : ((⟨g, 0, none⟩ : Addr).add j) = ⟨g, j, none⟩ := by
    by_cases h0 : j = 0
    · subst h0; rfl
    · simp [Addr.add]
      try omega
  rw [e2, hc, h2, List.getElem?_toArray, List.getElem?_append_left (by simpa using hjn), ← e]
  simp [hjn]
theorem splice_x {n c : Nat} {x : Int} {cu cs : List Value} (h1 : cs = List.replicate (min n (c - n)) (Value.int .i64 x)) (h2 : cu = List.replicate n (Value.int .i64 x) ++ List.replicate (c - n) (Value.int .i64 0)) (hlt : n < c) :
    splice cu n cs = List.replicate (n + min n (c - n)) (Value.int .i64 x) ++ List.replicate (c - (n + min n (c - n))) (Value.int .i64 0) := by
  subst h1; subst h2
  unfold splice
  rw [List.take_left' (by simp), List.drop_append, List.drop_of_length_le (by simp), List.nil_append, ← List.append_assoc, List.replicate_append_replicate, List.drop_replicate]
  simp
  omega

set_option maxHeartbeats 2000000 in
set_option maxRecDepth 100000 in
theorem rep_any (W : World) (q : Nat) (x : Int) (c : Nat) (h1 : 1 ≤ c) (h16 : c ≤ 4096) (hq : W.heap[q]? = some (.cells #[.int .i64 x] 3 (0, 0))) :
    Calls Tryd.prog 43 #[.slice (some ⟨q, 0, none⟩) 1 1, .int .i64 (c : Int)] W fun e w' => e = .returned (.slice (some ⟨W.heap.size, 0, none⟩) c c) ∧ w'.heap[W.heap.size]? = some (.cells (List.replicate c (Value.int .i64 x)).toArray 3 (0, 0)) ∧ Below W.heap.size W w' := by
  have hw1 : IntKind.u64.wrap (c : Int) = (c : Int) := by rw [IntKind.wrap_u64]; omega
  have hw2 : IntKind.i64.wrap (c : Int) = (c : Int) := IntWalk.i64_in _ (by omega)
  have hmk := print_make_int (P := Tryd.prog) 59 3 (.int .i64 0) 8 Tryd.underlying59 (by kernel_rfl) rfl (by decide) (c : Int) (by omega) (by simp; omega)
  simp only [Int.toNat_natCast] at hmk
  have hd0 : decide ((c : Int) < 0) = false := decide_eq_false (by omega)
  have hd1 : decide ((9223372036854775807 : Int) < (c : Int)) = false := decide_eq_false (by omega)
  have hd2 : decide (9223372036854775807 < c) = false := decide_eq_false (by omega)
  have HQ := Aside0.mk hq
  have HC := Aside0.mk (And.intro h1 h16)
  have hmul := mul_any c h16
  clear hq h1 h16
  go_enter Tryd.func43, Tryd.ntmps43
  go_upto_region 7 with (first
    | (go_at_call 52; refine (hmul _).mono ?_; rintro e w2 ⟨rfl, rfl⟩))
  have hn0 : (w2.alloc (.cells (madeCells #[.int .i64 0] c) 3)).heap[w2.heap.size]? = some (.cells (List.replicate c (Value.int .i64 0)).toArray 3 (0, 0)) := by
    have := new1 w2 (.cells (madeCells #[.int .i64 0] c) 3)
    rw [← toList_madeCells_one, Array.toArray_toList]
    exact this
  have hb0 := below_alloc (Below.refl w2.heap.size w2) (.cells (madeCells #[.int .i64 0] c) 3)
  have hq0 := blk_keep HQ.out hb0
  have HB0 := Aside0.mk hb0
  obtain ⟨g, hg⟩ : ∃ g, w2.heap.size = g := ⟨_, rfl⟩
  rw [hg] at hn0 HB0
  have HG := Aside0.mk hg
  simp only [hg]
  clear hb0 hmul hg hmk
  have hqc := blk_cell hq0 0
  simp at hqc
  clear hq0
  generalize w2.alloc (.cells (madeCells #[.int .i64 0] c) 3) = W1 at hn0 HB0 hqc ⊢
  obtain ⟨cur, hcur⟩ : ∃ cur, cur = List.replicate c (Value.int .i64 0) := ⟨_, rfl⟩
  rw [← hcur] at hn0
  have hclen : cur.length = c := by rw [hcur]; simp
  have HN0 := Aside0.mk hn0
  have HCUR := Aside0.mk (And.intro hcur hclen)
  clear hcur hclen hn0
  go_wp2_with (refine wpList_copy_splice (o := ⟨some 33, _, _, _, _, _⟩) rfl (.tmp 31) (.tmp 32) 59 59 rfl 3 Tryd.underlying59 (by kernel_rfl) _ _ _ _ _ _ rfl rfl g 0 cur 3 HN0.out [Value.int .i64 x] ?aN ?aP ?aF ?aO g w2 HB0.out (Nat.le_refl _) ?_; (case aN => have := HC.out.1; simp [Nat.min_def]; omega); (case aP => intro _; exact ⟨rfl, _, rfl, by intro j v hj; cases j <;> simp at hj; subst hj; simpa [Addr.add] using hqc⟩); (case aF => have := HCUR.out.2; have := HC.out.1; simp; omega); (case aO => intro v hv; simp at hv; subst hv; rfl); intro W3 hW3 hB3)
  have hs0 : splice cur 0 [Value.int .i64 x] = List.replicate 1 (Value.int .i64 x) ++ List.replicate (c - 1) (Value.int .i64 0) := by
    rw [HCUR.out.1]
    simp [splice]
  rw [hs0] at hW3
  have HI := Aside0.mk (And.intro hW3.out hB3)
  clear hs0 hW3 hB3 hqc
  go_loopg [8] (c - 1) (fun k v8 wr => Aside0 (∃ n : Nat, v8 = .int .i64 (n : Int) ∧ 1 ≤ n ∧ n ≤ c ∧ k = c - n ∧ wr.heap[g]? = some (.cells (List.replicate n (Value.int .i64 x) ++ List.replicate (c - n) (Value.int .i64 0)).toArray 3 (0, 0)) ∧ Below g w2 wr))
  case atStart => exact ⟨1, rfl, Nat.le_refl _, HC.out.1, rfl, HI.out.1, HI.out.2⟩
  case round =>
    obtain ⟨n, rfl, hn1, hn2, rfl, hn3, hn4⟩ := hrel.out
    clear hrel
    have HN := Aside0.mk (And.intro hn3 hn4)
    have HM := Aside0.mk (And.intro hn1 hn2)
    clear hn3 hn4
    by_cases hlt : n < c
    · have hd3 : decide ((n : Int) < (c : Int)) = true := decide_eq_true (by omega)
      have hd4 : decide (n < c) = true := decide_eq_true hlt
      have hle : (n : Int) ≤ (c : Int) := by omega
      have hn0 : (0 : Int) ≤ (n : Int) := by omega
      have hwr : IntKind.i64.wrap ((n : Int) + ((min n (c - n) : Nat) : Int)) = ((n + min n (c - n) : Nat) : Int) := by rw [IntWalk.i64_in _ (by have := HC.out; omega)]; omega
      obtain ⟨cs, hcs⟩ : ∃ cs, cs = List.replicate (min n (c - n)) (Value.int .i64 x) := ⟨_, rfl⟩
      have hcl : cs.length = min n (c - n) := by rw [hcs]; simp
      obtain ⟨cu, hcu⟩ : ∃ cu, cu = List.replicate n (Value.int .i64 x) ++ List.replicate (c - n) (Value.int .i64 0) := ⟨_, rfl⟩
      have hul : cu.length = c := by rw [hcu]; simp; omega
      have HLT := Aside0.mk hlt
      have hcn : ¬ c = n := by omega
      have hgw : wr.drew.heap[g]? = some (.cells cu.toArray 3 (0, 0)) := by rw [hcu]; exact HN.out.1
      have HGW := Aside0.mk hgw
      have HIN := Aside0.mk (show (Tryd.prog.info? 3).map (·.size) = some 1 by kernel_rfl)
      have HCS := Aside0.mk (And.intro hcs hcl)
      have HCU := Aside0.mk (And.intro hcu hul)
      clear hlt hn1 hn2 hcs hcl hcu hul hgw
      go_wp2_with (fail)
      go_region_law (refine step_copy_splice ?aW (.tmp 41) (.tmp 44) 59 59 ?aC 3 Tryd.underlying59 HIN.out (some ⟨g, n, none⟩) (some ⟨g, 0, none⟩) (c - n) (c - n) n c ?aD ?aS g n cu 3 HGW.out cs ?aN ?aP ?aF ?aO g w2 ?aB (Nat.le_refl _) ?_; (case aW => rfl); (case aC => rfl); (case aD => kernel_rfl); (case aS => kernel_rfl); (case aN => exact HCS.out.2); (case aP => exact fun _ => ⟨rfl, _, rfl, cells_x HGW.out HCS.out.1 HCU.out.1⟩); (case aF => have h1 := HCS.out.2; have h2 := HCU.out.2; have h3 := HLT.out; omega); (case aO => intro v hv; rw [HCS.out.1] at hv; rw [(List.mem_replicate.1 hv).2]; rfl); (case aB => exact below_drew HN.out.2); intro W4 hW4 hB4)
      have hs4 : splice cu n cs = List.replicate (n + min n (c - n)) (Value.int .i64 x) ++ List.replicate (c - (n + min n (c - n))) (Value.int .i64 0) := splice_x HCS.out.1 HCU.out.1 HLT.out
      have h4 := hW4.out
      rw [hs4] at h4
      have HW := Aside0.mk (And.intro h4 hB4)
      have hlen := HCS.out.2
      clear hs4 h4 hW4 hB4
      simp only [goInt, hlen]
      go_wp2
      go_roundg (c - (n + min n (c - n)))
      case measure => have h3 := HLT.out; have h5 := HM.out.1; omega
      case rel => exact ⟨n + min n (c - n), by rw [hwr], by have h5 := HM.out.1; omega, by have h3 := HLT.out; omega, rfl, HW.out.1, HW.out.2⟩
    · have hd3 : decide ((n : Int) < (c : Int)) = false := decide_eq_false (by omega)
      have hd4 : decide (n < c) = false := decide_eq_false hlt
      have hnc : n = c := by omega
      subst hnc
      go_wp2_with (fail)
      go_ret
      rw [HG.out]
      refine ⟨rfl, ?_, HN.out.2⟩
      have := HN.out.1
      simpa using this

end Go.Proofs.YtgopklnfdlnojaaDoor.Na
namespace Go.Proofs.YtgopklnfdlnojaaDoor.Nb
open Go.RowKit Go.Proofs.YtgopklnfdlnojaaDoor.Ga Go.Proofs.YtgopklnfdlnojaaDoor.My Go.Proofs.YtgopklnfdlnojaaDoor.Gb Go.Proofs.YtgopklnfdlnojaaDoor.Gp Go.Proofs.YtgopklnfdlnojaaDoor.Ja Go.Proofs.YtgopklnfdlnojaaDoor.Jb Go.Proofs.YtgopklnfdlnojaaDoor.Jc Go.Proofs.YtgopklnfdlnojaaDoor.Jd Go.Proofs.YtgopklnfdlnojaaDoor.Je Go.Proofs.YtgopklnfdlnojaaDoor.Jf Go.Proofs.YtgopklnfdlnojaaDoor.Jg Go.Proofs.YtgopklnfdlnojaaDoor.Jh Go.Proofs.YtgopklnfdlnojaaDoor.Ji Go.Proofs.YtgopklnfdlnojaaDoor.Na Go.Proofs.YtgopklnfdlnojaaDoorW.PrintWords Go.Proofs.YtgopklnfdlnojaaDoorW.PrintLast Go.Proofs.YtgopklnfdlnojaaDoorW.PrintMore
set_option linter.unusedVariables false
set_option linter.unusedSimpArgs false

/-- A new joiner. -/
def newJ (short : Bool) (links room most : Int) : Jn := { nm := numbers short, room := room, most := most, last := List.replicate links.toNat (-1), wait := [], next := 0, mode := 0, data := [], evs := [] }
/-- What may be asked. -/
def mayJ (links room most : Int) : Prop := 1 ≤ links ∧ links ≤ 16 ∧ 1 ≤ room ∧ room ≤ 4096 ∧ 1 ≤ most ∧ most ≤ 1048576
theorem numbers_pos (short : Bool) : 0 < numbers short ∧ numbers short ≤ 16777216 := by cases short <;> simp [numbers]
theorem newJ_ok {short : Bool} {links room most : Int} (h : mayJ links room most) : OkJ (newJ short links room most) 0 ∧ stepJ (newJ short links room most) = none := by
  obtain ⟨h1, h2, h3, h4, h5, h6⟩ := h
  have hl : low (newJ short links room most) = -1 := by
    have := low_mem (J := newJ short links room most) (fun e => by have := congrArg List.length e; simp [newJ] at this; omega)
    simpa using (List.mem_replicate.1 this).2
  refine ⟨⟨(numbers_pos short).1, fun e => by have := congrArg List.length e; simp [newJ] at this; omega, fun x hx => by rw [(List.mem_replicate.1 hx).2]; omega, Int.le_refl _, by simp [newJ], fun p hp => by simp [newJ] at hp, by simp [newJ], by simp [newJ]; omega, by simp [newJ]; omega⟩, ?_⟩
  have e : (newJ short links room most).wait = [] := rfl
  have e2 : (newJ short links room most).next = 0 := rfl
  unfold stepJ
  rw [e, hl, e2]
  simp
theorem row_block {W : World} {g c base : Nat} {x : Int} (h : W.heap[g]? = some (.cells (List.replicate c (Value.int .i64 x)).toArray 3 (0, 0))) (hb : base ≤ g) (hc : c ≤ 4096) : (Kd.int .i64).R 3 W base (fun _ => True) (.slice (some ⟨g, 0, none⟩) c c) (List.replicate c x) :=
  Kd.R_of_own (enc := Value.int .i64) (h1 := fun _ => rfl) ⟨by simp [encs], .inr ⟨g, c, _, by simp, hb, h, by simp, by unfold maxLen; omega, by simp, by simp [encs]⟩⟩ (fun _ _ => trivial)

set_option maxHeartbeats 1000000 in
set_option maxRecDepth 100000 in
theorem new_ok (short : Bool) (links room most : Int) (W : World) (hS : Shapes W) (h : mayJ links room most) :
    Calls Tryd.prog 28 #[.bool short, .int .i64 links, .int .i64 room, .int .i64 most] W fun e w' => ∃ g bm vl, e = .returned (.tuple #[.pointer (some ⟨g, 0, none⟩), .int .i64 0]) ∧
      JM w' W.heap.size g bm vl (.slice none 0 0) (.slice none 0 0) [] [] (newJ short links room most) ∧ Below W.heap.size W w' := by
  obtain ⟨h1, h2, h3, h4, h5, h6⟩ := h
  obtain ⟨c, rfl⟩ := Int.eq_ofNat_of_zero_le (show 0 ≤ links by omega)
  have d1 : decide ((c : Int) < 1) = false := decide_eq_false (by omega)
  have d1' : decide (c < 1) = false := decide_eq_false (by omega)
  have d2 : decide ((16 : Int) < (c : Int)) = false := decide_eq_false (by omega)
  have d2' : decide (16 < c) = false := decide_eq_false (by omega)
  have d3 : decide (room < 1) = false := decide_eq_false (by omega)
  have d4 : decide ((4096 : Int) < room) = false := decide_eq_false (by omega)
  have d5 : decide (most < 1) = false := decide_eq_false (by omega)
  have d6 : decide ((1048576 : Int) < most) = false := decide_eq_false (by omega)
  have HC := Aside0.mk (show 1 ≤ c ∧ c ≤ 16 by omega)
  have hmm := @run_makeMap Tryd.prog
  have hmod := mod_any short W hS
  clear h1 h2 h3 h4 h5 h6 hS
  go_enter Tryd.func28, Tryd.ntmps28
  go_wp2_with (first
    | (go_at_call 26; refine hmod.mono ?_; rintro e w1 ⟨rfl, hb1⟩; have HB1 := Aside0.mk hb1; have hnew := new1 w1 (.cells #[.int .i64 (-1)] 3); clear hb1)
    | (go_at_call 43; refine (rep_any _ _ (-1) c HC.out.1 (by have := HC.out.2; omega) hnew).mono ?_; rintro e w2 ⟨rfl, hr2, hb2⟩; have HB2 := Aside0.mk hb2; have HR2 := Aside0.mk hr2; clear hb2 hr2))
  go_ret2
  have hsz1 : (w1.alloc (.cells #[.int .i64 (-1)] 3)).heap.size = w1.heap.size + 1 := World.size_alloc _ _
  have hb1 := HB1.out
  have hb2 := HB2.out
  have hr2 := HR2.out
  have hba := below_alloc (Below.refl w1.heap.size w1) (.cells #[.int .i64 (-1)] 3)
  rw [hsz1] at hb2 hr2
  have hW1 : W.heap.size ≤ w1.heap.size := hb1.size
  have hW2 : w1.heap.size + 1 ≤ w2.heap.size := by have := hb2.size; omega
  have hb3 := below_alloc (Below.refl w2.heap.size w2) (.map #[] 0)
  have hb4 := below_alloc hb3 (.cells #[.int .i64 (numbers short), .int .i64 room, .int .i64 most, .slice (some ⟨w1.heap.size + 1, 0, none⟩) c c, .map (some w2.heap.size), .int .i64 0, .int .i64 0, .slice none 0 0, .slice none 0 0] 102)
  have hr4 := blk_keep hr2 hb4
  have hg4 := new1 (w2.alloc (.map #[] 0)) (.cells #[.int .i64 (numbers short), .int .i64 room, .int .i64 most, .slice (some ⟨w1.heap.size + 1, 0, none⟩) c c, .map (some w2.heap.size), .int .i64 0, .int .i64 0, .slice none 0 0, .slice none 0 0] 102)
  rw [World.size_alloc] at hg4
  have hm4 := (World.ownsMap_made (H := Value) w2 Tryd.prog 3 elemR).alloc (.cells #[.int .i64 (numbers short), .int .i64 room, .int .i64 most, .slice (some ⟨w1.heap.size + 1, 0, none⟩) c c, .map (some w2.heap.size), .int .i64 0, .int .i64 0, .slice none 0 0, .slice none 0 0] 102)
  refine ⟨w2.heap.size + 1, w2.heap.size, .slice (some ⟨w1.heap.size + 1, 0, none⟩) c c, rfl, ⟨hg4, by omega, by omega, row_block hr4 (by omega) (by have := HC.out.2; omega), Kd.R_nil _ _ _ _ _, Kd.R_nil _ _ _ _ _, ⟨rfl, fun j x y hx => by simp [newJ] at hx⟩, hm4, ⟨rfl, fun j x y hx => by simp [newJ] at hx⟩, by simp [newJ]⟩, ?_⟩
  exact ((hb1.trans (hba.mono hW1)).trans (hb2.mono (by omega))).trans (hb4.mono (by omega))

set_option maxHeartbeats 1000000 in
set_option maxRecDepth 100000 in
theorem new_bad (short : Bool) (links room most : Int) (W : World) (h : ¬ mayJ links room most) :
    Calls Tryd.prog 28 #[.bool short, .int .i64 links, .int .i64 room, .int .i64 most] W fun e w' => e = .returned (.tuple #[.pointer none, .int .i64 1]) ∧ w' = W := by
  by_cases a1 : links < 1
  · have d1 : decide (links < 1) = true := decide_eq_true a1
    clear h a1
    go_enter Tryd.func28, Tryd.ntmps28
    go_wp2
    go_ret2
    exact ⟨rfl, rfl⟩
  by_cases a2 : (16 : Int) < links
  · have d2 : decide ((16 : Int) < links) = true := decide_eq_true a2
    have d1 : decide (links < 1) = false := decide_eq_false a1
    clear h a1 a2
    go_enter Tryd.func28, Tryd.ntmps28
    go_wp2
    go_ret2
    exact ⟨rfl, rfl⟩
  by_cases a3 : room < 1
  · have d3 : decide (room < 1) = true := decide_eq_true a3
    have d1 : decide (links < 1) = false := decide_eq_false a1
    have d2 : decide ((16 : Int) < links) = false := decide_eq_false a2
    clear h a1 a2 a3
    go_enter Tryd.func28, Tryd.ntmps28
    go_wp2
    go_ret2
    exact ⟨rfl, rfl⟩
  by_cases a4 : (4096 : Int) < room
  · have d4 : decide ((4096 : Int) < room) = true := decide_eq_true a4
    have d1 : decide (links < 1) = false := decide_eq_false a1
    have d2 : decide ((16 : Int) < links) = false := decide_eq_false a2
    have d3 : decide (room < 1) = false := decide_eq_false a3
    clear h a1 a2 a3 a4
    go_enter Tryd.func28, Tryd.ntmps28
    go_wp2
    go_ret2
    exact ⟨rfl, rfl⟩
  by_cases a5 : most < 1
  · have d5 : decide (most < 1) = true := decide_eq_true a5
    have d1 : decide (links < 1) = false := decide_eq_false a1
    have d2 : decide ((16 : Int) < links) = false := decide_eq_false a2
    have d3 : decide (room < 1) = false := decide_eq_false a3
    have d4 : decide ((4096 : Int) < room) = false := decide_eq_false a4
    clear h a1 a2 a3 a4 a5
    go_enter Tryd.func28, Tryd.ntmps28
    go_wp2
    go_ret2
    exact ⟨rfl, rfl⟩
  by_cases a6 : (1048576 : Int) < most
  · have d6 : decide ((1048576 : Int) < most) = true := decide_eq_true a6
    have d1 : decide (links < 1) = false := decide_eq_false a1
    have d2 : decide ((16 : Int) < links) = false := decide_eq_false a2
    have d3 : decide (room < 1) = false := decide_eq_false a3
    have d4 : decide ((4096 : Int) < room) = false := decide_eq_false a4
    have d5 : decide (most < 1) = false := decide_eq_false a5
    clear h a1 a2 a3 a4 a5 a6
    go_enter Tryd.func28, Tryd.ntmps28
    go_wp2
    go_ret2
    exact ⟨rfl, rfl⟩
  exact absurd ⟨by omega, by omega, by omega, by omega, by omega, by omega⟩ h

end Go.Proofs.YtgopklnfdlnojaaDoor.Nb
namespace Go.Proofs.YtgopklnfdlnojaaDoor.Nc
open Go.RowKit Go.Proofs.YtgopklnfdlnojaaDoor.Ga Go.Proofs.YtgopklnfdlnojaaDoor.My Go.Proofs.YtgopklnfdlnojaaDoor.Gb Go.Proofs.YtgopklnfdlnojaaDoor.Gp Go.Proofs.YtgopklnfdlnojaaDoor.Ja Go.Proofs.YtgopklnfdlnojaaDoor.Jb Go.Proofs.YtgopklnfdlnojaaDoor.Jc Go.Proofs.YtgopklnfdlnojaaDoor.Jd Go.Proofs.YtgopklnfdlnojaaDoor.Je Go.Proofs.YtgopklnfdlnojaaDoor.Jf Go.Proofs.YtgopklnfdlnojaaDoor.Jg Go.Proofs.YtgopklnfdlnojaaDoor.Jh Go.Proofs.YtgopklnfdlnojaaDoor.Ji Go.Proofs.YtgopklnfdlnojaaDoor.Ix Go.Proofs.YtgopklnfdlnojaaDoor.Nb Go.Proofs.YtgopklnfdlnojaaDoorW.PrintWords Go.Proofs.YtgopklnfdlnojaaDoorW.PrintLast Go.Proofs.YtgopklnfdlnojaaDoorW.PrintMore
set_option linter.unusedVariables false
set_option linter.unusedSimpArgs false

/-- A joiner whose events have been taken. -/
def rest (J : Jn) : Jn := { J with evs := [] }
theorem rest_id {J : Jn} (h : J.evs = []) : rest J = J := by cases J; simp [rest] at *; exact h
theorem ok_rest {J : Jn} {K : Int} (h : OkJ J K) : OkJ (rest J) K := ⟨h.nm0, h.last0, h.lastK, h.next0, h.nextK, h.waitK, h.sort, h.data, h.most⟩
theorem step_rest {J : Jn} (h : stepJ J = none) : stepJ (rest J) = none := by
  have e1 : (rest J).wait = J.wait := rfl
  have e2 : low (rest J) = low J := rfl
  have e3 : (rest J).next = J.next := rfl
  unfold stepJ at h ⊢
  rw [e1, e2, e3]
  cases hw : J.wait with
  | nil =>
    rw [hw] at h
    simp only at h ⊢
    split at h
    · rename_i h1; rw [if_pos h1]
    · cases h
  | cons p q =>
    rw [hw] at h
    simp only at h ⊢
    split at h
    · cases h
    · rename_i h1
      rw [if_neg h1]
      split at h
      · rename_i h2; rw [if_pos h2]
      · cases h

/-- What holds of a joiner between pieces. -/
structure Still (J : Jn) (K : Int) : Prop where
  ok : OkJ J K
  step : stepJ J = none
  evs : J.evs = []
  room : 0 ≤ J.room

theorem laid_same (J : Jn) (k : Int) (p : S29) : (laidJ J k p).nm = J.nm ∧ (laidJ J k p).room = J.room ∧ (laidJ J k p).most = J.most ∧ (laidJ J k p).last.length = J.last.length := by
  unfold laidJ
  simp only
  split <;> simp

theorem feed_still {J : Jn} {K link : Int} {p : S29} (h : Still J K) (hp : p.f3.length ≤ 1000) :
    Still (rest (feedJ J link p).1) (K + J.nm) ∧ (feedJ J link p).1.nm = J.nm ∧ (feedJ J link p).1.room = J.room ∧ (feedJ J link p).1.most = J.most ∧ (feedJ J link p).1.last.length = J.last.length ∧
      (feedJ J link p).1.wait.length ≤ J.wait.length + 1 ∧ ((feedJ J link p).2 = 0 → (feedJ J link p).1.wait.length ≤ J.room.toNat) ∧ ((feedJ J link p).2 ≠ 0 → (feedJ J link p).1 = J) ∧ (feedJ J link p).1.evs.length ≤ 2 * phi (laidJ J link p) := by
  have hnm := h.ok.nm0
  have same : Still (rest J) (K + J.nm) := by rw [rest_id h.evs]; exact ⟨ok_mono h.ok (by omega), h.step, h.evs, h.room⟩
  unfold feedJ
  by_cases h1 : link < 0 ∨ (J.last.length : Int) ≤ link
  · rw [if_pos h1]
    exact ⟨same, rfl, rfl, rfl, rfl, Nat.le_succ _, fun e => absurd (show (_ : Int) = 0 from e) (by simp), fun _ => rfl, by rw [h.evs]; simp⟩
  · rw [if_neg h1]
    by_cases h2 : p.f2 < 0 ∨ J.nm ≤ p.f2
    · rw [if_pos h2]
      exact ⟨same, rfl, rfl, rfl, rfl, Nat.le_succ _, fun e => absurd (show (_ : Int) = 0 from e) (by simp), fun _ => rfl, by rw [h.evs]; simp⟩
    · rw [if_neg h2]
      obtain ⟨a1, a2, a3⟩ := laid_ok (p := p) (link := link) h.ok (by omega) (by omega) hp
      obtain ⟨l1, l2, l3, l4⟩ := laid_same J link p
      obtain ⟨r1, r2, r3, r4, r5, r6, r7, r8⟩ := run_ok a1
      obtain ⟨t1, t2, t3, t4, t5, t6, t7, t8, t9⟩ := thin_ok (room := J.room.toNat) _ (Nat.le_refl _) r1 r2
      refine ⟨⟨ok_rest t1, step_rest t2, rfl, ?_⟩, t4.trans (r4.trans l1), t5.trans (r5.trans l2), t6.trans (r6.trans l3), by show (thinJ J.room.toNat (runJ (laidJ J link p))).last.length = _; rw [t7, r7, l4], Nat.le_trans t8 (Nat.le_trans r8 a2), fun _ => t9, fun e => absurd rfl e, ?_⟩
      · show 0 ≤ (thinJ J.room.toNat (runJ (laidJ J link p))).room
        rw [t5, r5, l2]
        exact h.room
      · simp only
        rw [a3, h.evs] at r3
        simp at r3
        omega

/-- A joiner is fed anything. -/
theorem feed_any (W : World) (base g bm : Nat) (vl vd : Value) (wv : List (Int × Value)) (J : Jn) (K : Int) (link : Int) (p : S29) (A : Option Addr) (c : Nat) (h : JM W base g bm vl vd (.slice none 0 0) wv [] J) (st : Still J K) (hK : K + J.nm ≤ 1000000000000) (hb : base ≤ W.heap.size)
    (hwl : J.wait.length ≤ 10000) (hp : p.f3.length ≤ 1000) (hc : p.f3.length ≤ c) (hs : Sl0 W (Mut g bm vl vd (.slice none 0 0)) A p.f3.length p.f3) :
    Calls Tryd.prog 35 #[.pointer (some ⟨g, 0, none⟩), .int .i64 link, pc p.f0 p.f1 p.f2 A p.f3.length c] W fun e W' => ∃ vd' ve' wv' er', e = .returned (.tuple #[ve', .int .i64 (feedJ J link p).2]) ∧
      JM W' base g bm vl vd' (.slice none 0 0) wv' [] (rest (feedJ J link p).1) ∧ (rawK 4).R 84 W' base (fun _ => True) ve' er' ∧ All2 (EvOK W' (Mut g bm vl vd' (.slice none 0 0))) (feedJ J link p).1.evs er' ∧
      Kept W W' (Mut g bm vl vd (.slice none 0 0)) ∧ (∀ k, k < W.heap.size → Mut g bm vl vd' (.slice none 0 0) k → Mut g bm vl vd (.slice none 0 0) k) ∧ Below base W W' := by
  have bad : ∀ {e : Ending} {W' : World} {n : Int}, e = .returned (.tuple #[.slice none 0 0, .int .i64 n]) → Below W.heap.size W W' → ∃ vd' ve' wv' er', e = .returned (.tuple #[ve', .int .i64 n]) ∧
      JM W' base g bm vl vd' (.slice none 0 0) wv' [] (rest J) ∧ (rawK 4).R 84 W' base (fun _ => True) ve' er' ∧ All2 (EvOK W' (Mut g bm vl vd' (.slice none 0 0))) J.evs er' ∧
      Kept W W' (Mut g bm vl vd (.slice none 0 0)) ∧ (∀ k, k < W.heap.size → Mut g bm vl vd' (.slice none 0 0) k → Mut g bm vl vd (.slice none 0 0) k) ∧ Below base W W' := by
    intro e W' n he hbl
    have hJ := jm_below h hbl
    refine ⟨vd, .slice none 0 0, wv, [], he, by rw [rest_id st.evs]; exact hJ, Kd.R_nil _ _ _ _ _, ?_, kept_of_below hbl _, fun _ _ h => h, hbl.mono hb⟩
    rw [st.evs]
    exact ⟨rfl, fun j x y hx => by simp at hx⟩
  unfold feedJ
  by_cases h1 : link < 0 ∨ (J.last.length : Int) ≤ link
  · rw [if_pos h1]
    refine (feed_link W base g bm vl vd _ wv [] J link p A c h h1).mono ?_
    rintro e W' ⟨he, hbl⟩
    exact bad he hbl
  · rw [if_neg h1]
    obtain ⟨k, rfl⟩ := Int.eq_ofNat_of_zero_le (show 0 ≤ link by omega)
    by_cases h2 : p.f2 < 0 ∨ J.nm ≤ p.f2
    · rw [if_pos h2]
      refine (feed_num W base g bm vl vd _ wv [] J k p A c h (by omega) h2).mono ?_
      rintro e W' ⟨he, hbl⟩
      exact bad he hbl
    · rw [if_neg h2]
      exact feed_good W base g bm vl vd wv J K k p A c h st.ok hK hb (by omega) (by omega) (by omega) st.room (by omega) hp hc hs

end Go.Proofs.YtgopklnfdlnojaaDoor.Nc
namespace Go.Proofs.YtgopklnfdlnojaaDoor.Nd
open Go.RowKit Go.Proofs.YtgopklnfdlnojaaDoor.Ga Go.Proofs.YtgopklnfdlnojaaDoor.My Go.Proofs.YtgopklnfdlnojaaDoor.Gb Go.Proofs.YtgopklnfdlnojaaDoor.Gp Go.Proofs.YtgopklnfdlnojaaDoor.Ja Go.Proofs.YtgopklnfdlnojaaDoor.Jb Go.Proofs.YtgopklnfdlnojaaDoor.Jc Go.Proofs.YtgopklnfdlnojaaDoor.Jd Go.Proofs.YtgopklnfdlnojaaDoor.Je Go.Proofs.YtgopklnfdlnojaaDoor.Jf Go.Proofs.YtgopklnfdlnojaaDoor.Jg Go.Proofs.YtgopklnfdlnojaaDoor.Jh Go.Proofs.YtgopklnfdlnojaaDoor.Ji Go.Proofs.YtgopklnfdlnojaaDoor.Ix Go.Proofs.YtgopklnfdlnojaaDoor.Nb Go.Proofs.YtgopklnfdlnojaaDoor.Nc Go.Proofs.YtgopklnfdlnojaaDoorW.PrintWords Go.Proofs.YtgopklnfdlnojaaDoorW.PrintLast Go.Proofs.YtgopklnfdlnojaaDoorW.PrintMore
set_option linter.unusedVariables false
set_option linter.unusedSimpArgs false

abbrev J0 : Jn := newJ true 2 4 100
abbrev p1 : S29 := ⟨false, true, 1, [2]⟩
abbrev p2 : S29 := ⟨true, false, 0, [1]⟩
theorem mayJ_ok : mayJ 2 4 100 := by unfold mayJ; omega
theorem still0 : Still J0 0 := ⟨(newJ_ok mayJ_ok).1, (newJ_ok mayJ_ok).2, rfl, by decide⟩
theorem e1 : (feedJ J0 1 p1).2 = 0 ∧ (feedJ J0 1 p1).1.evs = [] ∧ (feedJ J0 1 p1).1.wait.length = 1 ∧ (feedJ J0 1 p1).1.nm = 4096 := ⟨by kernel_rfl, by kernel_rfl, by kernel_rfl, by kernel_rfl⟩
theorem e2 : (feedJ (rest (feedJ J0 1 p1).1) 0 p2).2 = 0 ∧ (feedJ (rest (feedJ J0 1 p1).1) 0 p2).1.evs = [⟨0, [1, 2], 0, 0⟩] := ⟨by kernel_rfl, by kernel_rfl⟩

theorem row_octets {W : World} {g : Nat} {xs : List Int} (h : W.heap[g]? = some (.cells (encs (Value.int .u8) xs).toArray 5 (0, 0))) (hc : xs.length ≤ 4096) : (Kd.int .u8).R 5 W g (fun _ => True) (.slice (some ⟨g, 0, none⟩) xs.length xs.length) xs :=
  Kd.R_of_own (enc := Value.int .u8) (h1 := fun _ => rfl) ⟨by simp [encs], .inr ⟨g, xs.length, _, rfl, Nat.le_refl _, h, Nat.le_refl _, by unfold maxLen; omega, by simp [encs], by rw [Nat.mul_one, List.take_of_length_le (by simp [encs])]⟩⟩ (fun _ _ => trivial)
theorem sl_octets {W : World} {g : Nat} {xs : List Int} {X : Nat → Prop} (h : W.heap[g]? = some (.cells (encs (Value.int .u8) xs).toArray 5 (0, 0))) (hc : xs.length ≤ 4096) (hX : ¬ X g) : Sl0 W X (some ⟨g, 0, none⟩) xs.length xs :=
  Kd.F_mono (Kd.R_F (Kd.R_tight rfl (row_octets h hc))) fun k hk => by
    have e : k = g := by simpa [Value.ownBlock] using hk
    subst e
    exact ⟨(Array.getElem?_eq_some_iff.1 h).1, hX⟩

/-- The cells of events handed out. -/
theorem ev_cells {W : World} {base : Nat} {ve : Value} {er : List (List Value)} (h : (rawK 4).R 84 W base (fun _ => True) ve er) (hne : er ≠ []) : ∃ ga cap, ve = .slice (some ⟨ga, 0, none⟩) er.length cap ∧ er.length ≤ cap ∧ ∀ j r, er[j]? = some r → r.length = 4 ∧ ∀ i u, r[i]? = some u → W.cell? ⟨ga, j * 4 + i, none⟩ = some u := by
  obtain ⟨inner, hown⟩ := Kd.R_own h
  have hpos : 0 < er.length := List.length_pos_iff.2 hne
  rcases hown.2 with ⟨_, hz⟩ | ⟨ga, cap, cur, rfl, _⟩
  · omega
  · obtain ⟨-, hc, hC⟩ := Kd.R_reads' h
    refine ⟨ga, cap, rfl, hc, fun j r hj => ?_⟩
    have hjl := (List.getElem?_eq_some_iff.1 hj).1
    obtain ⟨ad, e, r', hr', hl', _, hcell⟩ := raw_get hC j hjl
    cases e
    rw [hr'] at hj
    cases hj
    refine ⟨hl', fun i u hu => ?_⟩
    have := hcell i u hu
    by_cases h0 : j * 4 + i = 0
    · rw [h0] at this ⊢; exact this
    · simp only [Addr.add] at this
      rw [if_neg h0] at this
      simpa using this

theorem feed1 (w1 : World) (base g bm : Nat) (vl : Value) (h : JM w1 base g bm vl (.slice none 0 0) (.slice none 0 0) [] [] J0) (hb : base ≤ w1.heap.size) :
    Calls Tryd.prog 35 #[.pointer (some ⟨g, 0, none⟩), .int .i64 1, .agg #[.bool false, .bool true, .int .i64 1, .slice (some ⟨w1.heap.size, 0, none⟩) 1 1]] (w1.alloc (.cells #[.int .u8 2] 5)) fun e W' => ∃ A c vd wv, e = .returned (.tuple #[.slice A 0 c, .int .i64 0]) ∧
      JM W' base g bm vl vd (.slice none 0 0) wv [] (rest (feedJ J0 1 p1).1) ∧ Below base w1 W' := by
  have hba := below_alloc (Below.refl w1.heap.size w1) (.cells #[.int .u8 2] 5)
  have hn := new1 w1 (.cells #[.int .u8 2] 5)
  have hm := mayJ_ok
  obtain ⟨k1, k2, k3, k4⟩ := e1
  refine (feed_any _ base g bm vl (.slice none 0 0) [] J0 0 1 p1 (some ⟨w1.heap.size, 0, none⟩) 1 (jm_below h hba) still0 (by decide) (Nat.le_trans hb hba.size) (by decide) (by decide) (by decide) (sl_octets (xs := [2]) hn (by decide) (fun e => absurd (mut_lt h _ e) (Nat.lt_irrefl _)))).mono ?_
  rintro e W' ⟨vd, ve, wv, er, he, hJ, hR, hE, hk, hm, hb'⟩
  rw [k1] at he
  rw [k2] at hE
  obtain ⟨A, c, rfl⟩ := Kd.R_slice hR
  have hl : er.length = 0 := hE.1
  rw [hl] at he
  exact ⟨A, c, vd, wv, he, hJ, (hba.mono hb).trans hb'⟩
theorem feed2 (w1 : World) (base g bm : Nat) (vl vd : Value) (wv : List (Int × Value)) (h : JM w1 base g bm vl vd (.slice none 0 0) wv [] (rest (feedJ J0 1 p1).1)) (hb : base ≤ w1.heap.size) :
    Calls Tryd.prog 35 #[.pointer (some ⟨g, 0, none⟩), .int .i64 0, .agg #[.bool true, .bool false, .int .i64 0, .slice (some ⟨w1.heap.size, 0, none⟩) 1 1]] (w1.alloc (.cells #[.int .u8 1] 5)) fun e W' => ∃ ga c A2 c2, e = .returned (.tuple #[.slice (some ⟨ga, 0, none⟩) 1 c, .int .i64 0]) ∧ 1 ≤ c ∧
      W'.cell? ⟨ga, 0, none⟩ = some (.int .i64 0) ∧ W'.cell? ⟨ga, 1, none⟩ = some (.slice A2 2 c2) ∧ 2 ≤ c2 ∧ (Kd.int .u8).C W' A2 2 [1, 2] ∧ Below base w1 W' := by
  have hba := below_alloc (Below.refl w1.heap.size w1) (.cells #[.int .u8 1] 5)
  have hn := new1 w1 (.cells #[.int .u8 1] 5)
  obtain ⟨k1, k2, k3, k4⟩ := e1
  obtain ⟨j1, j2⟩ := e2
  have hst := (feed_still (link := 1) (p := p1) still0 (by decide)).1
  refine (feed_any _ base g bm vl vd wv _ _ 0 p2 (some ⟨w1.heap.size, 0, none⟩) 1 (jm_below h hba) hst (by decide) (Nat.le_trans hb hba.size) (by decide) (by decide) (by decide) (sl_octets (xs := [1]) hn (by decide) (fun e => absurd (mut_lt h _ e) (Nat.lt_irrefl _)))).mono ?_
  rintro e W' ⟨vd, ve, wv, er, he, hJ, hR, hE, hk, hm, hb'⟩
  rw [j1] at he
  rw [j2] at hE
  obtain ⟨r, er', rfl, ⟨A2, c2, rfl, hc2, hs2⟩, h3⟩ := all2_cons hE
  have hz : er' = [] := List.length_eq_zero_iff.1 h3.1
  subst hz
  obtain ⟨ga, cap, rfl, hcap, hcells⟩ := ev_cells hR (by simp)
  obtain ⟨-, hc⟩ := hcells 0 _ rfl
  exact ⟨ga, cap, A2, c2, he, hcap, hc 0 _ rfl, hc 1 _ rfl, hc2, Kd.F_now hs2, (hba.mono hb).trans hb'⟩

set_option maxHeartbeats 2000000 in
set_option maxRecDepth 100000 in
theorem speaks_any (W : World) (hS : Shapes W) : Calls Tryd.prog 27 #[] W fun e w' => e = .returned (.bool true) ∧ Below W.heap.size W w' := by
  have hnew := new_ok true 2 4 100 W hS (by unfold mayJ; omega)
  clear hS
  go_enter Tryd.func27, Tryd.ntmps27
  go_upto_region 5 with (first
    | (go_at_call 28; refine hnew.mono ?_; rintro e w1 ⟨g, bm, vl, rfl, hJ1, hb1⟩; have HB1 := Aside0.mk hb1; have HJ1 := Aside0.mk hJ1; clear hJ1 hb1)
    | (go_at_call 35; refine (feed1 w1 W.heap.size g bm vl HJ1.out HB1.out.size).mono ?_; rintro e w2 ⟨Aa, ca, vd2, wv2, rfl, hJ2, hb2⟩; have HB2 := Aside0.mk hb2; have HJ2 := Aside0.mk hJ2; clear hJ2 hb2))
  go_wp2_with (first
    | (go_at_call 35; refine (feed2 w2 W.heap.size g bm vl vd2 wv2 HJ2.out (Nat.le_trans HB1.out.size HB2.out.size)).mono ?_; rintro e w3 ⟨ga, cb, A2, c2, rfl, hcb, y0, y1, hc2, hC2, hb3⟩; have HB3 := Aside0.mk hb3; have HC2 := Aside0.mk hC2; have HCB := Aside0.mk (And.intro hcb hc2); clear hC2 hb3 hcb hc2))
  have hba := below_alloc (Below.refl w3.heap.size w3) (.cells #[.int .u8 1, .int .u8 2] 5)
  have hrow := row_octets (xs := [1, 2]) (new1 w3 (.cells #[.int .u8 1, .int .u8 2] 5)) (by decide)
  have HB4 := Aside0.mk hba
  have hC4 := Kd.C_below HC2.out hba
  have hC5 := (Kd.R_reads' hrow).2.2
  refine (marlineref01_Equal.calls 10 A2 c2 [1, 2] (some ⟨w3.heap.size, 0, none⟩) 2 [1, 2] true _ hC4 HCB.out.2 hC5 (by decide) (by decide +kernel)).mono ?_
  rintro e w5 ⟨rfl, hd5⟩
  have HD5 := Aside0.mk hd5
  clear hd5 hba hrow hC4 hC5
  go_wp2
  go_ret
  exact ⟨rfl, (HB1.out.trans (HB2.out.trans (HB3.out.trans ((below_step HB4.out HD5.out.below).mono (Nat.le_trans HB1.out.size (Nat.le_trans HB2.out.size HB3.out.size))))))⟩

end Go.Proofs.YtgopklnfdlnojaaDoor.Nd
namespace Go.Proofs.YtgopklnfdlnojaaDoor.Open
open Go.ChangeShapes Go.WideShapes Go.ChangeAt Go.RowKit Go.Proofs.YtgopklnfdlnojaaDoorW.PrintWords
set_option linter.unusedVariables false

section
variable {H : Type} {enc : TypeId × Value → H} {P : Program} {W : World}

/-- Whatever cells read as data of type t are a thing of kind d, and G holds of it. -/
def Opens {α : Type} (enc : TypeId × Value → H) (P : Program) (W : World) (t : TypeId) (d : Kd α) (G : α → Prop) : Prop :=
  ∀ n cs y, DataW.trod enc P W 0 (fun _ => true) true n t cs = some y → ∃ a, d.K W a cs ∧ G a

theorem opens_int {t : TypeId} {k : IntKind} (ht : P.underlying t = some (.int k)) : Opens enc P W t (Kd.int k) (fun x => (Lit.int k x).wf = true) := by
  intro n cs y h
  obtain ⟨x, rfl, _, hw⟩ := DataW.trod_int ht h
  exact ⟨x, rfl, hw⟩

theorem opens_bool {t : TypeId} (ht : P.underlying t = some .bool) : Opens enc P W t Kd.bool (fun _ => True) := by
  intro n cs y h
  obtain ⟨b, rfl, _⟩ := DataW.trod_bool ht h
  exact ⟨b, rfl, trivial⟩

theorem build {α : Type} {Q : Nat → α → Prop} (n : Nat) (h : ∀ i, i < n → ∃ a, Q i a) : ∃ xs : List α, xs.length = n ∧ ∀ (i : Nat) (x : α), xs[i]? = some x → Q i x := by
  induction n with
  | zero => exact ⟨[], rfl, fun i x hx => by simp at hx⟩
  | succ n ih =>
    obtain ⟨xs, hl, hq⟩ := ih (fun i hi => h i (by omega))
    obtain ⟨a, ha⟩ := h n (by omega)
    refine ⟨xs ++ [a], by simp [hl], fun i x hx => ?_⟩
    by_cases hi : i < n
    · rw [List.getElem?_append_left (by omega)] at hx
      exact hq i x hx
    · have hlt := (List.getElem?_eq_some_iff.1 hx).1
      simp only [List.length_append, List.length_singleton] at hlt
      obtain rfl : i = n := by omega
      rw [List.getElem?_append_right (by omega), hl, Nat.sub_self] at hx
      simp at hx
      exact hx ▸ ha

theorem opens_slice {α : Type} {t e : TypeId} {d : Kd α} {G : α → Prop} (ht : P.underlying t = some (.slice e)) (hsz : P.cellsOf e = d.sz) (h : Opens enc P W e d G) :
    Opens enc P W t (Kd.slice e d) (fun xs => (∀ a ∈ xs, G a) ∧ xs.length ≤ maxLen) := by
  intro n cs y hy
  rcases Go.Deep.open_slice ht hy with ⟨rfl, _⟩ | ⟨a, len, cap, m, n', D, Pl, rfl, _, hl, hm, hmm, _, hx⟩
  · exact ⟨[], ⟨none, 0, rfl, Nat.le_refl _, rfl, by simp, fun h => absurd h (Nat.lt_irrefl 0)⟩, fun a ha => by simp at ha, Nat.zero_le _⟩
  · have hlm : len ≤ m := by rw [hmm]; simp; exact hl
    have key : ∀ i, i < len → ∃ z, G z ∧ ∃ c : List Value, c.length = d.sz ∧ d.K W z c ∧ ∀ j u, c[j]? = some u → W.cell? (a.add (i * d.sz + j)) = some u := by
      intro i hi
      obtain ⟨cs', h1, h2⟩ := hx i (by omega)
      obtain ⟨z, hz, hg⟩ := h n' cs' _ h2
      rw [hsz] at h1
      obtain ⟨_, h3, h4⟩ := World.cells?_some h1
      refine ⟨z, hg, cs', h3, hz, fun j u hu => ?_⟩
      have hj : j < d.sz := by
        have := (List.getElem?_eq_some_iff.1 hu).1
        omega
      have := h4 j hj
      rw [Go.Deep.add_add] at this
      rw [this]
      exact hu
    obtain ⟨xs, hxl, hxs⟩ := build len key
    have hmx : len ≤ maxLen := Nat.le_trans hl hm
    refine ⟨xs, ⟨some a, cap, by rw [hxl], by omega, by rw [hxl], by rw [hxl]; unfold maxLen at hmx; omega, fun _ => ⟨a, rfl, fun j p hp => (hxs j p hp).2⟩⟩, fun z hz => ?_, by omega⟩
    obtain ⟨j, hj, rfl⟩ := List.mem_iff_getElem.1 hz
    exact (hxs j _ (List.getElem?_eq_getElem hj)).1
end

end Go.Proofs.YtgopklnfdlnojaaDoor.Open
namespace Go.Proofs.YtgopklnfdlnojaaDoor.Op
open Go.ChangeShapes Go.WideShapes Go.ChangeAt Go.RowKit Go.Proofs.YtgopklnfdlnojaaDoor.Open Go.Proofs.YtgopklnfdlnojaaDoor.Gp Go.Proofs.YtgopklnfdlnojaaDoorW.PrintWords Go.Proofs.YtgopklnfdlnojaaDoorW.PrintLast Go.Proofs.YtgopklnfdlnojaaDoorW.PrintMore
set_option linter.unusedVariables false
variable {H : Type} {enc : TypeId × Value → H} {W : World}

theorem cells1 : Tryd.prog.cellsOf 4 = 1 ∧ Tryd.prog.cellsOf 3 = 1 ∧ Tryd.prog.cellsOf 22 = 1 ∧ Tryd.prog.cellsOf 24 = 4 ∧ Tryd.prog.cellsOf 5 = 1 := ⟨by kernel_rfl, by kernel_rfl, by kernel_rfl, by kernel_rfl, by kernel_rfl⟩
theorem opens_bytes : Opens enc Tryd.prog W 22 (Kd.slice 5 (Kd.int .u8)) (fun xs => (∀ a ∈ xs, (Lit.int .u8 a).wf = true) ∧ xs.length ≤ maxLen) :=
  opens_slice Tryd.underlying22 cells1.2.2.2.2 (opens_int Tryd.underlying5)
theorem list_one {α : Type} {l : List α} {x : α} (n : Nat) (h : (l.drop n).take 1 = [x]) : l[n]? = some x := by
  have : ((l.drop n).take 1)[0]? = some x := by rw [h]; rfl
  rw [List.getElem?_take, if_pos (by decide), List.getElem?_drop] at this
  simpa using this

set_option maxRecDepth 100000 in
theorem open_piece {base : Nat} {v : Value} {d : DataW H} {ps : List MemPlace} (hv : Value.okWide Tryd.prog W .any base 24 v) (h : DataW.Trod enc Tryd.prog W 0 (fun _ => true) true 24 v d ps) :
    ∃ b e num A xs c, v = pc b e num A (List.length xs) c ∧ xs.length ≤ c ∧ (Kd.int .u8).C W A xs.length xs ∧ ∀ x ∈ xs, 0 ≤ x ∧ x ≤ 255 := by
  obtain ⟨cs, rfl, hsz, _⟩ : ∃ cs, v = .agg cs ∧ cs.size = Tryd.prog.cellsOf 24 ∧ Row.okWide Tryd.prog W .any base 24 cs := by
    simpa [Value.okWide, Tryd.underlying24] using hv
  rw [cells1.2.2.2.1] at hsz
  obtain ⟨fuel, hf⟩ := h
  obtain ⟨xs, n, rfl, _, _, hn, hf⟩ := DataW.trod_struct Tryd.underlying24 hf
  have hn2 : xs.length = 4 := hn
  have e : (Value.cells (.agg cs)).toList = cs.toList := by simp [Value.cells]
  rw [e] at hf
  have f0 : DataW.trod enc Tryd.prog W 0 (fun _ => true) true n 4 ((cs.toList.drop 0).take (Tryd.prog.cellsOf 4)) = xs[0]? := hf 0 _ rfl
  rw [cells1.1] at f0
  have f1 : DataW.trod enc Tryd.prog W 0 (fun _ => true) true n 4 ((cs.toList.drop 1).take (Tryd.prog.cellsOf 4)) = xs[1]? := hf 1 _ rfl
  rw [cells1.1] at f1
  have f2 : DataW.trod enc Tryd.prog W 0 (fun _ => true) true n 3 ((cs.toList.drop 2).take (Tryd.prog.cellsOf 3)) = xs[2]? := hf 2 _ rfl
  rw [cells1.2.1] at f2
  have f3 : DataW.trod enc Tryd.prog W 0 (fun _ => true) true n 22 ((cs.toList.drop 3).take (Tryd.prog.cellsOf 22)) = xs[3]? := hf 3 _ rfl
  rw [cells1.2.2.1] at f3
  rw [List.getElem?_eq_getElem (by omega)] at f0 f1 f2 f3
  obtain ⟨b, e0, _⟩ := DataW.trod_bool Tryd.underlying4 f0
  obtain ⟨b', e1, _⟩ := DataW.trod_bool Tryd.underlying4 f1
  obtain ⟨num, e2, _, _⟩ := DataW.trod_int Tryd.underlying3 f2
  obtain ⟨ys, ⟨A, c, e3, l3, g3⟩, hys⟩ := opens_bytes _ _ _ f3
  have key : cs.toList = [.bool b, .bool b', .int .i64 num, .slice A ys.length c] := by
    have g0 := list_one 0 e0
    have g1 := list_one 1 e1
    have g2 := list_one 2 e2
    have g3 := list_one 3 e3
    obtain ⟨l⟩ := cs
    match l, hsz with
    | [a0, a1, a2, a3], _ =>
      simp at g0 g1 g2 g3
      simp [g0, g1, g2, g3]
  refine ⟨b, b', num, A, ys, c, ?_, l3, g3, fun x hx => bounds_u8 (hys.1 x hx)⟩
  obtain ⟨l⟩ := cs
  simp only at key
  subst key
  rfl

end Go.Proofs.YtgopklnfdlnojaaDoor.Op
namespace Go.Proofs.YtgopklnfdlnojaaDoor.Ne
open Go.ChangeShapes Go.WideShapes Go.ChangeAt Go.RowKit Go.Proofs.YtgopklnfdlnojaaDoor.Ga Go.Proofs.YtgopklnfdlnojaaDoor.Open Go.Proofs.YtgopklnfdlnojaaDoor.Op Go.Proofs.YtgopklnfdlnojaaDoor.Gp Go.Proofs.YtgopklnfdlnojaaDoor.Ja Go.Proofs.YtgopklnfdlnojaaDoor.Jb Go.Proofs.YtgopklnfdlnojaaDoor.Jc Go.Proofs.YtgopklnfdlnojaaDoorW.PrintWords Go.Proofs.YtgopklnfdlnojaaDoorW.PrintLast Go.Proofs.YtgopklnfdlnojaaDoorW.PrintMore
set_option linter.unusedVariables false

structure S67 where
  f0 : Int
  f1 : S24
def z67 : S67 := ⟨0, z24⟩
def k67 : Kd S67 := Kd.iso (Kd.pair (Kd.int .i64) k24) (fun x : S67 => (x.f0, x.f1))
theorem k67_open {w : World} {x : S67} {cs : List Value} (h : k67.K w x cs) : ∃ A4 c4, cs = [.int .i64 x.f0, .bool x.f1.f0, .bool x.f1.f1, .int .i64 x.f1.f2, .slice A4 x.f1.f3.length c4] ∧ x.f1.f3.length ≤ c4 ∧ (Kd.int .u8).C w A4 x.f1.f3.length x.f1.f3 := by
  obtain ⟨_, _, rfl, rfl, s1⟩ := h
  obtain ⟨A4, c4, rfl, l4, g4⟩ := k24_open s1
  exact ⟨A4, c4, rfl, l4, g4⟩
theorem k67_mk (w : World) (x : S67) {A4 : Option Addr} {c4 : Nat} (l4 : x.f1.f3.length ≤ c4) (g4 : (Kd.int .u8).C w A4 x.f1.f3.length x.f1.f3) : k67.K w x [.int .i64 x.f0, .bool x.f1.f0, .bool x.f1.f1, .int .i64 x.f1.f2, .slice A4 x.f1.f3.length c4] := ⟨[.int .i64 x.f0], [.bool x.f1.f0, .bool x.f1.f1, .int .i64 x.f1.f2, .slice A4 x.f1.f3.length c4], rfl, rfl, (k24_mk w x.f1 l4 g4)⟩
theorem at_T67 {w : World} {A : Option Addr} {n : Nat} {xs : List S67} (h : Kd.C k67 w A n xs) (i : Nat) (h1 : i < n) : ∃ ad A4 c4, A = some ad ∧ w.cell? (ad.add (i * 5)) = some (.int .i64 (xs.getD i z67).f0) ∧ w.cell? ⟨(ad.add (i * 5)).block, (ad.add (i * 5)).off + 1, none⟩ = some (.bool (xs.getD i z67).f1.f0) ∧ w.cell? ⟨(ad.add (i * 5)).block, (ad.add (i * 5)).off + 2, none⟩ = some (.bool (xs.getD i z67).f1.f1) ∧ w.cell? ⟨(ad.add (i * 5)).block, (ad.add (i * 5)).off + 3, none⟩ = some (.int .i64 (xs.getD i z67).f1.f2) ∧ w.cell? ⟨(ad.add (i * 5)).block, (ad.add (i * 5)).off + 4, none⟩ = some (.slice A4 (xs.getD i z67).f1.f3.length c4) ∧ (xs.getD i z67).f1.f3.length ≤ c4 ∧ (Kd.int .u8).C w A4 (xs.getD i z67).f1.f3.length (xs.getD i z67).f1.f3 := by
  obtain ⟨ad, c, e, _, hK, hc0⟩ := Kd.C_get h z67 (i : Int) (by omega) (by omega)
  have hc : ∀ j u, c[j]? = some u → w.cell? (ad.add (i * 5 + j)) = some u := hc0
  obtain ⟨A4, c4, rfl, l4, g4⟩ := k67_open hK
  exact ⟨ad, A4, c4, e, hc 0 _ rfl, by rw [← add_field _ _ 1 (by omega)]; exact hc 1 _ rfl, by rw [← add_field _ _ 2 (by omega)]; exact hc 2 _ rfl, by rw [← add_field _ _ 3 (by omega)]; exact hc 3 _ rfl, by rw [← add_field _ _ 4 (by omega)]; exact hc 4 _ rfl, l4, g4⟩

section
variable {H : Type} {enc : TypeId × Value → H} {W : World}
def Good (x : S24) : Prop := (Lit.int .i64 x.f2).wf = true ∧ ∀ a ∈ x.f3, (Lit.int .u8 a).wf = true
set_option maxRecDepth 100000 in
theorem opens_piece : Opens enc Tryd.prog W 24 k24 Good := by
  intro n cs y h
  obtain ⟨xs, n', rfl, hy, hcl, hn, hf⟩ := DataW.trod_struct Tryd.underlying24 h
  have hn2 : xs.length = 4 := hn
  rw [cells1.2.2.2.1] at hcl
  have f0 : DataW.trod enc Tryd.prog W 0 (fun _ => true) true n' 4 ((cs.drop 0).take (Tryd.prog.cellsOf 4)) = xs[0]? := hf 0 _ rfl
  rw [cells1.1] at f0
  have f1 : DataW.trod enc Tryd.prog W 0 (fun _ => true) true n' 4 ((cs.drop 1).take (Tryd.prog.cellsOf 4)) = xs[1]? := hf 1 _ rfl
  rw [cells1.1] at f1
  have f2 : DataW.trod enc Tryd.prog W 0 (fun _ => true) true n' 3 ((cs.drop 2).take (Tryd.prog.cellsOf 3)) = xs[2]? := hf 2 _ rfl
  rw [cells1.2.1] at f2
  have f3 : DataW.trod enc Tryd.prog W 0 (fun _ => true) true n' 22 ((cs.drop 3).take (Tryd.prog.cellsOf 22)) = xs[3]? := hf 3 _ rfl
  rw [cells1.2.2.1] at f3
  rw [List.getElem?_eq_getElem (by omega)] at f0 f1 f2 f3
  obtain ⟨b, e0, _⟩ := DataW.trod_bool Tryd.underlying4 f0
  obtain ⟨b', e1, _⟩ := DataW.trod_bool Tryd.underlying4 f1
  obtain ⟨num, e2, _, wnum⟩ := DataW.trod_int Tryd.underlying3 f2
  obtain ⟨ys, ⟨A, c, e3, l3, g3⟩, hys⟩ := opens_bytes _ _ _ f3
  have key : cs = [.bool b, .bool b', .int .i64 num, .slice A ys.length c] := by
    have g0 := list_one 0 e0
    have g1 := list_one 1 e1
    have g2 := list_one 2 e2
    have g3 := list_one 3 e3
    match cs, hcl with
    | [a0, a1, a2, a3], _ =>
      simp at g0 g1 g2 g3
      simp [g0, g1, g2, g3]
  subst key
  exact ⟨⟨b, b', num, ys⟩, k24_mk W ⟨b, b', num, ys⟩ l3 g3, wnum, hys.1⟩
theorem cells67 : Tryd.prog.cellsOf 67 = 5 := by kernel_rfl
set_option maxRecDepth 100000 in
theorem opens_act : Opens enc Tryd.prog W 67 k67 (fun x => (Lit.int .i64 x.f0).wf = true ∧ Good x.f1) := by
  intro n cs y h
  obtain ⟨xs, n', rfl, hy, hcl, hn, hf⟩ := DataW.trod_struct Tryd.underlying67 h
  have hn2 : xs.length = 2 := hn
  rw [cells67] at hcl
  have f0 : DataW.trod enc Tryd.prog W 0 (fun _ => true) true n' 3 ((cs.drop 0).take (Tryd.prog.cellsOf 3)) = xs[0]? := hf 0 _ rfl
  rw [cells1.2.1] at f0
  have f1 : DataW.trod enc Tryd.prog W 0 (fun _ => true) true n' 24 ((cs.drop 1).take (Tryd.prog.cellsOf 24)) = xs[1]? := hf 1 _ rfl
  rw [cells1.2.2.2.1] at f1
  rw [List.getElem?_eq_getElem (by omega)] at f0 f1
  obtain ⟨num, e0, _, wnum⟩ := DataW.trod_int Tryd.underlying3 f0
  obtain ⟨p, hp, hg⟩ := opens_piece _ _ _ f1
  obtain ⟨A, c, e1, l4, g4⟩ := k24_open hp
  have key : cs = [.int .i64 num, .bool p.f0, .bool p.f1, .int .i64 p.f2, .slice A p.f3.length c] := by
    have g0 := list_one 0 e0
    match cs, hcl with
    | [a0, a1, a2, a3, a4], _ =>
      simp at g0 e1
      simp [g0, e1]
  subst key
  exact ⟨⟨num, p⟩, k67_mk W ⟨num, p⟩ l4 g4, wnum, hg⟩
set_option maxRecDepth 100000 in
theorem open_acts {base : Nat} {v : Value} {d : DataW H} {ps : List MemPlace} (hv : Value.okWide Tryd.prog W .any base 55 v) (h : DataW.Trod enc Tryd.prog W 0 (fun _ => true) true 55 v d ps) :
    ∃ A l c, v = .slice A (List.length l) c ∧ l.length ≤ c ∧ k67.C W A l.length l ∧ ∀ x ∈ l, (Lit.int .i64 x.f0).wf = true ∧ Good x.f1 := by
  obtain ⟨A, n, c, rfl⟩ := okWide_slice Tryd.underlying55 hv
  obtain ⟨fuel, hf⟩ := h
  obtain ⟨l, ⟨A', c', e, hl, hC⟩, hg, _⟩ := opens_slice (enc := enc) (W := W) Tryd.underlying55 cells67 opens_act _ _ _ hf
  simp [Value.cells] at e
  obtain ⟨rfl, rfl, rfl⟩ := e
  exact ⟨A, l, c, rfl, hl, hC, hg⟩
end

/-- A joiner writes nothing below its base. -/
theorem mut_ge {W : World} {base g bm : Nat} {vl vd ve : Value} {wv : List (Int × Value)} {er : List (List Value)} {J : Jn} (h : JM W base g bm vl vd ve wv er J) (k : Nat) (hk : Mut g bm vl vd ve k) : base ≤ k := by
  rcases hk with e | e | e | e | e
  · rw [e]; exact h.hgb
  · rw [e]; exact h.hbm
  · exact Kd.R_base h.hlast k e.symm
  · exact Kd.R_base h.hdata k e.symm
  · exact Kd.R_base h.hevs k e.symm
/-- Octets that came in lie apart from a joiner. -/
theorem sl_came {W0 W : World} {base g bm : Nat} {vl vd ve : Value} {wv : List (Int × Value)} {er : List (List Value)} {J : Jn} {A : Option Addr} {n : Nat} {xs : List Int} (h : (Kd.int .u8).C W0 A n xs) (hb : Below W0.heap.size W0 W) (hJ : JM W base g bm vl vd ve wv er J) (hbs : W0.heap.size ≤ base) : Sl0 W (Mut g bm vl vd ve) A n xs :=
  Kd.F_mono (Kd.F_below (Kd.C_F (Kd.heap_int .u8) h) hb) fun k hk => ⟨Nat.lt_of_lt_of_le hk hb.size, fun hm => by have := mut_ge hJ k hm; omega⟩

end Go.Proofs.YtgopklnfdlnojaaDoor.Ne
namespace Go.Proofs.YtgopklnfdlnojaaDoor.Yb
open Go.RowKit Go.Proofs.YtgopklnfdlnojaaDoor.Ga Go.Proofs.YtgopklnfdlnojaaDoor.My Go.Proofs.YtgopklnfdlnojaaDoor.Gb Go.Proofs.YtgopklnfdlnojaaDoor.Gp Go.Proofs.YtgopklnfdlnojaaDoor.Sb Go.Proofs.YtgopklnfdlnojaaDoor.Ja Go.Proofs.YtgopklnfdlnojaaDoor.Jb Go.Proofs.YtgopklnfdlnojaaDoor.Jc Go.Proofs.YtgopklnfdlnojaaDoor.Jd Go.Proofs.YtgopklnfdlnojaaDoor.Je Go.Proofs.YtgopklnfdlnojaaDoor.Jf Go.Proofs.YtgopklnfdlnojaaDoor.Jg Go.Proofs.YtgopklnfdlnojaaDoor.Jh Go.Proofs.YtgopklnfdlnojaaDoor.Ji Go.Proofs.YtgopklnfdlnojaaDoor.Nb Go.Proofs.YtgopklnfdlnojaaDoor.Nc Go.Proofs.YtgopklnfdlnojaaDoor.Nd Go.Proofs.YtgopklnfdlnojaaDoor.Ne Go.Proofs.YtgopklnfdlnojaaDoorW.PrintWords Go.Proofs.YtgopklnfdlnojaaDoorW.PrintLast Go.Proofs.YtgopklnfdlnojaaDoorW.PrintMore
set_option linter.unusedVariables false
set_option linter.unusedSimpArgs false

/-- Nothing but blocks of type t has turned. -/
def Over (t : Nat) (W W' : World) : Prop := W.heap.size ≤ W'.heap.size ∧ ∀ (k : Nat) (o : Obj), W.heap[k]? = some o → (∀ cs, o ≠ .cells cs t (0, 0)) → W'.heap[k]? = some o
theorem over_grown {t : Nat} {W W' : World} {row : Option Nat} (hg : W.grownBy W' row) (hr : ∀ k, row = some k → ∃ cs, W.heap[k]? = some (Obj.cells cs t (0, 0))) : Over t W W' := by
  refine ⟨hg.size, fun k o ho hn => ?_⟩
  refine (hg.block k (Array.getElem?_eq_some_iff.1 ho).1 (fun e => ?_)).trans ho
  obtain ⟨cs, hc⟩ := hr k e.symm
  rw [ho] at hc
  exact hn cs (by simpa using hc)
theorem over_keeps {t u : Nat} {W W' : World} (h : Over t W W') (hu : u ≠ t) (k : Nat) (cs : Array Value) (hk : W.heap[k]? = some (Obj.cells cs u (0, 0))) : W'.heap[k]? = some (Obj.cells cs u (0, 0)) :=
  h.2 k _ hk (fun cs' e => by cases e; exact hu rfl)
theorem over_kept {t : Nat} {W W' : World} (h : Over t W W') : Kept W W' (fun k => ∃ cs, W.heap[k]? = some (Obj.cells cs t (0, 0))) := by
  refine ⟨h.1, fun k hk hn => ?_⟩
  cases ho : W.heap[k]? with
  | none => rw [Array.getElem?_eq_none_iff] at ho; omega
  | some o => exact h.2 k o ho (fun cs e => hn ⟨cs, by rw [ho, e]⟩)
theorem R_over {α : Type} {d : Kd α} {e base t : Nat} {W W' : World} {v : Value} {xs : List α} (hE : d.E = []) (h : d.R e W base (fun _ => True) v xs) (ho : Over t W W') (ht : e ≠ t) : d.R e W' base (fun _ => True) v xs :=
  R_stay hE h (over_kept ho) (fun k hk ⟨cs, hc⟩ => by
    obtain ⟨cs', hc'⟩ := own_type h k hk
    rw [hc] at hc'
    cases hc'
    exact ht rfl)
theorem Sl_over {t : Nat} {W W' : World} {X : Nat → Prop} {A : Option Addr} {n : Nat} {xs : List Int} (h : Sl W X A n xs) (ho : Over t W W') (ht : t ≠ 5) : Sl W' X A n xs :=
  h.typed ho.1 (fun k cs hk => (over_keeps ho (Ne.symm ht) k cs hk).trans hk.symm) (fun _ _ h => h)

section
variable {W W' : World} {base g bm : Nat} {vl vd : Value} {wv : List (Int × Value)} {J : Jn}
theorem JM_over {t : Nat} (h : JM W base g bm vl vd (.slice none 0 0) wv [] J) (ho : Over t W W') (h1 : t ≠ 102) (h2 : t ≠ 3) (h3 : t ≠ 5) : JM W' base g bm vl vd (.slice none 0 0) wv [] J := by
  have he : J.evs = [] := List.length_eq_zero_iff.1 h.hev.1.symm
  obtain ⟨es, clock, hm⟩ := map_blk h.hmap
  refine ⟨over_keeps ho (Ne.symm h1) _ _ h.hg, h.hgb, h.hbm, R_over rfl h.hlast ho (Ne.symm h2), R_over rfl h.hdata ho (Ne.symm h3), Kd.R_nil _ _ _ _ _, ?_, map_stay h.hmap ((ho.2 bm _ hm (fun cs e => by cases e)).trans hm.symm), h.hwv.imp fun x y ⟨q1, A, c, q2, q3, q4⟩ => ⟨q1, A, c, q2, q3, Sl_over q4 ho h3⟩, h.hsort⟩
  rw [he]
  exact ⟨rfl, fun j x y hx => by simp at hx⟩
/-- A joiner's blocks are of its own types. -/
theorem mut_typed {t : Nat} (h : JM W base g bm vl vd (.slice none 0 0) wv [] J) (h1 : t ≠ 102) (h2 : t ≠ 3) (h3 : t ≠ 5) (k : Nat) (cs : Array Value) (hk : W.heap[k]? = some (Obj.cells cs t (0, 0))) : ¬ Mut g bm vl vd (.slice none 0 0) k := by
  intro hm
  rcases hm with e | e | e | e | e
  · rw [e, h.hg] at hk; cases hk; exact h1 rfl
  · obtain ⟨es, clock, hb⟩ := map_blk h.hmap
    rw [e, hb] at hk; cases hk
  · obtain ⟨cs', hc⟩ := own_type h.hlast k e
    rw [hc] at hk; cases hk; exact h2 rfl
  · obtain ⟨cs', hc⟩ := own_type h.hdata k e
    rw [hc] at hk; cases hk; exact h3 rfl
  · simp [Value.ownBlock] at e
/-- A row of another type stays where a joiner works. -/
theorem R_joiner {α : Type} {d : Kd α} {e b : Nat} {v : Value} {xs : List α} (hE : d.E = []) (hr : d.R e W b (fun _ => True) v xs) (h : JM W base g bm vl vd (.slice none 0 0) wv [] J) (hk : Kept W W' (Mut g bm vl vd (.slice none 0 0))) (h1 : e ≠ 102) (h2 : e ≠ 3) (h3 : e ≠ 5) : d.R e W' b (fun _ => True) v xs :=
  R_stay hE hr hk (fun k hk1 => by
    obtain ⟨cs, hc⟩ := own_type hr k hk1
    exact mut_typed h h1 h2 h3 k cs hc)
end


end Go.Proofs.YtgopklnfdlnojaaDoor.Yb
