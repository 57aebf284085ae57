/-
  OWN TEXT. PIPE: the law PipePumps: up to Pump; THE WHOLE LAW WALKED.
-/
import Derived.Test.YtdmhgajamepgoaaSd
import Derived.Conc.AppendWalk
import Derived.Laws.MakeOwn
set_option linter.unusedVariables false
set_option linter.unusedSimpArgs false
set_option linter.unusedSectionVars false
namespace Go.Proofs.Ytdmhgajamepgoaa.Q
open Go Go.Conc

theorem mk28 {K : Nat} (h : K ≤ 40) (w : World) : (Instr.makeSlice 28 (.int .i64 K) (.int .i64 K)).run Try.prog w = .ok (.slice (some ⟨w.heap.size, 0, none⟩) K K) (w.alloc (.cells (madeCells #[.int .i64 0] K) 3)) ∧ ∀ es, (Instr.makeSlice 28 (.int .i64 K) (.int .i64 K)).events Try.prog w es = es := by
  obtain ⟨i, hi, hz, hsz, hby⟩ := i3
  constructor
  · have := run_make (P := Try.prog) w 28 3 i _ u28 hi hz .i64 .i64 K K (by omega) (Int.le_refl _) (by rw [hby]; omega) (by omega)
    rw [this]
    simp [hsz, Value.cells]
  · intro es
    exact events_make (P := Try.prog) w 28 3 i _ u28 hi hz .i64 .i64 K K (by omega) (Int.le_refl _) (by rw [hby]; omega) (by omega) (by rw [hby]; simp; omega) es
theorem fill_step {C : Array Value} {i : Nat} {v : Value} {L : List Value} (h : C.toList.take i = L) (hi : i < C.size) : (C.setIfInBounds i v).toList.take (i + 1) = L ++ [v] := by
  rw [Array.toList_setIfInBounds, List.take_add_one, List.getElem?_set_self (by simpa using hi), List.take_set_of_le (Nat.le_refl _), h]
  rfl

set_option maxRecDepth 100000 in
set_option maxHeartbeats 4000000 in
theorem fill_walk {W : World} {Post : Value → World → Prop} {QQ : Exit → Act → Tau CX → Prop} {t : Tau CX} {d3 r : Nat} {mo : Int} {ra : Option Addr} {rc : Nat} {vs : List Value} {LL : List (List Int)}
    (hx : t.x = .alone) (hd : t.d = 0) (hd3 : (⟨d3, .cells #[.slice ra LL.length rc] 45, true⟩ : Chunk) ∈ t.sg)
    (hrow : RowS W [] (.slice ra LL.length rc) vs) (h2 : Rows0 W vs LL) (hlen : LL.length ≤ 40) (hl : ∀ l ∈ LL, l.length ≤ 40) (hr : r ≤ 255) (hmo : -32768 ≤ mo ∧ mo ≤ 32767) (u : Nat → Value)
    (hp : ∀ a t, t.x = .alone → t.d = 0 → a.defers = [] → a.tmps.getD 6 undef = .bool true → QQ .ret a t)
    (hq : ∀ lk a t, t.x = .alone → t.d = 0 → a.defers = [dcall 20 #[.pointer (some ⟨lk, 0, none⟩)]] → (⟨lk, .cells #[.int .i32 1, .int .u32 0] 53, true⟩ : Chunk) ∈ t.sg → a.tmps.getD 6 undef = .bool true → QQ .ret a t) :
    wpS (CMv Try.prog W Post) 5 (seqR (seqR (seqR code5))) QQ ⟨#[u 0, .int .u8 r, .int .i16 mo, .pointer (some ⟨d3, 0, none⟩), u 4, u 5, u 6, u 7, u 8, u 9, u 10, u 11, u 12, u 13, u 14, u 15, u 16, u 17, u 18, u 19, u 20, u 21, u 22, u 23, u 24, u 25, u 26, u 27, u 28, u 29, u 30, u 31, u 32, u 33, u 34, u 35, u 36, u 37, u 38, u 39, u 40, u 41, u 42, u 43, u 44, u 45, u 46, u 47, u 48, u 49, u 50, u 51, u 52, u 53, u 54, u 55, u 56, u 57, u 58, u 59, u 60, u 61, u 62, u 63, u 64, u 65, u 66, u 67, u 68, u 69, u 70, u 71, u 72, u 73, u 74, u 75, u 76, u 77, u 78, u 79, u 80, u 81, u 82, u 83, u 84, u 85, u 86, u 87, u 88, u 89, u 90, u 91, u 92, u 93, u 94, u 95, u 96, u 97, u 98, u 99, u 100, u 101, u 102, u 103, u 104, u 105, u 106, u 107, u 108, u 109, u 110, u 111, u 112, u 113, u 114, u 115, u 116, u 117, u 118, u 119, u 120, u 121, u 122, u 123, u 124, u 125, u 126], []⟩ t := by
  have M := cmoves Try.prog W Post
  show wpS _ 5 (Code.seq _ _) _ _ _
  refine wpS_seq M ?_
  refine wpS_region M ?_
  simp only [List.size_toArray, List.length_cons, List.length_nil, Nat.reduceAdd, Nat.zero_add, List.range, List.range.loop]
  refine opsS_new M (.cells #[.int .i32 0, .int .u32 0] 53) rfl (by rfl) (fun w hs => by simp [go_sem]) (fun w hs K hK => ?_)
  go_simp
  refine hK _ fun t1 k1 hlk f1 g1 => ?_
  clear hK K
  generalize w.heap.size = lk at *
  clear hs w
  try walk_nrm
  refine opsS_nil M ?_
  try simp only [thenS, inBlockS]
  refine wpS_seq M ?_
  refine wpS_region M ?_
  simp only [List.size_toArray, List.length_cons, List.length_nil, Nat.reduceAdd, Nat.zero_add, List.range, List.range.loop]
  refine opsS_new M (.cells #[.slice none 0 0] 28) rfl (by rfl) (fun w hs => by simp [go_sem]) (fun w hs K hK => ?_)
  go_simp
  refine hK _ fun t2 k2 hbx f2 g2 => ?_
  clear hK K
  generalize w.heap.size = bx at *
  clear hs w
  try walk_nrm
  refine opsS_nil M ?_
  try simp only [thenS, inBlockS]
  have hlk2 := k2.all hlk
  have hd32 := k2.all (k1.all hd3)
  have hns : ¬ cstrict t2.x := fun h => h
  refine wpS_seq M ?_
  refine wpS_region M ?_
  simp only [List.size_toArray, List.length_cons, List.length_nil, Nat.reduceAdd, Nat.zero_add, List.range, List.range.loop]
  refine opsS_ld M (j := 0) hd32 (by first | rfl | simp | assumption) rfl (by rfl) hns (fun w hcell e he => by simp [go_sem, hcell] at he; exact ⟨_, he⟩) (fun w hcell K hK => ?_)
  go_simp
  refine hK _ ?_
  clear hK K hcell w
  try walk_nrm
  (refine opsS_look M rfl (by rfl) (fun w => by first | (simp [go_sem]; done) | fail) (fun w hs K hK => ?_); go_simp; refine hK _ ?_; clear hK K hs w; (try walk_nrm))
  refine opsS_new M (.cells (madeCells #[.int .i64 0] LL.length) 3) rfl (by rfl) (fun w hs => by have := (mk28 hlen w).2; unfold execOp; simp [Act.eval, this]) (fun w hs K hK => ?_)
  have hmk := (mk28 hlen w).1
  go_simp
  refine hK _ fun t3 k3 hN f3 g3 => ?_
  clear hmk hK K
  generalize w.heap.size = N at *
  clear hs w
  try walk_nrm
  (refine opsS_look M rfl (by rfl) (fun w => by first | (simp [go_sem]; done) | fail) (fun w hs K hK => ?_); go_simp; refine hK _ ?_; clear hK K hs w; (try walk_nrm))
  refine opsS_nil M ?_
  try simp only [thenS, inBlockS]
  have hbx3 := k3.all hbx
  have hlk3 := k3.all hlk2
  have hd33 := k3.all hd32
  have n1 : lk ≠ N := f3 _ hlk2
  have n2 : bx ≠ N := f3 _ hbx
  have n3 : d3 ≠ N := f3 _ hd32
  have hx3 : t3.x = .alone := by rw [k3.x, k2.x, k1.x, hx]
  have hd03 : t3.d = 0 := by rw [k3.d, k2.d, k1.d, hd]
  clear k3 k2 k1 hns
  refine wpS_seq M ?_
  refine wpS_mono (Q := fun e a t2 => e = .normal ∧ (∃ u : Nat → Value, a = ⟨#[u 0, .int .u8 r, .int .i16 mo, .pointer (some ⟨d3, 0, none⟩), u 4, u 5, u 6, u 7, u 8, .pointer (some ⟨lk, 0, none⟩), .pointer (some ⟨bx, 0, none⟩), .slice (some ⟨N, 0, none⟩) LL.length LL.length, u 12, u 13, u 14, u 15, u 16, u 17, u 18, u 19, u 20, u 21, u 22, u 23, u 24, u 25, u 26, u 27, u 28, u 29, u 30, u 31, u 32, u 33, u 34, u 35, u 36, u 37, u 38, u 39, u 40, u 41, u 42, u 43, u 44, u 45, u 46, u 47, u 48, u 49, u 50, u 51, u 52, u 53, u 54, u 55, u 56, u 57, u 58, u 59, u 60, u 61, u 62, u 63, u 64, u 65, u 66, u 67, u 68, u 69, u 70, u 71, u 72, u 73, u 74, u 75, u 76, u 77, u 78, u 79, u 80, u 81, u 82, u 83, u 84, u 85, u 86, u 87, u 88, u 89, u 90, u 91, u 92, u 93, u 94, u 95, u 96, u 97, u 98, u 99, u 100, u 101, u 102, u 103, u 104, u 105, u 106, u 107, u 108, u 109, u 110, u 111, u 112, u 113, u 114, u 115, u 116, u 117, u 118, u 119, u 120, u 121, u 122, u 123, u 124, u 125, u 126], []⟩) ∧ t2.x = .alone ∧ t2.d = 0 ∧
      (⟨lk, .cells #[.int .i32 0, .int .u32 0] 53, true⟩ : Chunk) ∈ t2.sg ∧ (⟨bx, .cells #[.slice none 0 0] 28, true⟩ : Chunk) ∈ t2.sg ∧ (⟨d3, .cells #[.slice ra LL.length rc] 45, true⟩ : Chunk) ∈ t2.sg ∧ ∃ C, (⟨N, .cells C 3, true⟩ : Chunk) ∈ t2.sg ∧ C.toList = (nums LL.length).map iv) ?_ ?_
  · refine wpS_seq M ?_
    refine wpS_region M ?_
    simp only [List.size_toArray, List.length_cons, List.length_nil, Nat.reduceAdd, Nat.zero_add, List.range, List.range.loop]
    (refine opsS_look M rfl (by rfl) (fun w => by first | (simp [go_sem]; done) | fail) (fun w hs K hK => ?_); go_simp; refine hK _ ?_; clear hK K hs w; (try walk_nrm))
    (refine opsS_look M rfl (by rfl) (fun w => by first | (simp [go_sem]; done) | fail) (fun w hs K hK => ?_); go_simp; refine hK _ ?_; clear hK K hs w; (try walk_nrm))
    (refine opsS_look M rfl (by rfl) (fun w => by first | (simp [go_sem]; done) | fail) (fun w hs K hK => ?_); go_simp; refine hK _ ?_; clear hK K hs w; (try walk_nrm))
    refine opsS_nil M ?_
    try simp only [thenS, inBlockS]
    refine wpS_block M ?_
    refine wpS_loopN M (I := fun M a t2 => ∃ i, i + M = LL.length ∧ (∃ u : Nat → Value, a = ⟨#[u 0, .int .u8 r, .int .i16 mo, .pointer (some ⟨d3, 0, none⟩), u 4, u 5, u 6, u 7, u 8, .pointer (some ⟨lk, 0, none⟩), .pointer (some ⟨bx, 0, none⟩), .slice (some ⟨N, 0, none⟩) LL.length LL.length, u 12, u 13, u 14, u 15, u 16, u 17, u 18, u 19, u 20, u 21, u 22, u 23, u 24, u 25, u 26, u 27, u 28, u 29, u 30, u 31, u 32, u 33, u 34, u 35, u 36, u 37, u 38, u 39, u 40, u 41, .int .i64 LL.length, .int .i64 i, u 44, u 45, u 46, u 47, u 48, u 49, u 50, u 51, u 52, u 53, u 54, u 55, u 56, u 57, u 58, u 59, u 60, u 61, u 62, u 63, u 64, u 65, u 66, u 67, u 68, u 69, u 70, u 71, u 72, u 73, u 74, u 75, u 76, u 77, u 78, u 79, u 80, u 81, u 82, u 83, u 84, u 85, u 86, u 87, u 88, u 89, u 90, u 91, u 92, u 93, u 94, u 95, u 96, u 97, u 98, u 99, u 100, u 101, u 102, u 103, u 104, u 105, u 106, u 107, u 108, u 109, u 110, u 111, u 112, u 113, u 114, u 115, u 116, u 117, u 118, u 119, u 120, u 121, u 122, u 123, u 124, u 125, u 126], []⟩) ∧ t2.x = .alone ∧ t2.d = 0 ∧
      (⟨lk, .cells #[.int .i32 0, .int .u32 0] 53, true⟩ : Chunk) ∈ t2.sg ∧ (⟨bx, .cells #[.slice none 0 0] 28, true⟩ : Chunk) ∈ t2.sg ∧ (⟨d3, .cells #[.slice ra LL.length rc] 45, true⟩ : Chunk) ∈ t2.sg ∧ ∃ C, (⟨N, .cells C 3, true⟩ : Chunk) ∈ t2.sg ∧ C.size = LL.length ∧ C.toList.take i = (nums i).map iv) LL.length
      ⟨0, by omega, mkFd (by kernel_rfl), hx3, hd03, hlk3, hbx3, hd33, _, hN, size_madeCells _ _, by simp [nums]⟩ ?_
    rintro MM a t4 ⟨i, hi, ⟨u, rfl⟩, hx4, hd4, hlk4, hbx4, hd34, C, hN4, hCs, hC⟩
    clear hN hbx3 hlk3 hd33 hx3 hd03
    have hns : ¬ cstrict t4.x := fun h => h
    replace hi := Hid.mk hi
    replace hCs := Hid.mk hCs
    replace hC := Hid.mk hC
    refine wpS_seq M ?_
    refine wpS_region M ?_
    simp only [List.size_toArray, List.length_cons, List.length_nil, Nat.reduceAdd, Nat.zero_add, List.range, List.range.loop]
    cases MM with
    | zero =>
      have hlt : ¬ ((i : Int) < (LL.length : Int)) := by have := hi.out; omega
      (refine opsS_look M rfl (by rfl) (fun w => by first | (simp [go_sem]; done) | fail) (fun w hs K hK => ?_); go_simp; refine hK _ ?_; clear hK K hs w; (try walk_nrm))
      clear hlt
      refine opsS_nil M ?_
      try simp only [thenS, inBlockS]
      refine wpS_seq M ?_
      refine wpS_cond M (v := false) (by rfl) ?_
      simp only [if_true, if_false, Bool.false_eq_true]
      refine wpS_exit M ?_
      try simp only [thenS, inBlockS, if_true, if_false, eq_self, reduceIte, Nat.reduceEqDiff, OfNat.ofNat_ne_ofNat, OfNat.ofNat_ne_zero, OfNat.zero_ne_ofNat, Nat.zero_ne_one, Nat.one_ne_zero, OfNat.ofNat_ne_one, OfNat.one_ne_ofNat]
      refine ⟨by trivial, mkFd (by kernel_rfl), hx4, hd4, hlk4, hbx4, hd34, C, hN4, ?_⟩
      have e : i = LL.length := by have := hi.out; omega
      have h := hC.out
      rw [e, List.take_of_length_le (by rw [Array.length_toList, hCs.out]; omega)] at h
      exact h
    | succ MM =>
      have hlt : (i : Int) < (LL.length : Int) := by have := hi.out; omega
      have hltn : i < LL.length := by have := hi.out; omega
      (refine opsS_look M rfl (by rfl) (fun w => by first | (simp [go_sem]; done) | fail) (fun w hs K hK => ?_); go_simp; refine hK _ ?_; clear hK K hs w; (try walk_nrm))
      clear hlt
      refine opsS_nil M ?_
      try simp only [thenS, inBlockS]
      refine wpS_seq M ?_
      refine wpS_cond M (v := true) (by rfl) ?_
      simp only [if_true, if_false, Bool.false_eq_true]
      refine wpS_skip M ?_
      try simp only [thenS, inBlockS]
      refine wpS_seq M ?_
      refine wpS_block M ?_
      refine wpS_seq M ?_
      refine wpS_region M ?_
      simp only [List.size_toArray, List.length_cons, List.length_nil, Nat.reduceAdd, Nat.zero_add, List.range, List.range.loop]
      (refine opsS_look M rfl (by rfl) (fun w => by first | (simp [go_sem]; done) | fail) (fun w hs K hK => ?_); go_simp; refine hK _ ?_; clear hK K hs w; (try walk_nrm))
      (refine opsS_look M rfl (by rfl) (fun w => by first | (simp [go_sem]; done) | fail) (fun w hs K hK => ?_); go_simp; refine hK _ ?_; clear hK K hs w; (try walk_nrm))
      refine opsS_nil M ?_
      try simp only [thenS, inBlockS]
      have hlC : i < C.size := by rw [hCs.out]; exact hltn
      obtain ⟨c0, hc0⟩ : ∃ c0, C[i]? = some c0 := ⟨C[i], Array.getElem?_eq_getElem hlC⟩
      refine wpS_region M ?_
      simp only [List.size_toArray, List.length_cons, List.length_nil, Nat.reduceAdd, Nat.zero_add, List.range, List.range.loop]
      (refine opsS_look M rfl (by rfl) (fun w => by first | (simp [go_sem]; done) | fail) (fun w hs K hK => ?_); go_simp; refine hK _ ?_; clear hK K hs w; (try walk_nrm))
      (refine opsS_look M rfl (by rfl) (fun w => by first | (simp [go_sem]; done) | fail) (fun w hs K hK => ?_); go_simp; refine hK _ ?_; clear hK K hs w; (try walk_nrm))
      (refine opsS_look M rfl (by rfl) (fun w => by first | (simp [go_sem]; done) | fail) (fun w hs K hK => ?_); go_simp; refine hK _ ?_; clear hK K hs w; (try walk_nrm))
      (refine opsS_look M rfl (by rfl) (fun w => by first | (simp [go_sem, hltn]; done) | fail) (fun w hs K hK => ?_); go_simp; refine hK _ ?_; clear hK K hs w; (try walk_nrm))
      refine opsS_st M (j := i) (.int .i64 i) hN4 (by first | rfl | simp | assumption) rfl (by rfl) hns (fun w hcell hfr e he => by simp [go_sem, hcell, hfr, ev_bool, ev_slice, ev_ptr, ev_int, ev_chan, storedEv] at he; exact ⟨_, _, _, he⟩) (fun w hcell hfr K hK => ?_)
      go_simp
      refine hK _ fun t5 k5 hN5 => ?_
      clear hK K hcell hfr w
      try walk_nrm
      refine opsS_nil M ?_
      try simp only [thenS, inBlockS]
      have hw1 := w1 i (by omega)
      refine wpS_region M ?_
      simp only [List.size_toArray, List.length_cons, List.length_nil, Nat.reduceAdd, Nat.zero_add, List.range, List.range.loop]
      (refine opsS_look M rfl (by rfl) (fun w => by first | (simp [go_sem]; done) | fail) (fun w hs K hK => ?_); go_simp; refine hK _ ?_; clear hK K hs w; (try walk_nrm))
      (refine opsS_look M rfl (by rfl) (fun w => by first | (simp [go_sem]; done) | fail) (fun w hs K hK => ?_); go_simp; refine hK _ ?_; clear hK K hs w; (try walk_nrm))
      refine opsS_nil M ?_
      try simp only [thenS, inBlockS]
      exact ⟨MM, by omega, i + 1, by have := hi.out; omega, by simp only [Int.natCast_add, Int.natCast_one, Int.cast_ofNat_Int]; exact mkFd (by kernel_rfl), by rw [k5.x, hx4], by rw [k5.d, hd4], k5.sg _ hlk4 (by simpa using n1), k5.sg _ hbx4 (by simpa using n2), k5.sg _ hd34 (by simpa using n3), _, hN5, by simpa using hCs.out,
        by rw [fill_step hC.out hlC, ← nums_push, List.map_append]; rfl⟩
  · rintro e a t4 ⟨rfl, ⟨u, rfl⟩, hx4, hd4, hlk4, hbx4, hd34, C, hN4, hC⟩
    simp only [thenS]
    exact pumps_call hx4 hd4 hlk4 hbx4 hd34 hN4 hC hrow h2 hlen hl hr hmo u hp (hq lk)


set_option maxRecDepth 100000 in
set_option maxHeartbeats 4000000 in
theorem check_walk {W : World} {Post : Value → World → Prop} {QQ : Exit → Act → Tau CX → Prop} {t : Tau CX} {d3 r : Nat} {mo : Int} {ra : Option Addr} {rc : Nat} {vs : List Value} {LL : List (List Int)}
    (hx : t.x = .alone) (hd : t.d = 0) (hd3 : (⟨d3, .cells #[.slice ra LL.length rc] 45, true⟩ : Chunk) ∈ t.sg)
    (hrow : RowS W [] (.slice ra LL.length rc) vs) (h2 : Rows0 W vs LL) (hlen : LL.length ≤ 40) (hr : r ≤ 255) (hmo : -32768 ≤ mo ∧ mo ≤ 32767) (u : Nat → Value)
    (hp : ∀ a t, t.x = .alone → t.d = 0 → a.defers = [] → a.tmps.getD 6 undef = .bool true → QQ .ret a t)
    (hq : ∀ lk a t, t.x = .alone → t.d = 0 → a.defers = [dcall 20 #[.pointer (some ⟨lk, 0, none⟩)]] → (⟨lk, .cells #[.int .i32 1, .int .u32 0] 53, true⟩ : Chunk) ∈ t.sg → a.tmps.getD 6 undef = .bool true → QQ .ret a t) :
    wpS (CMv Try.prog W Post) 5 (seqR (seqR code5)) QQ ⟨#[u 0, .int .u8 r, .int .i16 mo, .pointer (some ⟨d3, 0, none⟩), u 4, u 5, u 6, u 7, u 8, u 9, u 10, u 11, u 12, u 13, u 14, u 15, u 16, u 17, u 18, u 19, u 20, u 21, u 22, u 23, u 24, u 25, u 26, u 27, u 28, u 29, u 30, u 31, u 32, u 33, u 34, u 35, u 36, u 37, u 38, u 39, u 40, u 41, u 42, u 43, u 44, u 45, u 46, u 47, u 48, u 49, u 50, u 51, u 52, u 53, u 54, u 55, u 56, u 57, u 58, u 59, u 60, u 61, u 62, u 63, u 64, u 65, u 66, u 67, u 68, u 69, u 70, u 71, u 72, u 73, u 74, u 75, u 76, u 77, u 78, u 79, u 80, u 81, u 82, u 83, u 84, u 85, u 86, u 87, u 88, u 89, u 90, u 91, u 92, u 93, u 94, u 95, u 96, u 97, u 98, u 99, u 100, u 101, u 102, u 103, u 104, u 105, u 106, u 107, u 108, u 109, u 110, u 111, u 112, u 113, u 114, u 115, u 116, u 117, u 118, u 119, u 120, u 121, u 122, u 123, u 124, u 125, u 126], []⟩ t := by
  have M := cmoves Try.prog W Post
  show wpS _ 5 (Code.seq _ _) _ _ _
  refine wpS_seq M ?_
  refine wpS_mono (Q := fun e a t2 => (e = .ret ∧ QQ .ret a t2) ∨ (e = .normal ∧ (∀ l ∈ LL, l.length ≤ 40) ∧ (∃ u : Nat → Value, a = ⟨#[u 0, .int .u8 r, .int .i16 mo, .pointer (some ⟨d3, 0, none⟩), u 4, u 5, u 6, u 7, u 8, u 9, u 10, u 11, u 12, u 13, u 14, u 15, u 16, u 17, u 18, u 19, u 20, u 21, u 22, u 23, u 24, u 25, u 26, u 27, u 28, u 29, u 30, u 31, u 32, u 33, u 34, u 35, u 36, u 37, u 38, u 39, u 40, u 41, u 42, u 43, u 44, u 45, u 46, u 47, u 48, u 49, u 50, u 51, u 52, u 53, u 54, u 55, u 56, u 57, u 58, u 59, u 60, u 61, u 62, u 63, u 64, u 65, u 66, u 67, u 68, u 69, u 70, u 71, u 72, u 73, u 74, u 75, u 76, u 77, u 78, u 79, u 80, u 81, u 82, u 83, u 84, u 85, u 86, u 87, u 88, u 89, u 90, u 91, u 92, u 93, u 94, u 95, u 96, u 97, u 98, u 99, u 100, u 101, u 102, u 103, u 104, u 105, u 106, u 107, u 108, u 109, u 110, u 111, u 112, u 113, u 114, u 115, u 116, u 117, u 118, u 119, u 120, u 121, u 122, u 123, u 124, u 125, u 126], []⟩) ∧ t2 = t)) ?_ ?_
  · have hns : ¬ cstrict t.x := fun h => h
    refine wpS_seq M ?_
    refine wpS_region M ?_
    simp only [List.size_toArray, List.length_cons, List.length_nil, Nat.reduceAdd, Nat.zero_add, List.range, List.range.loop]
    refine opsS_ld M (j := 0) hd3 (by first | rfl | simp | assumption) rfl (by rfl) hns (fun w hcell e he => by simp [go_sem, hcell] at he; exact ⟨_, he⟩) (fun w hcell K hK => ?_)
    go_simp
    refine hK _ ?_
    clear hK K hcell w
    try walk_nrm
    (refine opsS_look M rfl (by rfl) (fun w => by first | (simp [go_sem]; done) | fail) (fun w hs K hK => ?_); go_simp; refine hK _ ?_; clear hK K hs w; (try walk_nrm))
    (refine opsS_look M rfl (by rfl) (fun w => by first | (simp [go_sem]; done) | fail) (fun w hs K hK => ?_); go_simp; refine hK _ ?_; clear hK K hs w; (try walk_nrm))
    refine opsS_nil M ?_
    try simp only [thenS, inBlockS]
    refine wpS_block M ?_
    refine wpS_loopN M (I := fun N a t2 => ∃ i, i + N = LL.length ∧ (∀ l ∈ LL.take i, l.length ≤ 40) ∧ (∃ u : Nat → Value, a = ⟨#[u 0, .int .u8 r, .int .i16 mo, .pointer (some ⟨d3, 0, none⟩), u 4, u 5, u 6, u 7, u 8, u 9, u 10, u 11, u 12, u 13, u 14, u 15, u 16, u 17, u 18, u 19, u 20, u 21, u 22, u 23, u 24, u 25, u 26, u 27, .slice ra LL.length rc, .int .i64 LL.length, .int .i64 i, u 31, u 32, u 33, u 34, u 35, u 36, u 37, u 38, u 39, u 40, u 41, u 42, u 43, u 44, u 45, u 46, u 47, u 48, u 49, u 50, u 51, u 52, u 53, u 54, u 55, u 56, u 57, u 58, u 59, u 60, u 61, u 62, u 63, u 64, u 65, u 66, u 67, u 68, u 69, u 70, u 71, u 72, u 73, u 74, u 75, u 76, u 77, u 78, u 79, u 80, u 81, u 82, u 83, u 84, u 85, u 86, u 87, u 88, u 89, u 90, u 91, u 92, u 93, u 94, u 95, u 96, u 97, u 98, u 99, u 100, u 101, u 102, u 103, u 104, u 105, u 106, u 107, u 108, u 109, u 110, u 111, u 112, u 113, u 114, u 115, u 116, u 117, u 118, u 119, u 120, u 121, u 122, u 123, u 124, u 125, u 126], []⟩) ∧ t2 = t) LL.length ⟨0, by omega, by simp, mkFd (by kernel_rfl), rfl⟩ ?_
    rintro N a t2 ⟨i, hi, hs, ⟨u, rfl⟩, rfl⟩
    replace hi := Hid.mk hi
    replace hs := Hid.mk hs
    refine wpS_seq M ?_
    refine wpS_region M ?_
    simp only [List.size_toArray, List.length_cons, List.length_nil, Nat.reduceAdd, Nat.zero_add, List.range, List.range.loop]
    cases N with
    | zero =>
      have hlt : ¬ ((i : Int) < (LL.length : Int)) := by have := hi.out; omega
      (refine opsS_look M rfl (by rfl) (fun w => by first | (simp [go_sem]; done) | fail) (fun w hs K hK => ?_); go_simp; refine hK _ ?_; clear hK K hs w; (try walk_nrm))
      clear hlt
      refine opsS_nil M ?_
      try simp only [thenS, inBlockS]
      refine wpS_seq M ?_
      refine wpS_cond M (v := false) (by rfl) ?_
      simp only [if_true, if_false, Bool.false_eq_true]
      refine wpS_exit M ?_
      try simp only [thenS, inBlockS, if_true, if_false, eq_self, reduceIte, Nat.reduceEqDiff, OfNat.ofNat_ne_ofNat, OfNat.ofNat_ne_zero, OfNat.zero_ne_ofNat, Nat.zero_ne_one, Nat.one_ne_zero, OfNat.ofNat_ne_one, OfNat.one_ne_ofNat]
      refine .inr ⟨by trivial, ?_, mkFd (by kernel_rfl), by trivial⟩
      have h := hs.out
      rw [List.take_of_length_le (by have := hi.out; omega)] at h
      exact h
    | succ N =>
      have hlt : (i : Int) < (LL.length : Int) := by have := hi.out; omega
      have hltn : i < LL.length := by have := hi.out; omega
      (refine opsS_look M rfl (by rfl) (fun w => by first | (simp [go_sem]; done) | fail) (fun w hs K hK => ?_); go_simp; refine hK _ ?_; clear hK K hs w; (try walk_nrm))
      clear hlt
      refine opsS_nil M ?_
      try simp only [thenS, inBlockS]
      refine wpS_seq M ?_
      refine wpS_cond M (v := true) (by rfl) ?_
      simp only [if_true, if_false, Bool.false_eq_true]
      refine wpS_skip M ?_
      try simp only [thenS, inBlockS]
      obtain ⟨l, hli⟩ : ∃ l, LL[i]? = some l := ⟨LL[i], List.getElem?_eq_getElem hltn⟩
      obtain ⟨v, hv, hxv⟩ := h2 i l hli
      obtain ⟨b', o', rfl, hrd⟩ := (hrow.row.mono (s' := t2.sg) (by simp)).get i v hv
      obtain ⟨la, lc, rfl, -⟩ := hxv
      simp only [List.length_map] at hrd
      refine wpS_seq M ?_
      refine wpS_block M ?_
      refine wpS_seq M ?_
      refine wpS_region M ?_
      simp only [List.size_toArray, List.length_cons, List.length_nil, Nat.reduceAdd, Nat.zero_add, List.range, List.range.loop]
      (refine opsS_look M rfl (by rfl) (fun w => by first | (simp [go_sem, hltn]; done) | fail) (fun w hs K hK => ?_); go_simp; refine hK _ ?_; clear hK K hs w; (try walk_nrm))
      refine opsS_ldR M hrd rfl (by rfl) hns (fun w hcell e he => by simp [go_sem, hcell] at he; exact ⟨_, he⟩) (fun w hcell K hK => ?_)
      go_simp
      refine hK _ ?_
      clear hK K hcell w
      try walk_nrm
      (refine opsS_look M rfl (by rfl) (fun w => by first | (simp [go_sem]; done) | fail) (fun w hs K hK => ?_); go_simp; refine hK _ ?_; clear hK K hs w; (try walk_nrm))
      refine opsS_nil M ?_
      try simp only [thenS, inBlockS]
      refine wpS_seq M ?_
      refine wpS_region M ?_
      simp only [List.size_toArray, List.length_cons, List.length_nil, Nat.reduceAdd, Nat.zero_add, List.range, List.range.loop]
      by_cases h40 : (40 : Int) < (l.length : Int)
      · (refine opsS_look M rfl (by rfl) (fun w => by first | (simp [go_sem]; done) | fail) (fun w hs K hK => ?_); go_simp; refine hK _ ?_; clear hK K hs w; (try walk_nrm))
        (refine opsS_look M rfl (by rfl) (fun w => by first | (simp [go_sem]; done) | fail) (fun w hs K hK => ?_); go_simp; refine hK _ ?_; clear hK K hs w; (try walk_nrm))
        (refine opsS_look M rfl (by rfl) (fun w => by first | (simp [go_sem]; done) | fail) (fun w hs K hK => ?_); go_simp; refine hK _ ?_; clear hK K hs w; (try walk_nrm))
        refine opsS_nil M ?_
        try simp only [thenS, inBlockS]
        refine wpS_cond M (v := true) (by rfl) ?_
        simp only [if_true, if_false, Bool.false_eq_true]
        refine wpS_seq M ?_
        refine wpS_region M ?_
        simp only [List.size_toArray, List.length_cons, List.length_nil, Nat.reduceAdd, Nat.zero_add, List.range, List.range.loop]
        (refine opsS_look M rfl (by rfl) (fun w => by first | (simp [go_sem]; done) | fail) (fun w hs K hK => ?_); go_simp; refine hK _ ?_; clear hK K hs w; (try walk_nrm))
        refine opsS_nil M ?_
        try simp only [thenS, inBlockS]
        refine wpS_ret M ?_
        exact .inl ⟨by trivial, hp _ _ hx hd rfl rfl⟩
      · (refine opsS_look M rfl (by rfl) (fun w => by first | (simp [go_sem]; done) | fail) (fun w hs K hK => ?_); go_simp; refine hK _ ?_; clear hK K hs w; (try walk_nrm))
        (refine opsS_look M rfl (by rfl) (fun w => by first | (simp [go_sem]; done) | fail) (fun w hs K hK => ?_); go_simp; refine hK _ ?_; clear hK K hs w; (try walk_nrm))
        (refine opsS_look M rfl (by rfl) (fun w => by first | (simp [go_sem]; done) | fail) (fun w hs K hK => ?_); go_simp; refine hK _ ?_; clear hK K hs w; (try walk_nrm))
        refine opsS_nil M ?_
        try simp only [thenS, inBlockS]
        refine wpS_cond M (v := false) (by rfl) ?_
        simp only [if_true, if_false, Bool.false_eq_true]
        refine wpS_skip M ?_
        try simp only [thenS, inBlockS]
        have hw1 := w1 i (by omega)
        refine wpS_region M ?_
        simp only [List.size_toArray, List.length_cons, List.length_nil, Nat.reduceAdd, Nat.zero_add, List.range, List.range.loop]
        (refine opsS_look M rfl (by rfl) (fun w => by first | (simp [go_sem]; done) | fail) (fun w hs K hK => ?_); go_simp; refine hK _ ?_; clear hK K hs w; (try walk_nrm))
        (refine opsS_look M rfl (by rfl) (fun w => by first | (simp [go_sem]; done) | fail) (fun w hs K hK => ?_); go_simp; refine hK _ ?_; clear hK K hs w; (try walk_nrm))
        refine opsS_nil M ?_
        try simp only [thenS, inBlockS]
        refine ⟨N, by omega, i + 1, by have := hi.out; omega, ?_, by simp only [Int.natCast_add, Int.natCast_one, Int.cast_ofNat_Int]; exact mkFd (by kernel_rfl), by trivial⟩
        intro x hx
        rw [List.take_add_one, hli] at hx
        rcases List.mem_append.1 hx with hx | hx
        · exact hs.out x hx
        · simp at hx
          subst hx
          omega
  · rintro e a t2 (⟨rfl, h⟩ | ⟨rfl, hl, ⟨u, rfl⟩, rfl⟩)
    · exact h
    · simp only [thenS]
      exact fill_walk hx hd hd3 hrow h2 hlen hl hr hmo u hp hq

set_option maxRecDepth 100000 in
set_option maxHeartbeats 4000000 in
theorem pumps_walk {W : World} {Post : Value → World → Prop} (hPost : ∀ s w, Sat W s w → Post (.bool true) w) (r : Nat) (hr : r ≤ 255) (mo : Int) (hmo : -32768 ≤ mo ∧ mo ≤ 32767) (LL : List (List Int)) (vs : List Value) (ra : Option Addr) (rc : Nat)
    (hrow : RowS W [] (.slice ra LL.length rc) vs) (h2 : Rows0 W vs LL) :
    wpS (CMv Try.prog W Post) 5 (Try.f5.body.getD .skip) (bodyPostS (LeaveOut Try.prog W Post 5)) ⟨#[.slice ra LL.length rc, .int .u8 r, .int .i16 mo] ++ Array.replicate (Try.f5.ntmps - 3) undef, []⟩ ⟨[], 0, .alone⟩ := by
  have M := cmoves Try.prog W Post
  have hp : ∀ (a : Act) (t : Tau CX), t.x = .alone → t.d = 0 → a.defers = [] → a.tmps.getD 6 undef = .bool true → bodyPostS (LeaveOut Try.prog W Post 5) .ret a t := fun a t h1 h2 h3 h4 =>
    leaveOut_done Try.func5 (by kernel_rfl) h1 h2 h3 (v := .bool true) (h4 ▸ resultsC_tmp (by rfl) _) fun w hw => hPost _ w hw
  have hq : ∀ (lk : Nat) (a : Act) (t : Tau CX), t.x = .alone → t.d = 0 → a.defers = [dcall 20 #[.pointer (some ⟨lk, 0, none⟩)]] → (⟨lk, .cells #[.int .i32 1, .int .u32 0] 53, true⟩ : Chunk) ∈ t.sg → a.tmps.getD 6 undef = .bool true → bodyPostS (LeaveOut Try.prog W Post 5) .ret a t := fun lk a t h1 h2 h3 h5 h4 =>
    leaveOut_defer h3 Try.func20 (by rfl) (by rfl) (dunlock_any M (fun h => h) h5 rfl) fun t' h6 =>
      leaveOut_done Try.func5 (by kernel_rfl) (by rw [h6.1.x, h1]) (by rw [h6.1.d, h2]) rfl (v := .bool true) (h4 ▸ resultsC_tmp (by rfl) _) fun w hw => hPost _ w hw
  generalize bodyPostS (LeaveOut Try.prog W Post 5) = QQ at hp hq ⊢
  show wpS _ 5 (Code.seq _ _) _ _ _
  simp only [Try.ntmps5, Nat.reduceSub, Array.replicate_succ, Array.replicate_zero, List.push_toArray, List.append_toArray, List.nil_append, List.cons_append]
  refine wpS_seq M ?_
  refine wpS_region M ?_
  simp only [List.size_toArray, List.length_cons, List.length_nil, Nat.reduceAdd, Nat.zero_add, List.range, List.range.loop]
  refine opsS_new M (.cells #[.slice ra LL.length rc] 45) rfl (by rfl) (fun w hs => by simp [go_sem]) (fun w hs K hK => ?_)
  go_simp
  refine hK _ fun t1 k1 hd3 f1 g1 => ?_
  clear hK K
  generalize w.heap.size = d3 at *
  clear hs w
  try walk_nrm
  (refine opsS_look M rfl (by rfl) (fun w => by first | (simp [go_sem]; done) | fail) (fun w hs K hK => ?_); go_simp; refine hK _ ?_; clear hK K hs w; (try walk_nrm))
  refine opsS_nil M ?_
  try simp only [thenS, inBlockS]
  refine wpS_seq M ?_
  refine wpS_seq M ?_
  refine wpS_region M ?_
  simp only [List.size_toArray, List.length_cons, List.length_nil, Nat.reduceAdd, Nat.zero_add, List.range, List.range.loop]
  refine opsS_callv M rfl (by rfl) rfl Try.func7 (by rfl) (by rfl) (speaks_any k1.x k1.d) (by (try walk_nrm) <;> rfl) ?_
  rintro v t2 ⟨rfl, k2⟩
  have hd32 := k2.all hd3
  have hx2 : t2.x = .alone := by rw [k2.x, k1.x]
  have hd2 : t2.d = 0 := by rw [k2.d, k1.d]
  have hns : ¬ cstrict t2.x := fun h => h
  clear k1 k2 hd3
  try walk_nrm
  (refine opsS_look M rfl (by rfl) (fun w => by first | (simp [go_sem]; done) | fail) (fun w hs K hK => ?_); go_simp; refine hK _ ?_; clear hK K hs w; (try walk_nrm))
  (refine opsS_look M rfl (by rfl) (fun w => by first | (simp [go_sem]; done) | fail) (fun w hs K hK => ?_); go_simp; refine hK _ ?_; clear hK K hs w; (try walk_nrm))
  refine opsS_ld M (j := 0) hd32 (by first | rfl | simp | assumption) rfl (by rfl) hns (fun w hcell e he => by simp [go_sem, hcell] at he; exact ⟨_, he⟩) (fun w hcell K hK => ?_)
  go_simp
  refine hK _ ?_
  clear hK K hcell w
  try walk_nrm
  by_cases h40 : (40 : Int) < (LL.length : Int)
  · repeat (first | (refine opsS_look M rfl (by rfl) (fun w => by first | (simp [go_sem]; done) | fail) (fun w hs K hK => ?_); go_simp; refine hK _ ?_; clear hK K hs w; (try walk_nrm)) | (refine opsS_unwanted M rfl (by rfl) ?_; (try walk_nrm)))
    refine opsS_nil M ?_
    try simp only [thenS, inBlockS]
    refine wpS_cond M (v := true) (by rfl) ?_
    simp only [if_true, if_false, Bool.false_eq_true]
    refine wpS_seq M ?_
    refine wpS_region M ?_
    simp only [List.size_toArray, List.length_cons, List.length_nil, Nat.reduceAdd, Nat.zero_add, List.range, List.range.loop]
    refine opsS_callv M rfl (by rfl) rfl Try.func7 (by rfl) (by rfl) (speaks_any hx2 hd2) (by (try walk_nrm) <;> rfl) ?_
    rintro v t3 ⟨rfl, k3⟩
    try walk_nrm
    (refine opsS_look M rfl (by rfl) (fun w => by first | (simp [go_sem]; done) | fail) (fun w hs K hK => ?_); go_simp; refine hK _ ?_; clear hK K hs w; (try walk_nrm))
    refine opsS_nil M ?_
    try simp only [thenS, inBlockS]
    refine wpS_ret M ?_
    exact hp _ _ (by rw [k3.x, hx2]) (by rw [k3.d, hd2]) rfl rfl
  · repeat (first | (refine opsS_look M rfl (by rfl) (fun w => by first | (simp [go_sem]; done) | fail) (fun w hs K hK => ?_); go_simp; refine hK _ ?_; clear hK K hs w; (try walk_nrm)) | (refine opsS_unwanted M rfl (by rfl) ?_; (try walk_nrm)))
    refine opsS_nil M ?_
    try simp only [thenS, inBlockS]
    refine wpS_cond M (v := false) (by rfl) ?_
    simp only [if_true, if_false, Bool.false_eq_true]
    refine wpS_skip M ?_
    try simp only [thenS, inBlockS]
    refine wpS_fr (fun u : Nat → Value => #[u 0, .int .u8 r, .int .i16 mo, .pointer (some ⟨d3, 0, none⟩), u 4, u 5, u 6, u 7, u 8, u 9, u 10, u 11, u 12, u 13, u 14, u 15, u 16, u 17, u 18, u 19, u 20, u 21, u 22, u 23, u 24, u 25, u 26, u 27, u 28, u 29, u 30, u 31, u 32, u 33, u 34, u 35, u 36, u 37, u 38, u 39, u 40, u 41, u 42, u 43, u 44, u 45, u 46, u 47, u 48, u 49, u 50, u 51, u 52, u 53, u 54, u 55, u 56, u 57, u 58, u 59, u 60, u 61, u 62, u 63, u 64, u 65, u 66, u 67, u 68, u 69, u 70, u 71, u 72, u 73, u 74, u 75, u 76, u 77, u 78, u 79, u 80, u 81, u 82, u 83, u 84, u 85, u 86, u 87, u 88, u 89, u 90, u 91, u 92, u 93, u 94, u 95, u 96, u 97, u 98, u 99, u 100, u 101, u 102, u 103, u 104, u 105, u 106, u 107, u 108, u 109, u 110, u 111, u 112, u 113, u 114, u 115, u 116, u 117, u 118, u 119, u 120, u 121, u 122, u 123, u 124, u 125, u 126]) (by kernel_rfl) fun u => ?_
    exact check_walk hx2 hd2 hd32 hrow h2 (by omega) hr hmo u hp hq

end Go.Proofs.Ytdmhgajamepgoaa.Q
