/-
  OWN TEXT. PIPE: the document's Same.
-/
import Derived.Test.YtdmhgajamepgoaaRo
set_option linter.unusedVariables false
set_option linter.unusedSimpArgs false
set_option linter.unusedSectionVars false
namespace Go.Proofs.Ytdmhgajamepgoaa.Q
open Go Go.Conc

theorem RD.cell {B : World} {s : List Chunk} {w : World} (h : Sat B s w) {b j : Nat} {u : Value} (hr : RD B s b j u) : w.cell? ⟨b, j, none⟩ = some u := by
  rcases hr with ⟨C, ty, own, hc, hj⟩ | ⟨C, ty, fr, hc, hj⟩
  · simp [World.cell?, h.obj hc, hj]
  · have hlt : b < B.heap.size := (Array.getElem?_eq_some_iff.1 hc).1
    simp [World.cell?, h.low b hlt, hc, hj]
theorem RD.known {B : World} {s : List Chunk} {b j : Nat} {u : Value} (hr : RD B s b j u) : Known s b ∨ b < B.heap.size := by
  rcases hr with ⟨C, ty, own, hc, hj⟩ | ⟨C, ty, fr, hc, hj⟩
  · exact .inl ⟨_, hc, rfl⟩
  · exact .inr (Array.getElem?_eq_some_iff.1 hc).1

section
variable {X : Type} {main : Bool} {B : World} {Mv : MvT X} {strict : X → Prop} (M : Moves Try.prog main B strict Mv)
include M

set_option maxRecDepth 100000 in
set_option maxHeartbeats 1000000 in
theorem same_any {t : Tau X} (hns : ¬ strict t.x) {va vb : Value} {La Lb : List Int} (ha : RowAt B t.sg va (La.map iv)) (hb : RowAt B t.sg vb (Lb.map iv)) (hla : La.length < 9223372036854775807) (hlb : Lb.length < 9223372036854775807) :
    CallsS Mv Try.prog 17 #[va, vb] t fun v t' => v = .bool (decide (La = Lb)) ∧ t' = t := by
  obtain ⟨xa, ca, rfl, ha⟩ := ha
  obtain ⟨xb, cb, rfl, hb⟩ := hb
  simp only [List.length_map]
  refine callsS_of M Try.func17 (by rfl) ?_
  simp only [Try.ntmps17, List.size_toArray, List.length_cons, List.length_nil, Nat.reduceAdd, Nat.reduceSub, Array.replicate_succ, Array.replicate_zero, List.push_toArray, List.append_toArray, List.nil_append, List.cons_append]
  refine wpS_seq M ?_
  refine wpS_region M ?_
  simp only [List.size_toArray, List.length_cons, List.length_nil, Nat.reduceAdd, Nat.zero_add, List.range, List.range.loop]
  (refine opsS_look M rfl (by rfl) (fun w => by first | (simp [go_sem]; done) | fail) (fun w hs K hK => ?_); go_simp; refine hK _ ?_; clear hK K hs w; (try walk_nrm))
  refine opsS_nil M ?_
  try simp only [thenS, inBlockS]
  refine wpS_seq M ?_
  refine wpS_seq M ?_
  by_cases hl : La.length = Lb.length
  · have hl' : ((La.length : Int) = (Lb.length : Int)) := by omega
    replace hl := Hid.mk hl
    refine wpS_region M ?_
    simp only [List.size_toArray, List.length_cons, List.length_nil, Nat.reduceAdd, Nat.zero_add, List.range, List.range.loop]
    (refine opsS_look M rfl (by rfl) (fun w => by first | (simp [go_sem]; done) | fail) (fun w hs K hK => ?_); go_simp; refine hK _ ?_; clear hK K hs w; (try walk_nrm))
    (refine opsS_look M rfl (by rfl) (fun w => by first | (simp [go_sem]; done) | fail) (fun w hs K hK => ?_); go_simp; refine hK _ ?_; clear hK K hs w; (try walk_nrm))
    (refine opsS_look M rfl (by rfl) (fun w => by first | (simp [go_sem]; done) | fail) (fun w hs K hK => ?_); go_simp; refine hK _ ?_; clear hK K hs w; (try walk_nrm))
    (refine opsS_look M rfl (by rfl) (fun w => by first | (simp [go_sem]; done) | fail) (fun w hs K hK => ?_); go_simp; refine hK _ ?_; clear hK K hs w; (try walk_nrm))
    (refine opsS_look M rfl (by rfl) (fun w => by first | (simp [go_sem]; done) | fail) (fun w hs K hK => ?_); go_simp; refine hK _ ?_; clear hK K hs w; (try walk_nrm))
    refine opsS_nil M ?_
    try simp only [thenS, inBlockS]
    refine wpS_cond M (v := false) (by rfl) ?_
    simp only [if_true, if_false, Bool.false_eq_true]
    refine wpS_skip M ?_
    try simp only [thenS, inBlockS]
    replace hl' := Hid.mk hl'
    refine wpS_seq M ?_
    refine wpS_seq M ?_
    refine wpS_region M ?_
    simp only [List.size_toArray, List.length_cons, List.length_nil, Nat.reduceAdd, Nat.zero_add, List.range, List.range.loop]
    (refine opsS_look M rfl (by rfl) (fun w => by first | (simp [go_sem]; done) | fail) (fun w hs K hK => ?_); go_simp; refine hK _ ?_; clear hK K hs w; (try walk_nrm))
    refine opsS_nil M ?_
    try simp only [thenS, inBlockS]
    refine wpS_block M ?_
    refine wpS_loopN M (I := fun n a t' => ∃ i, i + n = La.length ∧ La.take i = Lb.take i ∧ (∃ u2 u3 u4 u6 u7 u8 u9 u10 u11 u12 u13 u14 u15 u16 u17 u18 u19 u20 u21 u22 u23 u24 u25, a = ⟨#[.slice xa La.length ca, .slice xb Lb.length cb, u2, u3, u4, .int .i64 i, u6, u7, u8, u9, u10, u11, u12, u13, u14, u15, u16, u17, u18, u19, u20, u21, u22, u23, u24, u25], []⟩) ∧ t' = t) La.length ⟨0, by omega, by simp, ⟨_, _, _, _, _, _, _, _, _, _, _, _, _, _, _, _, _, _, _, _, _, _, _, by rfl⟩, rfl⟩ ?_
    rintro n a t' ⟨i, hi, htk, ⟨u2, u3, u4, u6, u7, u8, u9, u10, u11, u12, u13, u14, u15, u16, u17, u18, u19, u20, u21, u22, u23, u24, u25, rfl⟩, rfl⟩
    replace hi := Hid.mk hi
    replace htk := Hid.mk htk
    refine wpS_seq M ?_
    refine wpS_seq M ?_
    refine wpS_region M ?_
    simp only [List.size_toArray, List.length_cons, List.length_nil, Nat.reduceAdd, Nat.zero_add, List.range, List.range.loop]
    cases n with
    | zero =>
      have hlt : ¬ ((i : Int) < (La.length : Int)) := by have := hi.out; omega
      (refine opsS_look M rfl (by rfl) (fun w => by first | (simp [go_sem]; done) | fail) (fun w hs K hK => ?_); go_simp; refine hK _ ?_; clear hK K hs w; (try walk_nrm))
      (refine opsS_look M rfl (by rfl) (fun w => by first | (simp [go_sem]; done) | fail) (fun w hs K hK => ?_); go_simp; refine hK _ ?_; clear hK K hs w; (try walk_nrm))
      (refine opsS_look M rfl (by rfl) (fun w => by first | (simp [go_sem]; done) | fail) (fun w hs K hK => ?_); go_simp; refine hK _ ?_; clear hK K hs w; (try walk_nrm))
      (refine opsS_look M rfl (by rfl) (fun w => by first | (simp [go_sem]; done) | fail) (fun w hs K hK => ?_); go_simp; refine hK _ ?_; clear hK K hs w; (try walk_nrm))
      refine opsS_nil M ?_
      try simp only [thenS, inBlockS]
      refine wpS_cond M (v := false) (by rfl) ?_
      simp only [if_true, if_false, Bool.false_eq_true]
      refine wpS_exit M ?_
      try simp only [thenS, inBlockS, if_true, if_false, eq_self, reduceIte, Nat.reduceEqDiff, OfNat.ofNat_ne_ofNat, OfNat.ofNat_ne_zero, OfNat.zero_ne_ofNat, Nat.zero_ne_one, Nat.one_ne_zero, OfNat.ofNat_ne_one, OfNat.one_ne_ofNat]
      refine wpS_seq M ?_
      refine wpS_region M ?_
      simp only [List.size_toArray, List.length_cons, List.length_nil, Nat.reduceAdd, Nat.zero_add, List.range, List.range.loop]
      (refine opsS_look M rfl (by rfl) (fun w => by first | (simp [go_sem]; done) | fail) (fun w hs K hK => ?_); go_simp; refine hK _ ?_; clear hK K hs w; (try walk_nrm))
      refine opsS_nil M ?_
      try simp only [thenS, inBlockS]
      refine wpS_ret M ?_
      refine leaveS_done M rfl Try.func17 (resultsC_tmp (by rfl) _) ⟨?_, rfl⟩
      have e1 := hi.out
      have e2 := htk.out
      have e3 := hl.out
      rw [List.take_of_length_le (by omega), List.take_of_length_le (by omega)] at e2
      simp [e2]
    | succ n =>
      have hlt : (i : Int) < (La.length : Int) := by have := hi.out; omega
      have hltn : i < La.length := by have := hi.out; omega
      have hltm : i < Lb.length := by have := hi.out; have := hl.out; omega
      (refine opsS_look M rfl (by rfl) (fun w => by first | (simp [go_sem]; done) | fail) (fun w hs K hK => ?_); go_simp; refine hK _ ?_; clear hK K hs w; (try walk_nrm))
      (refine opsS_look M rfl (by rfl) (fun w => by first | (simp [go_sem]; done) | fail) (fun w hs K hK => ?_); go_simp; refine hK _ ?_; clear hK K hs w; (try walk_nrm))
      (refine opsS_look M rfl (by rfl) (fun w => by first | (simp [go_sem]; done) | fail) (fun w hs K hK => ?_); go_simp; refine hK _ ?_; clear hK K hs w; (try walk_nrm))
      (refine opsS_look M rfl (by rfl) (fun w => by first | (simp [go_sem]; done) | fail) (fun w hs K hK => ?_); go_simp; refine hK _ ?_; clear hK K hs w; (try walk_nrm))
      refine opsS_nil M ?_
      try simp only [thenS, inBlockS]
      refine wpS_cond M (v := true) (by rfl) ?_
      simp only [if_true, if_false, Bool.false_eq_true]
      refine wpS_skip M ?_
      try simp only [thenS, inBlockS]
      refine wpS_seq M ?_
      refine wpS_block M ?_
      refine wpS_seq M ?_
      obtain ⟨x, hx⟩ : ∃ x, La[i]? = some x := ⟨La[i], by simp [hltn]⟩
      obtain ⟨y, hy⟩ : ∃ y, Lb[i]? = some y := ⟨Lb[i], by simp [hltm]⟩
      obtain ⟨b, o, rfl, hra⟩ := ha i (iv x) (by simp [hx])
      obtain ⟨b', o', rfl, hrb⟩ := hb i (iv y) (by simp [hy])
      refine wpS_region_read M hns (by kernel_rfl) ?_
      simp only [List.size_toArray, List.length_cons, List.length_nil, Nat.reduceAdd, Nat.zero_add]
      refine anyR_take (i := 0) (v := .slice (some ⟨b, o, none⟩) La.length ca) rfl (by kernel_rfl) (by kernel_rfl) (by kernel_rfl) (.inl ⟨by rfl, fun w hs => ⟨run_eq_of (fun K hK => ?_), fun e he => ?_⟩⟩) ?_
      · go_simp
        exact hK
      · exfalso
        have hm := mem_listed he
        simp [go_sem] at hm
      try walk_nrm
      refine anyR_take (i := 1) (v := .int .i64 i) rfl (by kernel_rfl) (by kernel_rfl) (by kernel_rfl) (.inl ⟨by rfl, fun w hs => ⟨run_eq_of (fun K hK => ?_), fun e he => ?_⟩⟩) ?_
      · go_simp
        exact hK
      · exfalso
        have hm := mem_listed he
        simp [go_sem] at hm
      try walk_nrm
      refine anyR_take (i := 2) (v := .pointer (some ⟨b, o + i, none⟩)) rfl (by kernel_rfl) (by kernel_rfl) (by kernel_rfl) (.inl ⟨by rfl, fun w hs => ⟨run_eq_of (fun K hK => ?_), fun e he => ?_⟩⟩) ?_
      · go_simp
        exact hK
      · exfalso
        have hm := mem_listed he
        simp [go_sem, hltn] at hm
      try walk_nrm
      refine anyR_take (i := 3) (v := iv x) rfl (by kernel_rfl) (by kernel_rfl) (by kernel_rfl) (.inl ⟨by rfl, fun w hs => ⟨run_eq_of (fun K hK => ?_), fun e he => ?_⟩⟩) ?_
      · have hcell := RD.cell hs hra
        go_simp
        exact hK
      · have hcell := RD.cell hs hra
        have hm := mem_listed he
        simp [go_sem, hcell] at hm
        subst hm
        exact ⟨.read _ (RD.known hra), by simp, by simp⟩
      try walk_nrm
      by_cases hxy : x = y
      · subst hxy
        refine anyR_take (i := 4) (v := .slice (some ⟨b', o', none⟩) Lb.length cb) rfl (by kernel_rfl) (by kernel_rfl) (by kernel_rfl) (.inl ⟨by rfl, fun w hs => ⟨run_eq_of (fun K hK => ?_), fun e he => ?_⟩⟩) ?_
        · go_simp
          exact hK
        · exfalso
          have hm := mem_listed he
          simp [go_sem] at hm
        try walk_nrm
        refine anyR_take (i := 5) (v := .int .i64 i) rfl (by kernel_rfl) (by kernel_rfl) (by kernel_rfl) (.inl ⟨by rfl, fun w hs => ⟨run_eq_of (fun K hK => ?_), fun e he => ?_⟩⟩) ?_
        · go_simp
          exact hK
        · exfalso
          have hm := mem_listed he
          simp [go_sem] at hm
        try walk_nrm
        refine anyR_take (i := 6) (v := .pointer (some ⟨b', o' + i, none⟩)) rfl (by kernel_rfl) (by kernel_rfl) (by kernel_rfl) (.inl ⟨by rfl, fun w hs => ⟨run_eq_of (fun K hK => ?_), fun e he => ?_⟩⟩) ?_
        · go_simp
          exact hK
        · exfalso
          have hm := mem_listed he
          simp [go_sem, hltm] at hm
        try walk_nrm
        refine anyR_take (i := 7) (v := iv x) rfl (by kernel_rfl) (by kernel_rfl) (by kernel_rfl) (.inl ⟨by rfl, fun w hs => ⟨run_eq_of (fun K hK => ?_), fun e he => ?_⟩⟩) ?_
        · have hcell := RD.cell hs hrb
          go_simp
          exact hK
        · have hcell := RD.cell hs hrb
          have hm := mem_listed he
          simp [go_sem, hcell] at hm
          subst hm
          exact ⟨.read _ (RD.known hrb), by simp, by simp⟩
        try walk_nrm
        simp only [iv]
        refine anyR_take (i := 8) (v := .bool false) rfl (by kernel_rfl) (by kernel_rfl) (by kernel_rfl) (.inl ⟨by rfl, fun w hs => ⟨run_eq_of (fun K hK => ?_), fun e he => ?_⟩⟩) ?_
        · go_simp
          exact hK
        · exfalso
          have hm := mem_listed he
          simp [go_sem] at hm
        try walk_nrm
        refine anyR_done (by kernel_rfl) ?_ _
        simp only [thenS]
        refine wpS_cond M (v := false) (by rfl) ?_
        simp only [if_true, if_false, Bool.false_eq_true]
        refine wpS_skip M ?_
        try simp only [thenS, inBlockS]
        have hw1 := w1 i (by omega)
        refine wpS_region M ?_
        simp only [List.size_toArray, List.length_cons, List.length_nil, Nat.reduceAdd, Nat.zero_add, List.range, List.range.loop]
        (refine opsS_look M rfl (by rfl) (fun w => by first | (simp [go_sem]; done) | fail) (fun w hs K hK => ?_); go_simp; refine hK _ ?_; clear hK K hs w; (try walk_nrm))
        (refine opsS_look M rfl (by rfl) (fun w => by first | (simp [go_sem]; done) | fail) (fun w hs K hK => ?_); go_simp; refine hK _ ?_; clear hK K hs w; (try walk_nrm))
        (refine opsS_look M rfl (by rfl) (fun w => by first | (simp [go_sem]; done) | fail) (fun w hs K hK => ?_); go_simp; refine hK _ ?_; clear hK K hs w; (try walk_nrm))
        refine opsS_nil M ?_
        try simp only [thenS, inBlockS]
        refine ⟨n, by omega, i + 1, by have := hi.out; omega, ?_, ⟨_, _, _, _, _, _, _, _, _, _, _, _, _, _, _, _, _, _, _, _, _, _, _, by simp only [Int.natCast_add, Int.natCast_one, Int.cast_ofNat_Int]; rfl⟩, by trivial⟩
        rw [List.take_add_one, List.take_add_one, hx, hy, htk.out]
      · simp only [iv]
        refine anyR_take (i := 4) (v := .slice (some ⟨b', o', none⟩) Lb.length cb) rfl (by kernel_rfl) (by kernel_rfl) (by kernel_rfl) (.inl ⟨by rfl, fun w hs => ⟨run_eq_of (fun K hK => ?_), fun e he => ?_⟩⟩) ?_
        · go_simp
          exact hK
        · exfalso
          have hm := mem_listed he
          simp [go_sem] at hm
        try walk_nrm
        refine anyR_take (i := 5) (v := .int .i64 i) rfl (by kernel_rfl) (by kernel_rfl) (by kernel_rfl) (.inl ⟨by rfl, fun w hs => ⟨run_eq_of (fun K hK => ?_), fun e he => ?_⟩⟩) ?_
        · go_simp
          exact hK
        · exfalso
          have hm := mem_listed he
          simp [go_sem] at hm
        try walk_nrm
        refine anyR_take (i := 6) (v := .pointer (some ⟨b', o' + i, none⟩)) rfl (by kernel_rfl) (by kernel_rfl) (by kernel_rfl) (.inl ⟨by rfl, fun w hs => ⟨run_eq_of (fun K hK => ?_), fun e he => ?_⟩⟩) ?_
        · go_simp
          exact hK
        · exfalso
          have hm := mem_listed he
          simp [go_sem, hltm] at hm
        try walk_nrm
        refine anyR_take (i := 7) (v := .int .i64 y) rfl (by kernel_rfl) (by kernel_rfl) (by kernel_rfl) (.inl ⟨by rfl, fun w hs => ⟨run_eq_of (fun K hK => ?_), fun e he => ?_⟩⟩) ?_
        · have hcell := RD.cell hs hrb
          go_simp
          exact hK
        · have hcell := RD.cell hs hrb
          have hm := mem_listed he
          simp [go_sem, hcell] at hm
          subst hm
          exact ⟨.read _ (RD.known hrb), by simp, by simp⟩
        try walk_nrm
        have hne : (x != y) = true := by simp [hxy]
        refine anyR_take (i := 8) (v := .bool true) rfl (by kernel_rfl) (by kernel_rfl) (by kernel_rfl) (.inl ⟨by rfl, fun w hs => ⟨run_eq_of (fun K hK => ?_), fun e he => ?_⟩⟩) ?_
        · go_simp
          exact hK
        · exfalso
          have hm := mem_listed he
          simp [go_sem] at hm
        try walk_nrm
        refine anyR_done (by kernel_rfl) ?_ _
        simp only [thenS]
        refine wpS_cond M (v := true) (by rfl) ?_
        simp only [if_true, if_false, Bool.false_eq_true]
        refine wpS_seq M ?_
        refine wpS_region M ?_
        simp only [List.size_toArray, List.length_cons, List.length_nil, Nat.reduceAdd, Nat.zero_add, List.range, List.range.loop]
        (refine opsS_look M rfl (by rfl) (fun w => by first | (simp [go_sem]; done) | fail) (fun w hs K hK => ?_); go_simp; refine hK _ ?_; clear hK K hs w; (try walk_nrm))
        refine opsS_nil M ?_
        try simp only [thenS, inBlockS]
        refine wpS_ret M ?_
        simp only [thenS, inBlockS, bodyPostS]
        refine leaveS_done M rfl Try.func17 (resultsC_tmp (by rfl) _) ⟨?_, by trivial⟩
        have : La ≠ Lb := fun e => by subst e; rw [hx] at hy; exact hxy (Option.some.inj hy)
        simp [this]
  · have hl' : ((La.length : Int) != (Lb.length : Int)) = true := by simp; omega
    refine wpS_region M ?_
    simp only [List.size_toArray, List.length_cons, List.length_nil, Nat.reduceAdd, Nat.zero_add, List.range, List.range.loop]
    (refine opsS_look M rfl (by rfl) (fun w => by first | (simp [go_sem]; done) | fail) (fun w hs K hK => ?_); go_simp; refine hK _ ?_; clear hK K hs w; (try walk_nrm))
    (refine opsS_look M rfl (by rfl) (fun w => by first | (simp [go_sem]; done) | fail) (fun w hs K hK => ?_); go_simp; refine hK _ ?_; clear hK K hs w; (try walk_nrm))
    (refine opsS_look M rfl (by rfl) (fun w => by first | (simp [go_sem]; done) | fail) (fun w hs K hK => ?_); go_simp; refine hK _ ?_; clear hK K hs w; (try walk_nrm))
    (refine opsS_look M rfl (by rfl) (fun w => by first | (simp [go_sem]; done) | fail) (fun w hs K hK => ?_); go_simp; refine hK _ ?_; clear hK K hs w; (try walk_nrm))
    (refine opsS_look M rfl (by rfl) (fun w => by first | (simp [go_sem]; done) | fail) (fun w hs K hK => ?_); go_simp; refine hK _ ?_; clear hK K hs w; (try walk_nrm))
    refine opsS_nil M ?_
    try simp only [thenS, inBlockS]
    refine wpS_cond M (v := true) (by rfl) ?_
    simp only [if_true, if_false, Bool.false_eq_true]
    refine wpS_seq M ?_
    refine wpS_region M ?_
    simp only [List.size_toArray, List.length_cons, List.length_nil, Nat.reduceAdd, Nat.zero_add, List.range, List.range.loop]
    (refine opsS_look M rfl (by rfl) (fun w => by first | (simp [go_sem]; done) | fail) (fun w hs K hK => ?_); go_simp; refine hK _ ?_; clear hK K hs w; (try walk_nrm))
    refine opsS_nil M ?_
    try simp only [thenS, inBlockS]
    refine wpS_ret M ?_
    refine leaveS_done M rfl Try.func17 (resultsC_tmp (by rfl) _) ⟨?_, rfl⟩
    have : La ≠ Lb := fun e => hl (by rw [e])
    simp [this]
end

end Go.Proofs.Ytdmhgajamepgoaa.Q
