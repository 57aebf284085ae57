/-
  OWN TEXT. PIPE: sync.WaitGroup's Wait, as the caller comes to it.
-/
import Derived.Test.YtdmhgajamepgoaaRk
set_option linter.unusedVariables false
set_option linter.unusedSimpArgs false
set_option linter.unusedSectionVars false
namespace Go.Proofs.Ytdmhgajamepgoaa.Q
open Go Go.Conc

set_option maxRecDepth 100000 in
set_option maxHeartbeats 4000000 in
theorem wait_any {B : World} {Post : Value → World → Prop} {p : PRec} {r : Nat} (sg : List Chunk) : CallsS (CMv Try.prog B Post) Try.prog 28 #[.pointer (some ⟨p.G, 0, none⟩)] ⟨sg, 0, .pump p r .shut⟩ fun _ t' =>
    ∃ s sw, r ≤ s ∧ s ≤ p.All.length ∧ p.Fin s sw ∧ ((sg ++ sw).map Chunk.b).Nodup ∧ (∀ c ∈ sw, c.own = true) ∧ t' = ⟨sg ++ sw, 0, .alone⟩ := by
  have M := cmoves Try.prog B Post
  refine callsS_of M Try.func28 (by rfl) ?_
  simp only [Try.ntmps28, List.size_toArray, List.length_cons, List.length_nil, Nat.reduceAdd, Nat.reduceSub, Array.replicate_succ, Array.replicate_zero, List.push_toArray, List.append_toArray, List.nil_append, List.cons_append]
  refine wpS_seq M ?_
  refine wpS_cond M (v := true) (by rfl) ?_
  simp only [if_true, if_false, Bool.false_eq_true]
  refine wpS_region M ?_
  simp only [List.size_toArray, List.length_cons, List.length_nil, Nat.reduceAdd, Nat.zero_add, List.range, List.range.loop]
  refine opsS_disable M rfl (by rfl) rfl Try.func32 (by rfl) (by rfl) (by rfl) (by kernel_rfl) ?_
  try walk_nrm
  refine opsS_nil M ?_
  try simp only [thenS, inBlockS]
  refine wpS_block M ?_
  refine wpS_loopN M (I := fun n a t => ((n = 1 ∧ t = ⟨sg, 1, .pump p r .shut⟩) ∨ (n = 0 ∧ t = ⟨sg, 1, .pump p r .shut0⟩)) ∧ (∃ u1 u2 u3 u4 u5 u6 u7 u8 u9 u10 u11 u12 u13 u14 u15 u16 u17 u18 u19 u20 u21 u22 u23 u24 u25 u26 u27 u28 u29 u30 u31 u32 u33 u34 u35 u36 u37 u38 u39 u40 u41 u42 u43 u44 u45 u46 u47 u48 u49 u50 u51 u52 u53 u54 u55 u56 u57 u58 u59 u60 u61 u62 u63 u64 u65 u66 u67 u68 u69 u70 u71 u72 u73 u74 u75 u76 u77 u78 u79 u80 u81 u82 u83, a = ⟨#[.pointer (some ⟨p.G, 0, none⟩), u1, u2, u3, u4, u5, u6, u7, u8, u9, u10, u11, u12, u13, u14, u15, u16, u17, u18, u19, u20, u21, u22, u23, u24, u25, u26, u27, u28, u29, u30, u31, u32, u33, u34, u35, u36, u37, u38, u39, u40, u41, u42, u43, u44, u45, u46, u47, u48, u49, u50, u51, u52, u53, u54, u55, u56, u57, u58, u59, u60, u61, u62, u63, u64, u65, u66, u67, u68, u69, u70, u71, u72, u73, u74, u75, u76, u77, u78, u79, u80, u81, u82, u83], []⟩)) 1 ⟨.inl ⟨rfl, rfl⟩, _, _, _, _, _, _, _, _, _, _, _, _, _, _, _, _, _, _, _, _, _, _, _, _, _, _, _, _, _, _, _, _, _, _, _, _, _, _, _, _, _, _, _, _, _, _, _, _, _, _, _, _, _, _, _, _, _, _, _, _, _, _, _, _, _, _, _, _, _, _, _, _, _, _, _, _, _, _, _, _, _, _, _, by rfl⟩ ?_
  rintro n a t ⟨hcase, u1, u2, u3, u4, u5, u6, u7, u8, u9, u10, u11, u12, u13, u14, u15, u16, u17, u18, u19, u20, u21, u22, u23, u24, u25, u26, u27, u28, u29, u30, u31, u32, u33, u34, u35, u36, u37, u38, u39, u40, u41, u42, u43, u44, u45, u46, u47, u48, u49, u50, u51, u52, u53, u54, u55, u56, u57, u58, u59, u60, u61, u62, u63, u64, u65, u66, u67, u68, u69, u70, u71, u72, u73, u74, u75, u76, u77, u78, u79, u80, u81, u82, u83, rfl⟩
  rcases hcase with ⟨rfl, rfl⟩ | ⟨rfl, rfl⟩
  · refine wpS_block M ?_
    refine wpS_seq M ?_
    refine wpS_region M ?_
    simp only [List.size_toArray, List.length_cons, List.length_nil, Nat.reduceAdd, Nat.zero_add, List.range, List.range.loop]
    (refine opsS_look M rfl (by rfl) (fun w => by first | (simp [go_sem]; done) | fail) (fun w hs K hK => ?_); go_simp; refine hK _ ?_; clear hK K hs w; (try walk_nrm))
    (refine opsS_look M rfl (by rfl) (fun w => by first | (simp [go_sem]; done) | fail) (fun w hs K hK => ?_); go_simp; refine hK _ ?_; clear hK K hs w; (try walk_nrm))
    (refine opsS_look M rfl (by rfl) (fun w => by first | (simp [go_sem]; done) | fail) (fun w hs K hK => ?_); go_simp; refine hK _ ?_; clear hK K hs w; (try walk_nrm))
    refine opsS_callv M rfl (by rfl) rfl Try.func40 (by rfl) (by rfl) (uload_shut (r := r) rfl) (by walk_nrm) ?_
    rintro v t1 (⟨rfl, rfl⟩ | ⟨rfl, rfl⟩)
    · try walk_nrm
      (refine opsS_look M rfl (by rfl) (fun w => by first | (simp [go_sem]; done) | fail) (fun w hs K hK => ?_); go_simp; refine hK _ ?_; clear hK K hs w; (try walk_nrm))
      refine opsS_nil M ?_
      try simp only [thenS, inBlockS]
      refine wpS_seq M ?_
      refine wpS_region M ?_
      simp only [List.size_toArray, List.length_cons, List.length_nil, Nat.reduceAdd, Nat.zero_add, List.range, List.range.loop]
      repeat (first | (refine opsS_look M rfl (by rfl) (fun w => by first | (simp [go_sem]; done) | fail) (fun w hs K hK => ?_); go_simp; refine hK _ ?_; clear hK K hs w; (try walk_nrm); (try simp only [IntKind.wrap_u64, IntKind.wrap_u32, IntKind.wrap_i32, Int.reduceMul, Int.reduceMod, Int.reduceAdd, Int.reduceSub, Int.reduceDiv, Int.reducePow, Int.reduceNeg, Int.zero_add, Int.add_zero, Int.one_mul, nb0, nb1, nb2, nb3, nc0, nc1, nc2, nc3])) | (refine opsS_unwanted M rfl (by rfl) ?_; (try walk_nrm)))
      refine opsS_nil M ?_
      try simp only [thenS, inBlockS]
      refine wpS_seq M ?_
      refine wpS_region M ?_
      simp only [List.size_toArray, List.length_cons, List.length_nil, Nat.reduceAdd, Nat.zero_add, List.range, List.range.loop]
      repeat (first | (refine opsS_look M rfl (by rfl) (fun w => by first | (simp [go_sem]; done) | fail) (fun w hs K hK => ?_); go_simp; refine hK _ ?_; clear hK K hs w; (try walk_nrm); (try simp only [IntKind.wrap_u64, IntKind.wrap_u32, IntKind.wrap_i32, Int.reduceMul, Int.reduceMod, Int.reduceAdd, Int.reduceSub, Int.reduceDiv, Int.reducePow, Int.reduceNeg, Int.zero_add, Int.add_zero, Int.one_mul, nb0, nb1, nb2, nb3, nc0, nc1, nc2, nc3])) | (refine opsS_unwanted M rfl (by rfl) ?_; (try walk_nrm)))
      refine opsS_nil M ?_
      try simp only [thenS, inBlockS]
      refine wpS_seq M ?_
      refine wpS_seq M ?_
      refine wpS_region M ?_
      simp only [List.size_toArray, List.length_cons, List.length_nil, Nat.reduceAdd, Nat.zero_add, List.range, List.range.loop]
      repeat (first | (refine opsS_look M rfl (by rfl) (fun w => by first | (simp [go_sem]; done) | fail) (fun w hs K hK => ?_); go_simp; refine hK _ ?_; clear hK K hs w; (try walk_nrm); (try simp only [IntKind.wrap_u64, IntKind.wrap_u32, IntKind.wrap_i32, Int.reduceMul, Int.reduceMod, Int.reduceAdd, Int.reduceSub, Int.reduceDiv, Int.reducePow, Int.reduceNeg, Int.zero_add, Int.add_zero, Int.one_mul, nb0, nb1, nb2, nb3, nc0, nc1, nc2, nc3])) | (refine opsS_unwanted M rfl (by rfl) ?_; (try walk_nrm)))
      refine opsS_nil M ?_
      try simp only [thenS, inBlockS]
      refine wpS_cond M (v := false) (by rfl) ?_
      simp only [if_true, if_false, Bool.false_eq_true]
      refine wpS_skip M ?_
      try simp only [thenS, inBlockS]
      refine wpS_seq M ?_
      refine wpS_region M ?_
      simp only [List.size_toArray, List.length_cons, List.length_nil, Nat.reduceAdd, Nat.zero_add, List.range, List.range.loop]
      repeat (first | (refine opsS_look M rfl (by rfl) (fun w => by first | (simp [go_sem]; done) | fail) (fun w hs K hK => ?_); go_simp; refine hK _ ?_; clear hK K hs w; (try walk_nrm); (try simp only [IntKind.wrap_u64, IntKind.wrap_u32, IntKind.wrap_i32, Int.reduceMul, Int.reduceMod, Int.reduceAdd, Int.reduceSub, Int.reduceDiv, Int.reducePow, Int.reduceNeg, Int.zero_add, Int.add_zero, Int.one_mul, nb0, nb1, nb2, nb3, nc0, nc1, nc2, nc3])) | (refine opsS_unwanted M rfl (by rfl) ?_; (try walk_nrm)))
      refine opsS_callv M rfl (by rfl) rfl Try.func46 (by rfl) (by rfl) (ucas_shut (r := r) rfl) (by walk_nrm) ?_
      rintro v t1 (⟨rfl, rfl⟩ | ⟨rfl, rfl⟩)
      · try walk_nrm
        refine opsS_nil M ?_
        try simp only [thenS, inBlockS]
        refine wpS_cond M (v := true) (by rfl) ?_
        simp only [if_true, if_false, Bool.false_eq_true]
        refine wpS_seq M ?_
        refine wpS_seq M ?_
        refine wpS_region M ?_
        simp only [List.size_toArray, List.length_cons, List.length_nil, Nat.reduceAdd, Nat.zero_add, List.range, List.range.loop]
        repeat (first | (refine opsS_look M rfl (by rfl) (fun w => by first | (simp [go_sem]; done) | fail) (fun w hs K hK => ?_); go_simp; refine hK _ ?_; clear hK K hs w; (try walk_nrm); (try simp only [IntKind.wrap_u64, IntKind.wrap_u32, IntKind.wrap_i32, Int.reduceMul, Int.reduceMod, Int.reduceAdd, Int.reduceSub, Int.reduceDiv, Int.reducePow, Int.reduceNeg, Int.zero_add, Int.add_zero, Int.one_mul, nb0, nb1, nb2, nb3, nc0, nc1, nc2, nc3])) | (refine opsS_unwanted M rfl (by rfl) ?_; (try walk_nrm)))
        refine opsS_nil M ?_
        try simp only [thenS, inBlockS]
        refine wpS_cond M (v := true) (by rfl) ?_
        simp only [if_true, if_false, Bool.false_eq_true]
        refine wpS_region M ?_
        simp only [List.size_toArray, List.length_cons, List.length_nil, Nat.reduceAdd, Nat.zero_add, List.range, List.range.loop]
        (refine opsS_look M rfl (by rfl) (fun w => by first | (simp [go_sem]; done) | fail) (fun w hs K hK => ?_); go_simp; refine hK _ ?_; clear hK K hs w; (try walk_nrm))
        (refine opsS_look M rfl (by rfl) (fun w => by first | (simp [go_sem]; done) | fail) (fun w hs K hK => ?_); go_simp; refine hK _ ?_; clear hK K hs w; (try walk_nrm))
        (refine opsS_look M rfl (by rfl) (fun w => by first | (simp [go_sem]; done) | fail) (fun w hs K hK => ?_); go_simp; refine hK _ ?_; clear hK K hs w; (try walk_nrm))
        refine opsC_unsafe (j := 1) (by omega) rfl (by simp) rfl (by rfl) rfl (tt := 49) (by rfl) (by rfl) (by rfl) rfl ?_
        try walk_nrm
        refine opsC_said rfl (by rfl) rfl Try.func47 (by rfl) (by rfl) (by rfl) rfl (by kernel_rfl) (by walk_nrm) ?_
        try walk_nrm
        refine opsS_nil M ?_
        try simp only [thenS, inBlockS]
        refine wpS_seq M ?_
        refine wpS_region M ?_
        simp only [List.size_toArray, List.length_cons, List.length_nil, Nat.reduceAdd, Nat.zero_add, List.range, List.range.loop]
        (refine opsS_look M rfl (by rfl) (fun w => by first | (simp [go_sem]; done) | fail) (fun w hs K hK => ?_); go_simp; refine hK _ ?_; clear hK K hs w; (try walk_nrm))
        refine opsS_nil M ?_
        try simp only [thenS, inBlockS]
        refine wpS_seq M ?_
        refine wpS_seq M ?_
        refine wpS_region M ?_
        simp only [List.size_toArray, List.length_cons, List.length_nil, Nat.reduceAdd, Nat.zero_add, List.range, List.range.loop]
        repeat (first | (refine opsS_look M rfl (by rfl) (fun w => by first | (simp [go_sem]; done) | fail) (fun w hs K hK => ?_); go_simp; refine hK _ ?_; clear hK K hs w; (try walk_nrm); (try simp only [IntKind.wrap_u64, IntKind.wrap_u32, IntKind.wrap_i32, Int.reduceMul, Int.reduceMod, Int.reduceAdd, Int.reduceSub, Int.reduceDiv, Int.reducePow, Int.reduceNeg, Int.zero_add, Int.add_zero, Int.one_mul, nb0, nb1, nb2, nb3, nc0, nc1, nc2, nc3])) | (refine opsS_unwanted M rfl (by rfl) ?_; (try walk_nrm)))
        refine opsS_nil M ?_
        try simp only [thenS, inBlockS]
        refine wpS_cond M (v := false) (by rfl) ?_
        simp only [if_true, if_false, Bool.false_eq_true]
        refine wpS_skip M ?_
        try simp only [thenS, inBlockS]
        refine wpS_seq M ?_
        refine wpS_region M ?_
        simp only [List.size_toArray, List.length_cons, List.length_nil, Nat.reduceAdd, Nat.zero_add, List.range, List.range.loop]
        repeat (first | (refine opsS_look M rfl (by rfl) (fun w => by first | (simp [go_sem]; done) | fail) (fun w hs K hK => ?_); go_simp; refine hK _ ?_; clear hK K hs w; (try walk_nrm); (try simp only [IntKind.wrap_u64, IntKind.wrap_u32, IntKind.wrap_i32, Int.reduceMul, Int.reduceMod, Int.reduceAdd, Int.reduceSub, Int.reduceDiv, Int.reducePow, Int.reduceNeg, Int.zero_add, Int.add_zero, Int.one_mul, nb0, nb1, nb2, nb3, nc0, nc1, nc2, nc3])) | (refine opsS_unwanted M rfl (by rfl) ?_; (try walk_nrm)))
        refine opsC_sem rfl (by rfl) rfl Try.func48 (by rfl) (by rfl) (by rfl) rfl (by kernel_rfl) (by walk_nrm) ?_
        try walk_nrm
        refine opsS_nil M ?_
        try simp only [thenS, inBlockS]
        refine wpS_seq M ?_
        refine wpS_region M ?_
        simp only [List.size_toArray, List.length_cons, List.length_nil, Nat.reduceAdd, Nat.zero_add, List.range, List.range.loop]
        repeat (first | (refine opsS_look M rfl (by rfl) (fun w => by first | (simp [go_sem]; done) | fail) (fun w hs K hK => ?_); go_simp; refine hK _ ?_; clear hK K hs w; (try walk_nrm); (try simp only [IntKind.wrap_u64, IntKind.wrap_u32, IntKind.wrap_i32, Int.reduceMul, Int.reduceMod, Int.reduceAdd, Int.reduceSub, Int.reduceDiv, Int.reducePow, Int.reduceNeg, Int.zero_add, Int.add_zero, Int.one_mul, nb0, nb1, nb2, nb3, nc0, nc1, nc2, nc3])) | (refine opsS_unwanted M rfl (by rfl) ?_; (try walk_nrm)))
        refine opsS_callv M rfl (by rfl) rfl Try.func40 (by rfl) (by rfl) (uload_reg2 (r := r) rfl) (by walk_nrm) ?_
        rintro v t1 ⟨rfl, rfl⟩
        try walk_nrm
        repeat (first | (refine opsS_look M rfl (by rfl) (fun w => by first | (simp [go_sem]; done) | fail) (fun w hs K hK => ?_); go_simp; refine hK _ ?_; clear hK K hs w; (try walk_nrm); (try simp only [IntKind.wrap_u64, IntKind.wrap_u32, IntKind.wrap_i32, Int.reduceMul, Int.reduceMod, Int.reduceAdd, Int.reduceSub, Int.reduceDiv, Int.reducePow, Int.reduceNeg, Int.zero_add, Int.add_zero, Int.one_mul, nb0, nb1, nb2, nb3, nc0, nc1, nc2, nc3])) | (refine opsS_unwanted M rfl (by rfl) ?_; (try walk_nrm)))
        refine opsS_nil M ?_
        try simp only [thenS, inBlockS]
        refine wpS_seq M ?_
        refine wpS_cond M (v := true) (by rfl) ?_
        simp only [if_true, if_false, Bool.false_eq_true]
        refine wpS_seq M ?_
        refine wpS_region M ?_
        simp only [List.size_toArray, List.length_cons, List.length_nil, Nat.reduceAdd, Nat.zero_add, List.range, List.range.loop]
        refine opsS_enable M rfl (by rfl) rfl Try.func33 (by rfl) (by rfl) (by rfl) (by kernel_rfl) ?_
        try walk_nrm
        refine opsS_nil M ?_
        try simp only [thenS, inBlockS]
        refine wpS_region M ?_
        simp only [List.size_toArray, List.length_cons, List.length_nil, Nat.reduceAdd, Nat.zero_add, List.range, List.range.loop]
        (refine opsS_look M rfl (by rfl) (fun w => by first | (simp [go_sem]; done) | fail) (fun w hs K hK => ?_); go_simp; refine hK _ ?_; clear hK K hs w; (try walk_nrm))
        refine opsC_unsafe (j := 0) (by omega) rfl (by simp) rfl (by rfl) rfl (tt := 68) (by rfl) (by rfl) (by rfl) rfl ?_
        try walk_nrm
        refine opsC_acq rfl (by rfl) rfl Try.func44 (by rfl) (by rfl) (by rfl) rfl rfl (by kernel_rfl) (by walk_nrm) fun s sw h1 h2 h3 h4 h5 => ?_
        try walk_nrm
        refine opsS_nil M ?_
        try simp only [thenS, inBlockS]
        refine wpS_seq M ?_
        refine wpS_seq M ?_
        refine wpS_region M ?_
        simp only [List.size_toArray, List.length_cons, List.length_nil, Nat.reduceAdd, Nat.zero_add, List.range, List.range.loop]
        repeat (first | (refine opsS_look M rfl (by rfl) (fun w => by first | (simp [go_sem]; done) | fail) (fun w hs K hK => ?_); go_simp; refine hK _ ?_; clear hK K hs w; (try walk_nrm); (try simp only [IntKind.wrap_u64, IntKind.wrap_u32, IntKind.wrap_i32, Int.reduceMul, Int.reduceMod, Int.reduceAdd, Int.reduceSub, Int.reduceDiv, Int.reducePow, Int.reduceNeg, Int.zero_add, Int.add_zero, Int.one_mul, nb0, nb1, nb2, nb3, nc0, nc1, nc2, nc3])) | (refine opsS_unwanted M rfl (by rfl) ?_; (try walk_nrm)))
        refine opsS_nil M ?_
        try simp only [thenS, inBlockS]
        refine wpS_cond M (v := false) (by rfl) ?_
        simp only [if_true, if_false, Bool.false_eq_true]
        refine wpS_skip M ?_
        try simp only [thenS, inBlockS]
        refine wpS_ret M ?_
        refine leaveS_done M rfl Try.func28 (resultsC_none (by rfl) _) ⟨s, sw, h1, h2, h3, h4, h5, rfl⟩
      · try walk_nrm
        refine opsS_nil M ?_
        try simp only [thenS, inBlockS]
        refine wpS_cond M (v := false) (by rfl) ?_
        simp only [if_true, if_false, Bool.false_eq_true]
        refine wpS_skip M ?_
        try simp only [thenS, inBlockS]
        exact ⟨0, by omega, .inr (by simp), _, _, _, _, _, _, _, _, _, _, _, _, _, _, _, _, _, _, _, _, _, _, _, _, _, _, _, _, _, _, _, _, _, _, _, _, _, _, _, _, _, _, _, _, _, _, _, _, _, _, _, _, _, _, _, _, _, _, _, _, _, _, _, _, _, _, _, _, _, _, _, _, _, _, _, _, _, _, _, _, _, _, _, rfl⟩
    · try walk_nrm
      (refine opsS_look M rfl (by rfl) (fun w => by first | (simp [go_sem]; done) | fail) (fun w hs K hK => ?_); go_simp; refine hK _ ?_; clear hK K hs w; (try walk_nrm))
      refine opsS_nil M ?_
      try simp only [thenS, inBlockS]
      refine wpS_seq M ?_
      refine wpS_region M ?_
      simp only [List.size_toArray, List.length_cons, List.length_nil, Nat.reduceAdd, Nat.zero_add, List.range, List.range.loop]
      repeat (first | (refine opsS_look M rfl (by rfl) (fun w => by first | (simp [go_sem]; done) | fail) (fun w hs K hK => ?_); go_simp; refine hK _ ?_; clear hK K hs w; (try walk_nrm); (try simp only [IntKind.wrap_u64, IntKind.wrap_u32, IntKind.wrap_i32, Int.reduceMul, Int.reduceMod, Int.reduceAdd, Int.reduceSub, Int.reduceDiv, Int.reducePow, Int.reduceNeg, Int.zero_add, Int.add_zero, Int.one_mul, nb0, nb1, nb2, nb3, nc0, nc1, nc2, nc3])) | (refine opsS_unwanted M rfl (by rfl) ?_; (try walk_nrm)))
      refine opsS_nil M ?_
      try simp only [thenS, inBlockS]
      refine wpS_seq M ?_
      refine wpS_region M ?_
      simp only [List.size_toArray, List.length_cons, List.length_nil, Nat.reduceAdd, Nat.zero_add, List.range, List.range.loop]
      repeat (first | (refine opsS_look M rfl (by rfl) (fun w => by first | (simp [go_sem]; done) | fail) (fun w hs K hK => ?_); go_simp; refine hK _ ?_; clear hK K hs w; (try walk_nrm); (try simp only [IntKind.wrap_u64, IntKind.wrap_u32, IntKind.wrap_i32, Int.reduceMul, Int.reduceMod, Int.reduceAdd, Int.reduceSub, Int.reduceDiv, Int.reducePow, Int.reduceNeg, Int.zero_add, Int.add_zero, Int.one_mul, nb0, nb1, nb2, nb3, nc0, nc1, nc2, nc3])) | (refine opsS_unwanted M rfl (by rfl) ?_; (try walk_nrm)))
      refine opsS_nil M ?_
      try simp only [thenS, inBlockS]
      refine wpS_seq M ?_
      refine wpS_seq M ?_
      refine wpS_region M ?_
      simp only [List.size_toArray, List.length_cons, List.length_nil, Nat.reduceAdd, Nat.zero_add, List.range, List.range.loop]
      repeat (first | (refine opsS_look M rfl (by rfl) (fun w => by first | (simp [go_sem]; done) | fail) (fun w hs K hK => ?_); go_simp; refine hK _ ?_; clear hK K hs w; (try walk_nrm); (try simp only [IntKind.wrap_u64, IntKind.wrap_u32, IntKind.wrap_i32, Int.reduceMul, Int.reduceMod, Int.reduceAdd, Int.reduceSub, Int.reduceDiv, Int.reducePow, Int.reduceNeg, Int.zero_add, Int.add_zero, Int.one_mul, nb0, nb1, nb2, nb3, nc0, nc1, nc2, nc3])) | (refine opsS_unwanted M rfl (by rfl) ?_; (try walk_nrm)))
      refine opsS_nil M ?_
      try simp only [thenS, inBlockS]
      refine wpS_cond M (v := true) (by rfl) ?_
      simp only [if_true, if_false, Bool.false_eq_true]
      refine wpS_seq M ?_
      refine wpS_cond M (v := true) (by rfl) ?_
      simp only [if_true, if_false, Bool.false_eq_true]
      refine wpS_seq M ?_
      refine wpS_region M ?_
      simp only [List.size_toArray, List.length_cons, List.length_nil, Nat.reduceAdd, Nat.zero_add, List.range, List.range.loop]
      refine opsS_enable M rfl (by rfl) rfl Try.func33 (by rfl) (by rfl) (by rfl) (by kernel_rfl) ?_
      try walk_nrm
      refine opsS_nil M ?_
      try simp only [thenS, inBlockS]
      refine wpS_region M ?_
      simp only [List.size_toArray, List.length_cons, List.length_nil, Nat.reduceAdd, Nat.zero_add, List.range, List.range.loop]
      (refine opsS_look M rfl (by rfl) (fun w => by first | (simp [go_sem]; done) | fail) (fun w hs K hK => ?_); go_simp; refine hK _ ?_; clear hK K hs w; (try walk_nrm))
      refine opsC_unsafe (j := 0) (by omega) rfl (by simp) rfl (by rfl) rfl (tt := 68) (by rfl) (by rfl) (by rfl) rfl ?_
      try walk_nrm
      refine opsC_acq rfl (by rfl) rfl Try.func44 (by rfl) (by rfl) (by rfl) rfl rfl (by kernel_rfl) (by walk_nrm) fun s sw h1 h2 h3 h4 h5 => ?_
      try walk_nrm
      refine opsS_nil M ?_
      try simp only [thenS, inBlockS]
      refine wpS_seq M ?_
      refine wpS_seq M ?_
      refine wpS_region M ?_
      simp only [List.size_toArray, List.length_cons, List.length_nil, Nat.reduceAdd, Nat.zero_add, List.range, List.range.loop]
      repeat (first | (refine opsS_look M rfl (by rfl) (fun w => by first | (simp [go_sem]; done) | fail) (fun w hs K hK => ?_); go_simp; refine hK _ ?_; clear hK K hs w; (try walk_nrm); (try simp only [IntKind.wrap_u64, IntKind.wrap_u32, IntKind.wrap_i32, Int.reduceMul, Int.reduceMod, Int.reduceAdd, Int.reduceSub, Int.reduceDiv, Int.reducePow, Int.reduceNeg, Int.zero_add, Int.add_zero, Int.one_mul, nb0, nb1, nb2, nb3, nc0, nc1, nc2, nc3])) | (refine opsS_unwanted M rfl (by rfl) ?_; (try walk_nrm)))
      refine opsS_nil M ?_
      try simp only [thenS, inBlockS]
      refine wpS_cond M (v := false) (by rfl) ?_
      simp only [if_true, if_false, Bool.false_eq_true]
      refine wpS_skip M ?_
      try simp only [thenS, inBlockS]
      refine wpS_ret M ?_
      refine leaveS_done M rfl Try.func28 (resultsC_none (by rfl) _) ⟨s, sw, h1, h2, h3, h4, h5, rfl⟩
  · refine wpS_block M ?_
    refine wpS_seq M ?_
    refine wpS_region M ?_
    simp only [List.size_toArray, List.length_cons, List.length_nil, Nat.reduceAdd, Nat.zero_add, List.range, List.range.loop]
    (refine opsS_look M rfl (by rfl) (fun w => by first | (simp [go_sem]; done) | fail) (fun w hs K hK => ?_); go_simp; refine hK _ ?_; clear hK K hs w; (try walk_nrm))
    (refine opsS_look M rfl (by rfl) (fun w => by first | (simp [go_sem]; done) | fail) (fun w hs K hK => ?_); go_simp; refine hK _ ?_; clear hK K hs w; (try walk_nrm))
    (refine opsS_look M rfl (by rfl) (fun w => by first | (simp [go_sem]; done) | fail) (fun w hs K hK => ?_); go_simp; refine hK _ ?_; clear hK K hs w; (try walk_nrm))
    refine opsS_callv M rfl (by rfl) rfl Try.func40 (by rfl) (by rfl) (uload_shut0 (r := r) rfl) (by walk_nrm) ?_
    rintro v t1 ⟨rfl, rfl⟩
    try walk_nrm
    (refine opsS_look M rfl (by rfl) (fun w => by first | (simp [go_sem]; done) | fail) (fun w hs K hK => ?_); go_simp; refine hK _ ?_; clear hK K hs w; (try walk_nrm))
    refine opsS_nil M ?_
    try simp only [thenS, inBlockS]
    refine wpS_seq M ?_
    refine wpS_region M ?_
    simp only [List.size_toArray, List.length_cons, List.length_nil, Nat.reduceAdd, Nat.zero_add, List.range, List.range.loop]
    repeat (first | (refine opsS_look M rfl (by rfl) (fun w => by first | (simp [go_sem]; done) | fail) (fun w hs K hK => ?_); go_simp; refine hK _ ?_; clear hK K hs w; (try walk_nrm); (try simp only [IntKind.wrap_u64, IntKind.wrap_u32, IntKind.wrap_i32, Int.reduceMul, Int.reduceMod, Int.reduceAdd, Int.reduceSub, Int.reduceDiv, Int.reducePow, Int.reduceNeg, Int.zero_add, Int.add_zero, Int.one_mul, nb0, nb1, nb2, nb3, nc0, nc1, nc2, nc3])) | (refine opsS_unwanted M rfl (by rfl) ?_; (try walk_nrm)))
    refine opsS_nil M ?_
    try simp only [thenS, inBlockS]
    refine wpS_seq M ?_
    refine wpS_region M ?_
    simp only [List.size_toArray, List.length_cons, List.length_nil, Nat.reduceAdd, Nat.zero_add, List.range, List.range.loop]
    repeat (first | (refine opsS_look M rfl (by rfl) (fun w => by first | (simp [go_sem]; done) | fail) (fun w hs K hK => ?_); go_simp; refine hK _ ?_; clear hK K hs w; (try walk_nrm); (try simp only [IntKind.wrap_u64, IntKind.wrap_u32, IntKind.wrap_i32, Int.reduceMul, Int.reduceMod, Int.reduceAdd, Int.reduceSub, Int.reduceDiv, Int.reducePow, Int.reduceNeg, Int.zero_add, Int.add_zero, Int.one_mul, nb0, nb1, nb2, nb3, nc0, nc1, nc2, nc3])) | (refine opsS_unwanted M rfl (by rfl) ?_; (try walk_nrm)))
    refine opsS_nil M ?_
    try simp only [thenS, inBlockS]
    refine wpS_seq M ?_
    refine wpS_seq M ?_
    refine wpS_region M ?_
    simp only [List.size_toArray, List.length_cons, List.length_nil, Nat.reduceAdd, Nat.zero_add, List.range, List.range.loop]
    repeat (first | (refine opsS_look M rfl (by rfl) (fun w => by first | (simp [go_sem]; done) | fail) (fun w hs K hK => ?_); go_simp; refine hK _ ?_; clear hK K hs w; (try walk_nrm); (try simp only [IntKind.wrap_u64, IntKind.wrap_u32, IntKind.wrap_i32, Int.reduceMul, Int.reduceMod, Int.reduceAdd, Int.reduceSub, Int.reduceDiv, Int.reducePow, Int.reduceNeg, Int.zero_add, Int.add_zero, Int.one_mul, nb0, nb1, nb2, nb3, nc0, nc1, nc2, nc3])) | (refine opsS_unwanted M rfl (by rfl) ?_; (try walk_nrm)))
    refine opsS_nil M ?_
    try simp only [thenS, inBlockS]
    refine wpS_cond M (v := true) (by rfl) ?_
    simp only [if_true, if_false, Bool.false_eq_true]
    refine wpS_seq M ?_
    refine wpS_cond M (v := true) (by rfl) ?_
    simp only [if_true, if_false, Bool.false_eq_true]
    refine wpS_seq M ?_
    refine wpS_region M ?_
    simp only [List.size_toArray, List.length_cons, List.length_nil, Nat.reduceAdd, Nat.zero_add, List.range, List.range.loop]
    refine opsS_enable M rfl (by rfl) rfl Try.func33 (by rfl) (by rfl) (by rfl) (by kernel_rfl) ?_
    try walk_nrm
    refine opsS_nil M ?_
    try simp only [thenS, inBlockS]
    refine wpS_region M ?_
    simp only [List.size_toArray, List.length_cons, List.length_nil, Nat.reduceAdd, Nat.zero_add, List.range, List.range.loop]
    (refine opsS_look M rfl (by rfl) (fun w => by first | (simp [go_sem]; done) | fail) (fun w hs K hK => ?_); go_simp; refine hK _ ?_; clear hK K hs w; (try walk_nrm))
    refine opsC_unsafe (j := 0) (by omega) rfl (by simp) rfl (by rfl) rfl (tt := 68) (by rfl) (by rfl) (by rfl) rfl ?_
    try walk_nrm
    refine opsC_acq rfl (by rfl) rfl Try.func44 (by rfl) (by rfl) (by rfl) rfl rfl (by kernel_rfl) (by walk_nrm) fun s sw h1 h2 h3 h4 h5 => ?_
    try walk_nrm
    refine opsS_nil M ?_
    try simp only [thenS, inBlockS]
    refine wpS_seq M ?_
    refine wpS_seq M ?_
    refine wpS_region M ?_
    simp only [List.size_toArray, List.length_cons, List.length_nil, Nat.reduceAdd, Nat.zero_add, List.range, List.range.loop]
    repeat (first | (refine opsS_look M rfl (by rfl) (fun w => by first | (simp [go_sem]; done) | fail) (fun w hs K hK => ?_); go_simp; refine hK _ ?_; clear hK K hs w; (try walk_nrm); (try simp only [IntKind.wrap_u64, IntKind.wrap_u32, IntKind.wrap_i32, Int.reduceMul, Int.reduceMod, Int.reduceAdd, Int.reduceSub, Int.reduceDiv, Int.reducePow, Int.reduceNeg, Int.zero_add, Int.add_zero, Int.one_mul, nb0, nb1, nb2, nb3, nc0, nc1, nc2, nc3])) | (refine opsS_unwanted M rfl (by rfl) ?_; (try walk_nrm)))
    refine opsS_nil M ?_
    try simp only [thenS, inBlockS]
    refine wpS_cond M (v := false) (by rfl) ?_
    simp only [if_true, if_false, Bool.false_eq_true]
    refine wpS_skip M ?_
    try simp only [thenS, inBlockS]
    refine wpS_ret M ?_
    refine leaveS_done M rfl Try.func28 (resultsC_none (by rfl) _) ⟨s, sw, h1, h2, h3, h4, h5, rfl⟩

end Go.Proofs.Ytdmhgajamepgoaa.Q
