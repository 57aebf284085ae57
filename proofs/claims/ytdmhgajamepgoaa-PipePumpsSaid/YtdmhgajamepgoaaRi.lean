/-
  OWN TEXT. PIPE: sync.WaitGroup's Add(1), of a group of one's own.
-/
import Derived.Test.YtdmhgajamepgoaaRh
import Derived.Laws.Bits64
set_option linter.unusedVariables false
set_option linter.unusedSimpArgs false
set_option linter.unusedSectionVars false
namespace Go.Proofs.Ytdmhgajamepgoaa.Q
open Go Go.Conc

theorem nb0 : bits .and .u64 0 2147483648 = 0 := by decide
theorem nb1 : bits .and .u64 1 2147483648 = 0 := by decide
theorem nb2 : bits .and .u64 4294967296 2147483648 = 0 := by decide
theorem nb3 : bits .and .u64 4294967297 2147483648 = 0 := by decide
theorem nc0 : bits .and .u64 0 2147483647 = 0 := by decide
theorem nc1 : bits .and .u64 1 2147483647 = 1 := by decide
theorem nc2 : bits .and .u64 4294967296 2147483647 = 0 := by decide
theorem nc3 : bits .and .u64 4294967297 2147483647 = 1 := by decide

section
variable {X : Type} {P : Program} {main : Bool} {B : World} {Mv : MvT X} {strict : X → Prop} (M : Moves P main B strict Mv) {fn : FuncId} {Q : Exit → Act → Tau X → Prop} {a : Act} {t : Tau X}
include M
theorem leaveS_enable {f : FuncId} {fu : Func} {ds : List Deferred} {Post : Value → Tau X → Prop} (hd : a.defers = dcall f #[] :: ds) (hf : P.funcs[f]? = some fu)
    (hname : (fu.name == "runtime.NumGoroutine") = false) (hb : fu.body.isNone = true) (hn : Extern.findNext fu = none) (he : Extern.find fu = some (fun _ => do mark .enable; pure Extern.Race.none_))
    (h : LeaveS Mv fn ⟨a.tmps, ds⟩ ⟨t.sg, t.d - 1, t.x⟩ Post) : LeaveS Mv fn a t Post := by
  intro todo fr cs hnx
  refine J.own M ⟨rfl, fun w hs => ⟨_, w, #[⟨.mark .enable, false, true⟩], t.sg, stepG_unwind_entry (v := .tuple #[]) hd hf hname hb hn he (by simp [Extern.Race.none_]) (by simp) (by
    intro x hx'
    simp at hx'
    subst hx'
    exact ⟨rfl, fun g h => by cases h⟩), guar_still hs (by simp; exact .ena), by simp [Event.mute], h todo fr cs hnx⟩⟩
/-- An entry that only yields a value. -/
theorem opsS_pureentry {ops : Array Oper} {i : Nat} {rest : List Nat} {o : Oper} {f : FuncId} {fu : Func} {xs : Array Operand} {ats : Array TypeId} (v : Value) (ho : ops[i]? = some o) (hw : Region.wanted o (yielded ops a.tmps) = true) (hop : o.op = .call { callee := .value (.func f), args := xs, argTypes := ats })
    (hf : P.funcs[f]? = some fu) (hname : (fu.name == "runtime.NumGoroutine") = false) (hb : fu.body.isNone = true) (hn : Extern.findNext fu = none) (he : Extern.find fu = some (fun _ => pure v))
    (h : OpsS Mv fn ops rest Q (a.put o.dst v) t) : OpsS Mv fn ops (i :: rest) Q a t :=
  opsS_step M fun b k cs hk w hs => ⟨w, #[], t.sg, stepG_entry_pure v ho hw hk hop hf hname hb hn he, Guar.idle hs, by simp, h⟩
end

section
variable {X : Type} {main : Bool} {B : World} {Mv : MvT X} {strict : X → Prop} (M : Moves Try.prog main B strict Mv)
include M

theorem uadd_any {t : Tau X} (hns : ¬ strict t.x) {b : Nat} (hc : (⟨b, wgO 68 0 0, true⟩ : Chunk) ∈ t.sg) : CallsS Mv Try.prog 38 #[.pointer (some ⟨b, 0, none⟩), .int .u64 4294967296] t fun v t' => v = .int .u64 4294967296 ∧ Keep [b] t t' ∧ (⟨b, wgO 68 KK 0, true⟩ : Chunk) ∈ t'.sg := by
  unfold wgO at hc
  refine callsS_of M Try.func38 (by rfl) ?_
  simp only [Try.ntmps38, List.size_toArray, List.length_cons, List.length_nil, Nat.reduceAdd, Nat.reduceSub, Array.replicate_succ, Array.replicate_zero, List.push_toArray, List.append_toArray, List.nil_append, List.cons_append]
  refine wpS_seq M ?_
  refine wpS_region M ?_
  simp only [List.size_toArray, List.length_cons, List.length_nil, Nat.reduceAdd, Nat.zero_add, List.range, List.range.loop]
  (refine opsS_look M rfl (by rfl) (fun w => by first | (simp [go_sem]; done) | fail) (fun w hs K hK => ?_); go_simp; refine hK _ ?_; clear hK K hs w; (try walk_nrm))
  refine opsS_nil M ?_
  try simp only [thenS, inBlockS]
  refine wpS_seq M ?_
  refine wpS_region M ?_
  simp only [List.size_toArray, List.length_cons, List.length_nil, Nat.reduceAdd, Nat.zero_add, List.range, List.range.loop]
  (refine opsS_look M rfl (by rfl) (fun w => by first | (simp [go_sem]; done) | fail) (fun w hs K hK => ?_); go_simp; refine hK _ ?_; clear hK K hs w; (try walk_nrm))
  (refine opsS_look M rfl (by rfl) (fun w => by first | (simp [go_sem]; done) | fail) (fun w hs K hK => ?_); go_simp; refine hK _ ?_; clear hK K hs w; (try walk_nrm))
  (refine opsS_look M rfl (by rfl) (fun w => by first | (simp [go_sem]; done) | fail) (fun w hs K hK => ?_); go_simp; refine hK _ ?_; clear hK K hs w; (try walk_nrm))
  (refine opsS_look M rfl (by rfl) (fun w => by first | (simp [go_sem]; done) | fail) (fun w hs K hK => ?_); go_simp; refine hK _ ?_; clear hK K hs w; (try walk_nrm))
  refine opsS_add M .u64 hc rfl rfl (by rfl) rfl Try.func54 (by rfl) (by rfl) (by rfl) (by rfl) hns rfl rfl fun t1 hk hc1 => ?_
  have e : IntKind.u64.wrap (0 + 4294967296) = 4294967296 := by decide
  rw [e] at hc1 ⊢
  try walk_nrm
  (refine opsS_look M rfl (by rfl) (fun w => by first | (simp [go_sem]; done) | fail) (fun w hs K hK => ?_); go_simp; refine hK _ ?_; clear hK K hs w; (try walk_nrm))
  refine opsS_nil M ?_
  try simp only [thenS, inBlockS]
  refine wpS_ret M ?_
  exact leaveS_done M rfl Try.func38 (resultsC_tmp (by rfl) _) ⟨rfl, hk, hc1⟩

theorem add_any {t : Tau X} (hns : ¬ strict t.x) {b : Nat} (hc : (⟨b, wgO 68 0 0, true⟩ : Chunk) ∈ t.sg) : CallsS Mv Try.prog 24 #[.pointer (some ⟨b, 0, none⟩), .int .i64 1] t fun _ t' => Keep [b] t t' ∧ (⟨b, wgO 68 KK 0, true⟩ : Chunk) ∈ t'.sg := by
  refine callsS_of M Try.func24 (by rfl) ?_
  simp only [Try.ntmps24, List.size_toArray, List.length_cons, List.length_nil, Nat.reduceAdd, Nat.reduceSub, Array.replicate_succ, Array.replicate_zero, List.push_toArray, List.append_toArray, List.nil_append, List.cons_append]
  refine wpS_seq M ?_
  refine wpS_cond M (v := true) (by rfl) ?_
  simp only [if_true, if_false, Bool.false_eq_true]
  refine wpS_seq M ?_
  refine wpS_seq M ?_
  refine wpS_region M ?_
  simp only [List.size_toArray, List.length_cons, List.length_nil, Nat.reduceAdd, Nat.zero_add, List.range, List.range.loop]
  (refine opsS_look M rfl (by rfl) (fun w => by first | (simp [go_sem]; done) | fail) (fun w hs K hK => ?_); go_simp; refine hK _ ?_; clear hK K hs w; (try walk_nrm))
  (refine opsS_look M rfl (by rfl) (fun w => by first | (simp [go_sem]; done) | fail) (fun w hs K hK => ?_); go_simp; refine hK _ ?_; clear hK K hs w; (try walk_nrm))
  refine opsS_nil M ?_
  try simp only [thenS, inBlockS]
  refine wpS_cond M (v := false) (by rfl) ?_
  simp only [if_true, if_false, Bool.false_eq_true]
  refine wpS_skip M ?_
  try simp only [thenS, inBlockS]
  refine wpS_seq M ?_
  refine wpS_region M ?_
  simp only [List.size_toArray, List.length_cons, List.length_nil, Nat.reduceAdd, Nat.zero_add, List.range, List.range.loop]
  refine opsS_disable M rfl (by rfl) rfl Try.func32 (by rfl) (by rfl) (by rfl) (by rfl) ?_
  try walk_nrm
  refine opsS_nil M ?_
  try simp only [thenS, inBlockS]
  refine wpS_region M ?_
  simp only [List.size_toArray, List.length_cons, List.length_nil, Nat.reduceAdd, Nat.zero_add, List.range, List.range.loop]
  refine opsS_defer M rfl (by rfl) rfl ?_
  try walk_nrm
  refine opsS_nil M ?_
  try simp only [thenS, inBlockS]
  refine wpS_seq M ?_
  refine wpS_region M ?_
  simp only [List.size_toArray, List.length_cons, List.length_nil, Nat.reduceAdd, Nat.zero_add, List.range, List.range.loop]
  (refine opsS_look M rfl (by rfl) (fun w => by first | (simp [go_sem]; done) | fail) (fun w hs K hK => ?_); go_simp; refine hK _ ?_; clear hK K hs w; (try walk_nrm))
  refine opsS_nil M ?_
  try simp only [thenS, inBlockS]
  refine wpS_seq M ?_
  refine wpS_seq M ?_
  refine wpS_region M ?_
  simp only [List.size_toArray, List.length_cons, List.length_nil, Nat.reduceAdd, Nat.zero_add, List.range, List.range.loop]
  refine opsS_pureentry M (.bool false) rfl (by rfl) rfl Try.func34 (by rfl) (by rfl) (by rfl) (by kernel_rfl) ?_
  try walk_nrm
  refine opsS_nil M ?_
  try simp only [thenS, inBlockS]
  refine wpS_cond M (v := false) (by rfl) ?_
  simp only [if_true, if_false, Bool.false_eq_true]
  refine wpS_skip M ?_
  try simp only [thenS, inBlockS]
  refine wpS_seq M ?_
  refine wpS_region M ?_
  simp only [List.size_toArray, List.length_cons, List.length_nil, Nat.reduceAdd, Nat.zero_add, List.range, List.range.loop]
  (refine opsS_look M rfl (by rfl) (fun w => by first | (simp [go_sem]; done) | fail) (fun w hs K hK => ?_); go_simp; refine hK _ ?_; clear hK K hs w; (try walk_nrm))
  (refine opsS_look M rfl (by rfl) (fun w => by first | (simp [go_sem]; done) | fail) (fun w hs K hK => ?_); go_simp; refine hK _ ?_; clear hK K hs w; (try walk_nrm))
  (refine opsS_look M rfl (by rfl) (fun w => by first | (simp [go_sem]; done) | fail) (fun w hs K hK => ?_); go_simp; refine hK _ ?_; clear hK K hs w; (try walk_nrm))
  (refine opsS_look M rfl (by rfl) (fun w => by first | (simp [go_sem]; done) | fail) (fun w hs K hK => ?_); go_simp; refine hK _ ?_; clear hK K hs w; (try walk_nrm))
  (refine opsS_look M rfl (by rfl) (fun w => by first | (simp [go_sem]; done) | fail) (fun w hs K hK => ?_); go_simp; refine hK _ ?_; clear hK K hs w; (try walk_nrm))
  (refine opsS_look M rfl (by rfl) (fun w => by first | (simp [go_sem]; done) | fail) (fun w hs K hK => ?_); go_simp; refine hK _ ?_; clear hK K hs w; (try walk_nrm))
  (try simp only [IntKind.wrap_u64, IntKind.wrap_u32, IntKind.wrap_i32, Int.reduceMul, Int.reduceMod, Int.reduceAdd, Int.reduceSub, Int.reduceDiv, Int.reducePow, Int.reduceNeg, Int.zero_add, Int.add_zero, Int.one_mul, nb0, nb1, nb2, nb3, nc0, nc1, nc2, nc3])
  refine opsS_callv M rfl (by rfl) rfl Try.func38 (by rfl) (by rfl) (uadd_any M (t := ⟨t.sg, t.d + 1, t.x⟩) hns hc) (by walk_nrm) ?_
  rintro v t1 ⟨rfl, k1, hc1⟩
  replace hns : ¬ strict t1.x := by rw [k1.x]; exact hns
  try walk_nrm
  (refine opsS_look M rfl (by rfl) (fun w => by first | (simp [go_sem]; done) | fail) (fun w hs K hK => ?_); go_simp; refine hK _ ?_; clear hK K hs w; (try walk_nrm))
  refine opsS_nil M ?_
  try simp only [thenS, inBlockS]
  refine wpS_seq M ?_
  refine wpS_seq M ?_
  refine wpS_region M ?_
  simp only [List.size_toArray, List.length_cons, List.length_nil, Nat.reduceAdd, Nat.zero_add, List.range, List.range.loop]
  repeat (first | (refine opsS_look M rfl (by rfl) (fun w => by first | (simp [go_sem]; done) | fail) (fun w hs K hK => ?_); go_simp; refine hK _ ?_; clear hK K hs w; (try walk_nrm); (try simp only [IntKind.wrap_u64, IntKind.wrap_u32, IntKind.wrap_i32, Int.reduceMul, Int.reduceMod, Int.reduceAdd, Int.reduceSub, Int.reduceDiv, Int.reducePow, Int.reduceNeg, Int.zero_add, Int.add_zero, Int.one_mul, nb0, nb1, nb2, nb3, nc0, nc1, nc2, nc3])) | (refine opsS_unwanted M rfl (by rfl) ?_; (try walk_nrm)))
  refine opsS_nil M ?_
  try simp only [thenS, inBlockS]
  refine wpS_cond M (v := false) (by rfl) ?_
  simp only [if_true, if_false, Bool.false_eq_true]
  refine wpS_skip M ?_
  try simp only [thenS, inBlockS]
  refine wpS_seq M ?_
  refine wpS_region M ?_
  simp only [List.size_toArray, List.length_cons, List.length_nil, Nat.reduceAdd, Nat.zero_add, List.range, List.range.loop]
  repeat (first | (refine opsS_look M rfl (by rfl) (fun w => by first | (simp [go_sem]; done) | fail) (fun w hs K hK => ?_); go_simp; refine hK _ ?_; clear hK K hs w; (try walk_nrm); (try simp only [IntKind.wrap_u64, IntKind.wrap_u32, IntKind.wrap_i32, Int.reduceMul, Int.reduceMod, Int.reduceAdd, Int.reduceSub, Int.reduceDiv, Int.reducePow, Int.reduceNeg, Int.zero_add, Int.add_zero, Int.one_mul, nb0, nb1, nb2, nb3, nc0, nc1, nc2, nc3])) | (refine opsS_unwanted M rfl (by rfl) ?_; (try walk_nrm)))
  refine opsS_nil M ?_
  try simp only [thenS, inBlockS]
  refine wpS_seq M ?_
  refine wpS_region M ?_
  simp only [List.size_toArray, List.length_cons, List.length_nil, Nat.reduceAdd, Nat.zero_add, List.range, List.range.loop]
  repeat (first | (refine opsS_look M rfl (by rfl) (fun w => by first | (simp [go_sem]; done) | fail) (fun w hs K hK => ?_); go_simp; refine hK _ ?_; clear hK K hs w; (try walk_nrm); (try simp only [IntKind.wrap_u64, IntKind.wrap_u32, IntKind.wrap_i32, Int.reduceMul, Int.reduceMod, Int.reduceAdd, Int.reduceSub, Int.reduceDiv, Int.reducePow, Int.reduceNeg, Int.zero_add, Int.add_zero, Int.one_mul, nb0, nb1, nb2, nb3, nc0, nc1, nc2, nc3])) | (refine opsS_unwanted M rfl (by rfl) ?_; (try walk_nrm)))
  refine opsS_nil M ?_
  try simp only [thenS, inBlockS]
  refine wpS_seq M ?_
  refine wpS_seq M ?_
  refine wpS_region M ?_
  simp only [List.size_toArray, List.length_cons, List.length_nil, Nat.reduceAdd, Nat.zero_add, List.range, List.range.loop]
  repeat (first | (refine opsS_look M rfl (by rfl) (fun w => by first | (simp [go_sem]; done) | fail) (fun w hs K hK => ?_); go_simp; refine hK _ ?_; clear hK K hs w; (try walk_nrm); (try simp only [IntKind.wrap_u64, IntKind.wrap_u32, IntKind.wrap_i32, Int.reduceMul, Int.reduceMod, Int.reduceAdd, Int.reduceSub, Int.reduceDiv, Int.reducePow, Int.reduceNeg, Int.zero_add, Int.add_zero, Int.one_mul, nb0, nb1, nb2, nb3, nc0, nc1, nc2, nc3])) | (refine opsS_unwanted M rfl (by rfl) ?_; (try walk_nrm)))
  refine opsS_nil M ?_
  try simp only [thenS, inBlockS]
  refine wpS_cond M (v := true) (by rfl) ?_
  simp only [if_true, if_false, Bool.false_eq_true]
  refine wpS_region M ?_
  simp only [List.size_toArray, List.length_cons, List.length_nil, Nat.reduceAdd, Nat.zero_add, List.range, List.range.loop]
  (refine opsS_look M rfl (by rfl) (fun w => by first | (simp [go_sem]; done) | fail) (fun w hs K hK => ?_); go_simp; refine hK _ ?_; clear hK K hs w; (try walk_nrm))
  (refine opsS_look M rfl (by rfl) (fun w => by first | (simp [go_sem]; done) | fail) (fun w hs K hK => ?_); go_simp; refine hK _ ?_; clear hK K hs w; (try walk_nrm))
  (refine opsS_look M rfl (by rfl) (fun w => by first | (simp [go_sem]; done) | fail) (fun w hs K hK => ?_); go_simp; refine hK _ ?_; clear hK K hs w; (try walk_nrm))
  refine opsS_unsafe M hc1 (by rfl) rfl (by rfl) rfl (tt := 49) (by rfl) (by rfl) (by rfl) rfl ?_
  try walk_nrm
  refine opsS_said M rfl (by rfl) rfl Try.func39 (by rfl) (by rfl) (by rfl) (by kernel_rfl) (ad := ⟨b, 1, none⟩) ⟨_, hc1, rfl, rfl⟩ hns (by walk_nrm) ?_
  try walk_nrm
  refine opsS_nil M ?_
  try simp only [thenS, inBlockS]
  refine wpS_seq M ?_
  refine wpS_seq M ?_
  refine wpS_region M ?_
  simp only [List.size_toArray, List.length_cons, List.length_nil, Nat.reduceAdd, Nat.zero_add, List.range, List.range.loop]
  repeat (first | (refine opsS_look M rfl (by rfl) (fun w => by first | (simp [go_sem]; done) | fail) (fun w hs K hK => ?_); go_simp; refine hK _ ?_; clear hK K hs w; (try walk_nrm); (try simp only [IntKind.wrap_u64, IntKind.wrap_u32, IntKind.wrap_i32, Int.reduceMul, Int.reduceMod, Int.reduceAdd, Int.reduceSub, Int.reduceDiv, Int.reducePow, Int.reduceNeg, Int.zero_add, Int.add_zero, Int.one_mul, nb0, nb1, nb2, nb3, nc0, nc1, nc2, nc3])) | (refine opsS_unwanted M rfl (by rfl) ?_; (try walk_nrm)))
  refine opsS_nil M ?_
  try simp only [thenS, inBlockS]
  refine wpS_cond M (v := false) (by rfl) ?_
  simp only [if_true, if_false, Bool.false_eq_true]
  refine wpS_skip M ?_
  try simp only [thenS, inBlockS]
  refine wpS_seq M ?_
  refine wpS_seq M ?_
  refine wpS_region M ?_
  simp only [List.size_toArray, List.length_cons, List.length_nil, Nat.reduceAdd, Nat.zero_add, List.range, List.range.loop]
  repeat (first | (refine opsS_look M rfl (by rfl) (fun w => by first | (simp [go_sem]; done) | fail) (fun w hs K hK => ?_); go_simp; refine hK _ ?_; clear hK K hs w; (try walk_nrm); (try simp only [IntKind.wrap_u64, IntKind.wrap_u32, IntKind.wrap_i32, Int.reduceMul, Int.reduceMod, Int.reduceAdd, Int.reduceSub, Int.reduceDiv, Int.reducePow, Int.reduceNeg, Int.zero_add, Int.add_zero, Int.one_mul, nb0, nb1, nb2, nb3, nc0, nc1, nc2, nc3])) | (refine opsS_unwanted M rfl (by rfl) ?_; (try walk_nrm)))
  refine opsS_nil M ?_
  try simp only [thenS, inBlockS]
  refine wpS_cond M (v := false) (by rfl) ?_
  simp only [if_true, if_false, Bool.false_eq_true]
  refine wpS_skip M ?_
  try simp only [thenS, inBlockS]
  refine wpS_seq M ?_
  refine wpS_seq M ?_
  refine wpS_region M ?_
  simp only [List.size_toArray, List.length_cons, List.length_nil, Nat.reduceAdd, Nat.zero_add, List.range, List.range.loop]
  repeat (first | (refine opsS_look M rfl (by rfl) (fun w => by first | (simp [go_sem]; done) | fail) (fun w hs K hK => ?_); go_simp; refine hK _ ?_; clear hK K hs w; (try walk_nrm); (try simp only [IntKind.wrap_u64, IntKind.wrap_u32, IntKind.wrap_i32, Int.reduceMul, Int.reduceMod, Int.reduceAdd, Int.reduceSub, Int.reduceDiv, Int.reducePow, Int.reduceNeg, Int.zero_add, Int.add_zero, Int.one_mul, nb0, nb1, nb2, nb3, nc0, nc1, nc2, nc3])) | (refine opsS_unwanted M rfl (by rfl) ?_; (try walk_nrm)))
  refine opsS_nil M ?_
  try simp only [thenS, inBlockS]
  refine wpS_cond M (v := true) (by rfl) ?_
  simp only [if_true, if_false, Bool.false_eq_true]
  refine wpS_ret M ?_
  refine leaveS_enable M (by rfl) Try.func33 (by rfl) (by rfl) (by rfl) (by kernel_rfl) ?_
  exact leaveS_done M rfl Try.func24 (resultsC_none (by rfl) _) ⟨⟨k1.sg, by rw [k1.d]; rfl, k1.x⟩, hc1⟩
end

end Go.Proofs.Ytdmhgajamepgoaa.Q
