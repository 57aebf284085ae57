/-
  OWN TEXT. PIPE: the callbacks, (1): speaks$1.
-/
import Derived.Test.YtdmhgajamepgoaaRa
import Derived.Test.YtdmhgajamepgoaaProg
set_option linter.unusedVariables false
set_option linter.unusedSimpArgs false
set_option linter.unusedSectionVars false
namespace Go.Proofs.Ytdmhgajamepgoaa.Q
open Go Go.Conc
variable {X : Type} {main : Bool} {B : World} {Mv : MvT X} {strict : X → Prop}
theorem cb23 (M : Moves Try.prog main B strict Mv) (n : Int) (t : Tau X) : CallsS Mv Try.prog 23 #[.int .i64 n] t fun v t' => ∃ N, v = .slice (some ⟨N, 0, none⟩) 2 2 ∧ t' = ⟨⟨N, .cells #[.int .i64 n, .int .i64 n] 3, true⟩ :: t.sg, t.d, t.x⟩ := by
  refine callsS_of M Try.func23 (by rfl) ?_
  simp only [Try.ntmps23, List.size_toArray, List.length_cons, List.length_nil, Nat.reduceAdd, Nat.reduceSub, Array.replicate_succ, Array.replicate_zero, List.push_toArray, List.append_toArray, List.nil_append, List.cons_append]
  refine wpS_seq M ?_
  refine wpS_region M ?_
  simp only [List.size_toArray, List.length_cons, List.length_nil, Nat.reduceAdd, Nat.zero_add, List.range, List.range.loop]
  (refine opsS_look M rfl (by rfl) (fun w => by first | (simp [go_sem]; done) | fail) (fun w hs K hK => ?_); go_simp; refine hK _ ?_; clear hK K hs w; (try walk_nrm))
  refine opsS_nil M ?_
  try simp only [thenS, inBlockS]
  refine wpS_seq M ?_
  refine wpS_region M ?_
  simp only [List.size_toArray, List.length_cons, List.length_nil, Nat.reduceAdd, Nat.zero_add, List.range, List.range.loop]
  (refine opsS_look M rfl (by rfl) (fun w => by first | (simp [go_sem]; done) | fail) (fun w hs K hK => ?_); go_simp; refine hK _ ?_; clear hK K hs w; (try walk_nrm))
  (refine opsS_look M rfl (by rfl) (fun w => by first | (simp [go_sem]; done) | fail) (fun w hs K hK => ?_); go_simp; refine hK _ ?_; clear hK K hs w; (try walk_nrm))
  refine opsS_alloc M (.cells #[.int .i64 n, .int .i64 n] 3) rfl (by rfl) (fun w hs => by simp [go_sem]) (fun w hs K hK => ?_)
  go_simp
  refine hK _ ?_
  clear hK K
  generalize w.heap.size = N
  clear hs w
  (refine opsS_look M rfl (by rfl) (fun w => by first | (simp [go_sem]; done) | fail) (fun w hs K hK => ?_); go_simp; refine hK _ ?_; clear hK K hs w; (try walk_nrm))
  refine opsS_nil M ?_
  try simp only [thenS, inBlockS]
  refine wpS_ret M ?_
  exact leaveS_done M rfl Try.func23 (resultsC_tmp (by rfl) _) ⟨N, rfl, rfl⟩
end Go.Proofs.Ytdmhgajamepgoaa.Q
