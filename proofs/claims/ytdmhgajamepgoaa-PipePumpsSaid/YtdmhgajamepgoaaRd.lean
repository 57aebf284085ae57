/-
  OWN TEXT. PIPE: sync.Mutex's Lock and Unlock, of a mutex of one's own.
-/
import Derived.Test.YtdmhgajamepgoaaRc
import Derived.Test.YtdmhgajamepgoaaProg
set_option linter.unusedVariables false
set_option linter.unusedSimpArgs false
set_option linter.unusedSectionVars false
namespace Go.Proofs.Ytdmhgajamepgoaa.Q
open Go Go.Conc
variable {X : Type} {main : Bool} {B : World} {Mv : MvT X} {strict : X → Prop} (M : Moves Try.prog main B strict Mv)
include M

theorem ilock_any {t : Tau X} (hns : ¬ strict t.x) {b : Nat} {C : Array Value} {ty : TypeId} (hc : (⟨b, .cells C ty, true⟩ : Chunk) ∈ t.sg) (hj : C[0]? = some (.int .i32 0)) :
    CallsS Mv Try.prog 29 #[.pointer (some ⟨b, 0, none⟩)] t fun _ t' => Keep [b] t t' ∧ (⟨b, .cells (C.setIfInBounds 0 (.int .i32 1)) ty, true⟩ : Chunk) ∈ t'.sg := by
  refine callsS_of M Try.func29 (by rfl) ?_
  simp only [Try.ntmps29, List.size_toArray, List.length_cons, List.length_nil, Nat.reduceAdd, Nat.reduceSub, Array.replicate_succ, Array.replicate_zero, List.push_toArray, List.append_toArray, List.nil_append, List.cons_append]
  refine wpS_seq M ?_
  refine wpS_region M ?_
  simp only [List.size_toArray, List.length_cons, List.length_nil, Nat.reduceAdd, Nat.zero_add, List.range, List.range.loop]
  refine opsS_disable M rfl (by rfl) rfl Try.func32 (by rfl) (by rfl) (by rfl) (by rfl) ?_
  try walk_nrm
  refine opsS_nil M ?_
  try simp only [thenS, inBlockS]
  refine wpS_seq M ?_
  refine wpS_seq M ?_
  refine wpS_region M ?_
  simp only [List.size_toArray, List.length_cons, List.length_nil, Nat.reduceAdd, Nat.zero_add, List.range, List.range.loop]
  (refine opsS_look M rfl (by rfl) (fun w => by first | (simp [go_sem]; done) | fail) (fun w hs K hK => ?_); go_simp; refine hK _ ?_; clear hK K hs w; (try walk_nrm))
  (refine opsS_look M rfl (by rfl) (fun w => by first | (simp [go_sem]; done) | fail) (fun w hs K hK => ?_); go_simp; refine hK _ ?_; clear hK K hs w; (try walk_nrm))
  (refine opsS_look M rfl (by rfl) (fun w => by first | (simp [go_sem]; done) | fail) (fun w hs K hK => ?_); go_simp; refine hK _ ?_; clear hK K hs w; (try walk_nrm))
  refine opsS_cas M .i32 (t := ⟨t.sg, t.d + 1, t.x⟩) hc hj rfl (by rfl) rfl Try.func49 (by rfl) (by rfl) (by rfl) (by rfl) hns rfl rfl rfl fun t1 hk hc1 => ?_
  try walk_nrm
  refine opsS_nil M ?_
  try simp only [thenS, inBlockS]
  refine wpS_cond M (v := true) (by rfl) ?_
  simp only [if_true, if_false, Bool.false_eq_true]
  refine wpS_seq M ?_
  refine wpS_cond M (v := true) (by rfl) ?_
  simp only [if_true, if_false, Bool.false_eq_true]
  refine wpS_seq M ?_
  refine wpS_region M ?_
  simp only [List.size_toArray, List.length_cons, List.length_nil, Nat.reduceAdd, Nat.zero_add, List.range, List.range.loop]
  refine opsS_enable M rfl (by rfl) rfl Try.func33 (by rfl) (by rfl) (by rfl) (by rfl) ?_
  try walk_nrm
  refine opsS_nil M ?_
  try simp only [thenS, inBlockS]
  refine wpS_region M ?_
  simp only [List.size_toArray, List.length_cons, List.length_nil, Nat.reduceAdd, Nat.zero_add, List.range, List.range.loop]
  (refine opsS_look M rfl (by rfl) (fun w => by first | (simp [go_sem]; done) | fail) (fun w hs K hK => ?_); go_simp; refine hK _ ?_; clear hK K hs w; (try walk_nrm))
  refine opsS_unsafe M hc1 (get_set hj _) rfl (by rfl) rfl (tt := 51) (by rfl) (by rfl) (by rfl) rfl ?_
  try walk_nrm
  refine opsS_acquire M rfl (by rfl) rfl Try.func44 (by rfl) (by rfl) (by rfl) (by rfl) (ad := ⟨b, 0, none⟩) ⟨_, hc1, rfl, rfl⟩ (by rw [hk.x]; exact hns) (by walk_nrm) ?_
  try walk_nrm
  refine opsS_nil M ?_
  try simp only [thenS, inBlockS]
  refine wpS_ret M ?_
  exact leaveS_done M rfl Try.func29 (resultsC_none (by rfl) _) ⟨⟨hk.sg, by rw [hk.d]; rfl, hk.x⟩, hc1⟩

theorem lock_any {t : Tau X} (hns : ¬ strict t.x) {b : Nat} {C : Array Value} {ty : TypeId} (hc : (⟨b, .cells C ty, true⟩ : Chunk) ∈ t.sg) (hj : C[0]? = some (.int .i32 0)) :
    CallsS Mv Try.prog 19 #[.pointer (some ⟨b, 0, none⟩)] t fun _ t' => Keep [b] t t' ∧ (⟨b, .cells (C.setIfInBounds 0 (.int .i32 1)) ty, true⟩ : Chunk) ∈ t'.sg := by
  refine callsS_of M Try.func19 (by rfl) ?_
  simp only [Try.ntmps19, List.size_toArray, List.length_cons, List.length_nil, Nat.reduceAdd, Nat.reduceSub, Array.replicate_succ, Array.replicate_zero, List.push_toArray, List.append_toArray, List.nil_append, List.cons_append]
  refine wpS_region M ?_
  simp only [List.size_toArray, List.length_cons, List.length_nil, Nat.reduceAdd, Nat.zero_add, List.range, List.range.loop]
  (refine opsS_look M rfl (by rfl) (fun w => by first | (simp [go_sem]; done) | fail) (fun w hs K hK => ?_); go_simp; refine hK _ ?_; clear hK K hs w; (try walk_nrm))
  (refine opsS_look M rfl (by rfl) (fun w => by first | (simp [go_sem]; done) | fail) (fun w hs K hK => ?_); go_simp; refine hK _ ?_; clear hK K hs w; (try walk_nrm))
  (refine opsS_look M rfl (by rfl) (fun w => by first | (simp [go_sem]; done) | fail) (fun w hs K hK => ?_); go_simp; refine hK _ ?_; clear hK K hs w; (try walk_nrm))
  refine opsS_callv M rfl (by rfl) rfl Try.func29 (by rfl) (by rfl) (ilock_any M hns hc hj) (by walk_nrm) ?_
  rintro v t' hp
  try walk_nrm
  refine opsS_nil M ?_
  try simp only [thenS, inBlockS]
  exact leaveS_done M rfl Try.func19 (resultsC_none (by rfl) _) hp

theorem iunlock_any {t : Tau X} (hns : ¬ strict t.x) {b : Nat} {C : Array Value} {ty : TypeId} (hc : (⟨b, .cells C ty, true⟩ : Chunk) ∈ t.sg) (hj : C[0]? = some (.int .i32 1)) :
    CallsS Mv Try.prog 30 #[.pointer (some ⟨b, 0, none⟩)] t fun _ t' => Keep [b] t t' ∧ (⟨b, .cells (C.setIfInBounds 0 (.int .i32 0)) ty, true⟩ : Chunk) ∈ t'.sg := by
  refine callsS_of M Try.func30 (by rfl) ?_
  simp only [Try.ntmps30, List.size_toArray, List.length_cons, List.length_nil, Nat.reduceAdd, Nat.reduceSub, Array.replicate_succ, Array.replicate_zero, List.push_toArray, List.append_toArray, List.nil_append, List.cons_append]
  refine wpS_seq M ?_
  refine wpS_cond M (v := true) (by rfl) ?_
  simp only [if_true, if_false, Bool.false_eq_true]
  refine wpS_seq M ?_
  refine wpS_region M ?_
  simp only [List.size_toArray, List.length_cons, List.length_nil, Nat.reduceAdd, Nat.zero_add, List.range, List.range.loop]
  (refine opsS_look M rfl (by rfl) (fun w => by first | (simp [go_sem]; done) | fail) (fun w hs K hK => ?_); go_simp; refine hK _ ?_; clear hK K hs w; (try walk_nrm))
  (refine opsS_look M rfl (by rfl) (fun w => by first | (simp [go_sem]; done) | fail) (fun w hs K hK => ?_); go_simp; refine hK _ ?_; clear hK K hs w; (try walk_nrm))
  (refine opsS_look M rfl (by rfl) (fun w => by first | (simp [go_sem]; done) | fail) (fun w hs K hK => ?_); go_simp; refine hK _ ?_; clear hK K hs w; (try walk_nrm))
  refine opsS_load M rfl (by rfl) hns (b := b) (.inl ⟨_, hc, rfl⟩) (fun w hs e he => ?_) (fun w hs K hK => ?_)
  · have hob := hs.obj hc
    simp [go_sem, World.cell?, hob, hj] at he
    exact ⟨0, he⟩
  have hcell := (cell_of (hs.obj hc) hj).1
  go_simp
  refine hK _ ?_
  clear hK K hcell hs w
  try walk_nrm
  refine opsS_nil M ?_
  try simp only [thenS, inBlockS]
  refine wpS_seq M ?_
  refine wpS_region M ?_
  simp only [List.size_toArray, List.length_cons, List.length_nil, Nat.reduceAdd, Nat.zero_add, List.range, List.range.loop]
  (refine opsS_look M rfl (by rfl) (fun w => by first | (simp [go_sem]; done) | fail) (fun w hs K hK => ?_); go_simp; refine hK _ ?_; clear hK K hs w; (try walk_nrm))
  refine opsS_unsafe M hc hj rfl (by rfl) rfl (tt := 51) (by rfl) (by rfl) (by rfl) rfl ?_
  try walk_nrm
  refine opsS_releaseMerge M rfl (by rfl) rfl Try.func31 (by rfl) (by rfl) (by rfl) (by rfl) (ad := ⟨b, 0, none⟩) ⟨_, hc, rfl, rfl⟩ hns (by walk_nrm) ?_
  try walk_nrm
  refine opsS_nil M ?_
  try simp only [thenS, inBlockS]
  refine wpS_region M ?_
  simp only [List.size_toArray, List.length_cons, List.length_nil, Nat.reduceAdd, Nat.zero_add, List.range, List.range.loop]
  refine opsS_disable M rfl (by rfl) rfl Try.func32 (by rfl) (by rfl) (by rfl) (by rfl) ?_
  try walk_nrm
  refine opsS_nil M ?_
  try simp only [thenS, inBlockS]
  refine wpS_seq M ?_
  refine wpS_region M ?_
  simp only [List.size_toArray, List.length_cons, List.length_nil, Nat.reduceAdd, Nat.zero_add, List.range, List.range.loop]
  (refine opsS_look M rfl (by rfl) (fun w => by first | (simp [go_sem]; done) | fail) (fun w hs K hK => ?_); go_simp; refine hK _ ?_; clear hK K hs w; (try walk_nrm))
  (refine opsS_look M rfl (by rfl) (fun w => by first | (simp [go_sem]; done) | fail) (fun w hs K hK => ?_); go_simp; refine hK _ ?_; clear hK K hs w; (try walk_nrm))
  (refine opsS_look M rfl (by rfl) (fun w => by first | (simp [go_sem]; done) | fail) (fun w hs K hK => ?_); go_simp; refine hK _ ?_; clear hK K hs w; (try walk_nrm))
  refine opsS_add M .i32 (t := ⟨t.sg, t.d + 1, t.x⟩) hc hj rfl (by rfl) rfl Try.func51 (by rfl) (by rfl) (by rfl) (by rfl) hns rfl rfl fun t1 hk hc1 => ?_
  try walk_nrm
  (refine opsS_look M rfl (by rfl) (fun w => by first | (simp [go_sem]; done) | fail) (fun w hs K hK => ?_); go_simp; refine hK _ ?_; clear hK K hs w; (try walk_nrm))
  refine opsS_nil M ?_
  try simp only [thenS, inBlockS]
  refine wpS_seq M ?_
  refine wpS_seq M ?_
  refine wpS_region M ?_
  simp only [List.size_toArray, List.length_cons, List.length_nil, Nat.reduceAdd, Nat.zero_add, List.range, List.range.loop]
  (refine opsS_look M rfl (by rfl) (fun w => by first | (simp [go_sem]; done) | fail) (fun w hs K hK => ?_); go_simp; refine hK _ ?_; clear hK K hs w; (try walk_nrm))
  (refine opsS_look M rfl (by rfl) (fun w => by first | (simp [go_sem]; done) | fail) (fun w hs K hK => ?_); go_simp; refine hK _ ?_; clear hK K hs w; (try walk_nrm))
  refine opsS_nil M ?_
  try simp only [thenS, inBlockS]
  refine wpS_cond M (v := false) (by rfl) ?_
  simp only [if_true, if_false, Bool.false_eq_true]
  refine wpS_skip M ?_
  try simp only [thenS]
  refine wpS_region M ?_
  simp only [List.size_toArray, List.length_cons, List.length_nil, Nat.reduceAdd, Nat.zero_add, List.range, List.range.loop]
  refine opsS_enable M rfl (by rfl) rfl Try.func33 (by rfl) (by rfl) (by rfl) (by rfl) ?_
  try walk_nrm
  refine opsS_nil M ?_
  try simp only [thenS, inBlockS]
  exact leaveS_done M rfl Try.func30 (resultsC_none (by rfl) _) ⟨⟨hk.sg, by rw [hk.d]; rfl, hk.x⟩, hc1⟩

theorem unlock_any {t : Tau X} (hns : ¬ strict t.x) {b : Nat} {C : Array Value} {ty : TypeId} (hc : (⟨b, .cells C ty, true⟩ : Chunk) ∈ t.sg) (hj : C[0]? = some (.int .i32 1)) :
    CallsS Mv Try.prog 20 #[.pointer (some ⟨b, 0, none⟩)] t fun _ t' => Keep [b] t t' ∧ (⟨b, .cells (C.setIfInBounds 0 (.int .i32 0)) ty, true⟩ : Chunk) ∈ t'.sg := by
  refine callsS_of M Try.func20 (by rfl) ?_
  simp only [Try.ntmps20, List.size_toArray, List.length_cons, List.length_nil, Nat.reduceAdd, Nat.reduceSub, Array.replicate_succ, Array.replicate_zero, List.push_toArray, List.append_toArray, List.nil_append, List.cons_append]
  refine wpS_region M ?_
  simp only [List.size_toArray, List.length_cons, List.length_nil, Nat.reduceAdd, Nat.zero_add, List.range, List.range.loop]
  (refine opsS_look M rfl (by rfl) (fun w => by first | (simp [go_sem]; done) | fail) (fun w hs K hK => ?_); go_simp; refine hK _ ?_; clear hK K hs w; (try walk_nrm))
  (refine opsS_look M rfl (by rfl) (fun w => by first | (simp [go_sem]; done) | fail) (fun w hs K hK => ?_); go_simp; refine hK _ ?_; clear hK K hs w; (try walk_nrm))
  (refine opsS_look M rfl (by rfl) (fun w => by first | (simp [go_sem]; done) | fail) (fun w hs K hK => ?_); go_simp; refine hK _ ?_; clear hK K hs w; (try walk_nrm))
  refine opsS_callv M rfl (by rfl) rfl Try.func30 (by rfl) (by rfl) (iunlock_any M hns hc hj) (by walk_nrm) ?_
  rintro v t' hp
  try walk_nrm
  refine opsS_nil M ?_
  try simp only [thenS, inBlockS]
  exact leaveS_done M rfl Try.func20 (resultsC_none (by rfl) _) hp
/-- .. as a deferred call. -/
theorem dunlock_any {t : Tau X} (hns : ¬ strict t.x) {b : Nat} {C : Array Value} {ty : TypeId} (hc : (⟨b, .cells C ty, true⟩ : Chunk) ∈ t.sg) (hj : C[0]? = some (.int .i32 1)) :
    DCallsS Mv Try.prog 20 #[.pointer (some ⟨b, 0, none⟩)] t fun t' => Keep [b] t t' ∧ (⟨b, .cells (C.setIfInBounds 0 (.int .i32 0)) ty, true⟩ : Chunk) ∈ t'.sg := by
  refine dcallsS_of M Try.func20 (by rfl) ?_
  simp only [Try.ntmps20, List.size_toArray, List.length_cons, List.length_nil, Nat.reduceAdd, Nat.reduceSub, Array.replicate_succ, Array.replicate_zero, List.push_toArray, List.append_toArray, List.nil_append, List.cons_append]
  refine wpS_region M ?_
  simp only [List.size_toArray, List.length_cons, List.length_nil, Nat.reduceAdd, Nat.zero_add, List.range, List.range.loop]
  (refine opsS_look M rfl (by rfl) (fun w => by first | (simp [go_sem]; done) | fail) (fun w hs K hK => ?_); go_simp; refine hK _ ?_; clear hK K hs w; (try walk_nrm))
  (refine opsS_look M rfl (by rfl) (fun w => by first | (simp [go_sem]; done) | fail) (fun w hs K hK => ?_); go_simp; refine hK _ ?_; clear hK K hs w; (try walk_nrm))
  (refine opsS_look M rfl (by rfl) (fun w => by first | (simp [go_sem]; done) | fail) (fun w hs K hK => ?_); go_simp; refine hK _ ?_; clear hK K hs w; (try walk_nrm))
  refine opsS_callv M rfl (by rfl) rfl Try.func30 (by rfl) (by rfl) (iunlock_any M hns hc hj) (by walk_nrm) ?_
  rintro v t' hp
  try walk_nrm
  refine opsS_nil M ?_
  try simp only [thenS, inBlockS]
  exact dleaveS_done M rfl Try.func20 (by rfl) hp

end Go.Proofs.Ytdmhgajamepgoaa.Q
