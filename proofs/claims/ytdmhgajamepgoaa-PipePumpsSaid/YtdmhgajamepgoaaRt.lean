/-
  OWN TEXT. PIPE: the callbacks of speaks, PipeArgs, PipeOrder.
-/
import Derived.Test.YtdmhgajamepgoaaRb
import Derived.Test.YtdmhgajamepgoaaRs
import Derived.Laws.Small
set_option linter.unusedVariables false
set_option linter.unusedSimpArgs false
set_option linter.unusedSectionVars false
namespace Go.Proofs.Ytdmhgajamepgoaa.Q
open Go Go.Conc

theorem ev_min (P : Program) (w : World) (es : Array Event) (ts : Array TypeId) (t : TypeId) (k k' : IntKind) (x y : Int) : (Builtin.min_ ts t #[.int k x, .int k' y]).events P w es = es := by
  simp [Builtin.min_, Builtin.min2]
theorem u24 : Try.prog.underlying 24 = some (.pointer 59) := by rfl
theorem eqlIn (d : Nat) (a : Option Addr) (w : World) : (Op.equalIn (d + 1) 24 (.pointer a) (.pointer none)).run Try.prog w = .ok a.isNone w ∧ ∀ es, (Op.equalIn (d + 1) 24 (.pointer a) (.pointer none)).events Try.prog w es = es := by
  unfold Op.equalIn
  cases a <;> simp [run_underlying u24]
theorem ptr_eql' (a : Option Addr) (w : World) : (binOp .eql 24 (.pointer a) (.pointer none)).run Try.prog w = .ok (.bool a.isNone) w ∧ ∀ es, (binOp .eql 24 (.pointer a) (.pointer none)).events Try.prog w es = es := by
  have h := eqlIn (Op.maxDepth - 1) a w
  have e : binOp .eql 24 (.pointer a) (.pointer none) = (do pure (.bool (← Op.equalIn (Op.maxDepth - 1 + 1) 24 (.pointer a) (.pointer none))) : Sem Value) := rfl
  rw [e]
  simp [h.1, h.2]
theorem ptr_eql (a : Addr) (w : World) : (binOp .eql 24 (.pointer (some a)) (.pointer none)).run Try.prog w = .ok (.bool false) w := (ptr_eql' (some a) w).1
theorem ptr_eqlE (a : Addr) (w : World) (es : Array Event) : (binOp .eql 24 (.pointer (some a)) (.pointer none)).events Try.prog w es = es := (ptr_eql' (some a) w).2 es
theorem ptr_eql0 (w : World) : (binOp .eql 24 (.pointer none) (.pointer none)).run Try.prog w = .ok (.bool true) w := (ptr_eql' none w).1
theorem ptr_eql0E (w : World) (es : Array Event) : (binOp .eql 24 (.pointer none) (.pointer none)).events Try.prog w es = es := (ptr_eql' none w).2 es

theorem cbS {B : World} : Cb B 23 #[] (S := Unit) (fun _ _ => True) (fun _ n => [n, n]) (fun _ _ => ()) (fun _ _ => True) := by
  refine ⟨fun _ _ _ _ _ => trivial, ⟨_, Try.func23, by rfl, by rfl⟩, fun σ n t _ _ hns => ?_⟩
  refine CallsS.mono (cb23 (wmoves Try.prog B) n t) ?_
  rintro v t' ⟨N, rfl, rfl⟩
  refine ⟨⟨some ⟨N, 0, none⟩, 2, rfl, fun j u hj => ⟨N, 0, rfl, .inl ⟨_, 3, true, List.mem_cons_self .., ?_⟩⟩⟩, trivial, fun c hc _ => List.mem_cons_of_mem _ hc, rfl, rfl⟩
  match j with
  | 0 => simpa [iv] using hj
  | 1 => simpa [iv] using hj
  | j + 2 => simp at hj

section
variable {B : World}
/-- PipeArgs$1. -/
theorem cbA (bn : Nat) : Cb B 22 #[.pointer (some ⟨bn, 0, none⟩)] (S := Int) (fun k s => (⟨bn, .cells #[.int .i64 k] 3, true⟩ : Chunk) ∈ s) (fun _ n => [n]) (fun k _ => IntKind.i64.wrap (k + 1)) (fun _ _ => True) := by
  refine ⟨fun _ _ _ h h1 => h _ h1 rfl, ⟨_, Try.func22, by rfl, by rfl⟩, fun k n t _ hI hns => ?_⟩
  have M := wmoves Try.prog B
  show CallsS _ _ _ #[.int .i64 n, .pointer (some ⟨bn, 0, none⟩)] _ _
  refine callsS_of M Try.func22 (by rfl) ?_
  simp only [Try.ntmps22, List.size_toArray, List.length_cons, List.length_nil, Nat.reduceAdd, Nat.reduceSub, Array.replicate_succ, Array.replicate_zero, List.push_toArray, List.append_toArray, List.nil_append, List.cons_append]
  refine wpS_seq M ?_
  refine wpS_region M ?_
  simp only [List.size_toArray, List.length_cons, List.length_nil, Nat.reduceAdd, Nat.zero_add, List.range, List.range.loop]
  (refine opsS_look M rfl (by rfl) (fun w => by first | (simp [go_sem]; done) | fail) (fun w hs K hK => ?_); go_simp; refine hK _ ?_; clear hK K hs w; (try walk_nrm))
  refine opsS_nil M ?_
  try simp only [thenS, inBlockS]
  refine wpS_seq M ?_
  refine wpS_region M ?_
  simp only [List.size_toArray, List.length_cons, List.length_nil, Nat.reduceAdd, Nat.zero_add, List.range, List.range.loop]
  refine opsS_ld M (j := 0) hI (by first | rfl | simp | assumption) rfl (by rfl) hns (fun w hcell e he => by simp [go_sem, hcell] at he; exact ⟨_, he⟩) (fun w hcell K hK => ?_)
  go_simp
  refine hK _ ?_
  clear hK K hcell w
  try walk_nrm
  (refine opsS_look M rfl (by rfl) (fun w => by first | (simp [go_sem]; done) | fail) (fun w hs K hK => ?_); go_simp; refine hK _ ?_; clear hK K hs w; (try walk_nrm))
  refine opsS_facts M fun w0 hs0 => ?_
  have hne : ∀ c ∈ t.sg, c.own = false → c.b ≠ bn := fun c hc ho e => by
    have := hs0.uniq hc hI e
    rw [this] at ho; cases ho
  clear hs0 w0
  refine opsS_st M (j := 0) ((.int .i64 (IntKind.i64.wrap (k + 1)))) hI (by first | rfl | simp | assumption) rfl (by rfl) hns (fun w hcell hfr e he => by simp [go_sem, hcell, hfr, ev_bool, ev_slice, ev_ptr, ev_int, ev_chan, storedEv] at he; exact ⟨_, _, _, he⟩) (fun w hcell hfr K hK => ?_)
  go_simp
  refine hK _ fun t1 k1 hI1 => ?_
  clear hK K hcell hfr w
  try walk_nrm
  simp only [List.setIfInBounds_toArray, List.set_cons_zero] at hI1
  refine opsS_nil M ?_
  try simp only [thenS, inBlockS]
  refine wpS_seq M ?_
  refine wpS_region M ?_
  simp only [List.size_toArray, List.length_cons, List.length_nil, Nat.reduceAdd, Nat.zero_add, List.range, List.range.loop]
  (refine opsS_look M rfl (by rfl) (fun w => by first | (simp [go_sem]; done) | fail) (fun w hs K hK => ?_); go_simp; refine hK _ ?_; clear hK K hs w; (try walk_nrm))
  refine opsS_new M (.cells #[.int .i64 n] 3) rfl (by rfl) (fun w hs => by simp [go_sem]) (fun w hs K hK => ?_)
  go_simp
  refine hK _ fun t2 k2 hN f2 g2 => ?_
  clear hK K
  generalize w.heap.size = N at *
  clear hs w
  try walk_nrm
  (refine opsS_look M rfl (by rfl) (fun w => by first | (simp [go_sem]; done) | fail) (fun w hs K hK => ?_); go_simp; refine hK _ ?_; clear hK K hs w; (try walk_nrm))
  refine opsS_nil M ?_
  try simp only [thenS, inBlockS]
  refine wpS_ret M ?_
  exact leaveS_done M rfl Try.func22 (resultsC_tmp (by rfl) _) ⟨row1 hN, k2.all hI1, fun c hc ho => k2.all (k1.sg c hc (by simpa using hne c hc ho)), by rw [k2.d, k1.d], by rw [k2.x, k1.x]⟩

/-- PipeOrder$1. -/
theorem cbO (bq q c room : Nat) : Cb B 16 #[.pointer (some ⟨bq, 0, none⟩)] (S := List Int) (fun l s => (⟨bq, .cells #[.pointer (some ⟨q, 0, none⟩)] 24, true⟩ : Chunk) ∈ s ∧ QC s q c room l false)
    (fun l n => if l.length < room then [n] else []) (fun l n => putL room l false n) (fun _ _ => True) := by
  refine ⟨fun l s s' h h1 => ⟨h _ h1.1 rfl, h _ h1.2.q rfl, let ⟨sn, rn, hc⟩ := h1.2.c; ⟨sn, rn, h _ hc rfl⟩⟩, ⟨_, Try.func16, by rfl, by rfl⟩, fun l n t _ hI hns => ?_⟩
  obtain ⟨hbq, hQ⟩ := hI
  have M := wmoves Try.prog B
  show CallsS _ _ _ #[.int .i64 n, .pointer (some ⟨bq, 0, none⟩)] _ _
  refine callsS_of M Try.func16 (by rfl) ?_
  simp only [Try.ntmps16, List.size_toArray, List.length_cons, List.length_nil, Nat.reduceAdd, Nat.reduceSub, Array.replicate_succ, Array.replicate_zero, List.push_toArray, List.append_toArray, List.nil_append, List.cons_append]
  refine wpS_facts M fun w0 hs0 => ?_
  obtain ⟨sn, rn, hcc⟩ := hQ.c
  have hqq := hQ.q
  have hne : ∀ ch ∈ t.sg, ch.own = false → ch.b ≠ q ∧ ch.b ≠ c := fun ch hc ho => by
    constructor
    · intro e
      have := hs0.uniq hc hqq e
      rw [this] at ho; cases ho
    · intro e
      have := hs0.uniq hc hcc e
      rw [this] at ho; cases ho
  have hbn : bq ≠ q ∧ bq ≠ c := by
    constructor
    · intro e
      have := hs0.uniq hbq hqq e
      injection this with _ h _
      injection h with h _
      simp at h
    · exact (chan_ne hs0 hbq hcc).symm
  clear hs0 w0 hcc hqq
  refine wpS_seq M ?_
  refine wpS_region M ?_
  simp only [List.size_toArray, List.length_cons, List.length_nil, Nat.reduceAdd, Nat.zero_add, List.range, List.range.loop]
  (refine opsS_look M rfl (by rfl) (fun w => by first | (simp [go_sem]; done) | fail) (fun w hs K hK => ?_); go_simp; refine hK _ ?_; clear hK K hs w; (try walk_nrm))
  refine opsS_nil M ?_
  try simp only [thenS, inBlockS]
  refine wpS_seq M ?_
  refine wpS_seq M ?_
  refine wpS_region M ?_
  simp only [List.size_toArray, List.length_cons, List.length_nil, Nat.reduceAdd, Nat.zero_add, List.range, List.range.loop]
  refine opsS_ld M (j := 0) hbq (by first | rfl | simp | assumption) rfl (by rfl) hns (fun w hcell e he => by simp [go_sem, hcell] at he; exact ⟨_, he⟩) (fun w hcell K hK => ?_)
  go_simp
  refine hK _ ?_
  clear hK K hcell w
  try walk_nrm
  (refine opsS_look M rfl (by rfl) (fun w => by first | (simp [go_sem]; done) | fail) (fun w hs K hK => ?_); go_simp; refine hK _ ?_; clear hK K hs w; (try walk_nrm))
  refine opsS_callv M rfl (by rfl) rfl Try.func10 (by rfl) (by rfl) (put_any M hns hQ n) (by walk_nrm) ?_
  rintro v t1 ⟨rfl, hQ1, k1⟩
  replace hns : ¬ wstrict t1.x := by rw [k1.x]; exact hns
  have hbq1 := k1.sg _ hbq (by simp [hbn])
  by_cases hl : l.length < room
  · simp only [putV, hl, if_true, if_false, Bool.false_eq_true]
    try walk_nrm
    (refine opsS_look M rfl (by rfl) (fun w => by first | (simp [go_sem]; done) | fail) (fun w hs K hK => ?_); go_simp; refine hK _ ?_; clear hK K hs w; (try walk_nrm))
    refine opsS_nil M ?_
    try simp only [thenS, inBlockS]
    refine wpS_cond M (v := false) (by rfl) ?_
    simp only [if_true, if_false, Bool.false_eq_true]
    refine wpS_skip M ?_
    try simp only [thenS, inBlockS]
    refine wpS_seq M ?_
    refine wpS_region M ?_
    simp only [List.size_toArray, List.length_cons, List.length_nil, Nat.reduceAdd, Nat.zero_add, List.range, List.range.loop]
    (refine opsS_look M rfl (by rfl) (fun w => by first | (simp [go_sem]; done) | fail) (fun w hs K hK => ?_); go_simp; refine hK _ ?_; clear hK K hs w; (try walk_nrm))
    refine opsS_new M (.cells #[.int .i64 n] 3) rfl (by rfl) (fun w hs => by simp [go_sem]) (fun w hs K hK => ?_)
    go_simp
    refine hK _ fun t2 k2 hN f2 g2 => ?_
    clear hK K
    generalize w.heap.size = N at *
    clear hs w
    try walk_nrm
    (refine opsS_look M rfl (by rfl) (fun w => by first | (simp [go_sem]; done) | fail) (fun w hs K hK => ?_); go_simp; refine hK _ ?_; clear hK K hs w; (try walk_nrm))
    refine opsS_nil M ?_
    try simp only [thenS, inBlockS]
    refine wpS_ret M ?_
    exact leaveS_done M rfl Try.func16 (resultsC_tmp (by rfl) _) ⟨by simpa [hl] using row1 hN, ⟨k2.all hbq1, k2.all hQ1.q, let ⟨sn, rn, h⟩ := hQ1.c; ⟨sn, rn, k2.all h⟩⟩, fun ch hc ho => k2.all (k1.sg ch hc (by simp [hne ch hc ho])), by rw [k2.d, k1.d], by rw [k2.x, k1.x]⟩
  · simp only [putV, hl, if_true, if_false, Bool.false_eq_true]
    try walk_nrm
    (refine opsS_look M rfl (by rfl) (fun w => by first | (simp [go_sem]; done) | fail) (fun w hs K hK => ?_); go_simp; refine hK _ ?_; clear hK K hs w; (try walk_nrm))
    refine opsS_nil M ?_
    try simp only [thenS, inBlockS]
    refine wpS_cond M (v := true) (by rfl) ?_
    simp only [if_true, if_false, Bool.false_eq_true]
    refine wpS_seq M ?_
    refine wpS_region M ?_
    simp only [List.size_toArray, List.length_cons, List.length_nil, Nat.reduceAdd, Nat.zero_add, List.range, List.range.loop]
    (refine opsS_look M rfl (by rfl) (fun w => by first | (simp [go_sem]; done) | fail) (fun w hs K hK => ?_); go_simp; refine hK _ ?_; clear hK K hs w; (try walk_nrm))
    refine opsS_nil M ?_
    try simp only [thenS, inBlockS]
    refine wpS_ret M ?_
    exact leaveS_done M rfl Try.func16 (resultsC_tmp (by rfl) _) ⟨⟨none, 0, by simp [hl], fun j u h => by simp [hl] at h⟩, ⟨hbq1, hQ1⟩, fun ch hc ho => k1.sg ch hc (by simp [hne ch hc ho]), k1.d, k1.x⟩
end

end Go.Proofs.Ytdmhgajamepgoaa.Q
