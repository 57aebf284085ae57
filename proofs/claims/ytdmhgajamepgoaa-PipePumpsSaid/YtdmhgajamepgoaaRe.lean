/-
  OWN TEXT. PIPE: RULES FOR SINGLE OPERATIONS, (3): channels of one's own; a deferred call; NEW, LEN.
-/
import Derived.Test.YtdmhgajamepgoaaRd
import Derived.Laws.Build
import Derived.Conc.TokenAlone
import Derived.Laws.Tables
set_option linter.unusedVariables false
set_option linter.unusedSimpArgs false
set_option linter.unusedSectionVars false
namespace Go.Proofs.Ytdmhgajamepgoaa.Q
open Go Go.Conc

section
variable {X : Type} {P : Program} {main : Bool} {B : World} {Mv : MvT X} {strict : X → Prop} (M : Moves P main B strict Mv) {fn : FuncId} {Q : Exit → Act → Tau X → Prop} {a : Act} {t : Tau X}
include M
section
variable {ops : Array Oper} {i : Nat} {rest : List Nat} {o : Oper} {c cap s r : Nat} {buf : Array Value} {v z : Value} {closed : Bool}

theorem opsS_trysend (v z : Value) (hc : (⟨c, .chan cap buf false s r false, true⟩ : Chunk) ∈ t.sg) (ho : ops[i]? = some o) (hw : Region.wanted o (yielded ops a.tmps) = true)
    (hr : ∀ w, (execOp a.eval o).run P w = .ok (.comm #[scase c v z] false .select) w) (he : ∀ w, (execOp a.eval o).events P w #[] = #[])
    (h1 : buf.size < cap → ∀ t', Keep [c] t t' → (⟨c, .chan cap (buf.push v) false (s + 1) r false, true⟩ : Chunk) ∈ t'.sg → OpsS Mv fn ops rest Q (a.put o.dst (.tuple #[goInt 0, .bool false])) t')
    (h2 : cap ≤ buf.size → OpsS Mv fn ops rest Q (a.put o.dst (.tuple #[goInt (-1), .bool false])) t) : OpsS Mv fn ops (i :: rest) Q a t := by
  intro b k cs hb hk hq
  refine J.step M (M.priv ⟨rfl, c, cap, buf, false, s, r, hc, .inl ⟨v, z, rfl, fun w hs => ?_, fun hroom => ?_, fun hfull => ?_⟩⟩)
  · rw [stepG_comm ho hw hk (hr w)]
    unfold listed
    rw [he w, seen_none]
  · rw [served_G, ho]
    exact h1 hroom _ keep_setO (mem_setO_self hc) b k cs hb hk hq
  · rw [served_G, ho]
    exact h2 hfull b k cs hb hk hq

theorem opsS_tryrecv (z : Value) (hc : (⟨c, .chan cap buf closed s r false, true⟩ : Chunk) ∈ t.sg) (ho : ops[i]? = some o) (hw : Region.wanted o (yielded ops a.tmps) = true)
    (hr : ∀ w, (execOp a.eval o).run P w = .ok (.comm #[rcase c z] false .select) w) (he : ∀ w, (execOp a.eval o).events P w #[] = #[])
    (h1 : 0 < buf.size → ∀ t', Keep [c] t t' → (⟨c, .chan cap (buf.extract 1 buf.size) closed s (r + 1) false, true⟩ : Chunk) ∈ t'.sg → OpsS Mv fn ops rest Q (a.put o.dst (.tuple #[goInt 0, .bool true, buf.getD 0 undef])) t')
    (h2 : buf.size = 0 → closed = true → OpsS Mv fn ops rest Q (a.put o.dst (.tuple #[goInt 0, .bool false, z])) t)
    (h3 : buf.size = 0 → closed = false → OpsS Mv fn ops rest Q (a.put o.dst (.tuple #[goInt (-1), .bool false, z])) t) : OpsS Mv fn ops (i :: rest) Q a t := by
  intro b k cs hb hk hq
  refine J.step M (M.priv ⟨rfl, c, cap, buf, closed, s, r, hc, .inr ⟨z, fun w hs => ?_, fun h => ?_, fun h h' => ?_, fun h h' => ?_⟩⟩)
  · rw [stepG_comm ho hw hk (hr w)]
    unfold listed
    rw [he w, seen_none]
  · rw [served_G, ho]
    exact h1 h _ keep_setO (mem_setO_self hc) b k cs hb hk hq
  · rw [served_G, ho]
    exact h2 h h' b k cs hb hk hq
  · rw [served_G, ho]
    exact h3 h h' b k cs hb hk hq

/-- An operation at a channel of one's own: it turns. -/
theorem opsS_obj {ob : Obj} (ob' : Obj) (hc : (⟨c, ob, true⟩ : Chunk) ∈ t.sg) (ho : ops[i]? = some o) (hw : Region.wanted o (yielded ops a.tmps) = true) (hns : ¬ strict t.x)
    (he : ∀ w, Sat B t.sg w → ∀ e ∈ (execOp a.eval o).events P w #[], ∃ wr, e = ⟨.obj c, wr, true⟩)
    (h : ∀ w, Sat B t.sg w → w.heap[c]? = some ob → ∀ K : Act → World → Prop, (∀ a' w', Upd w c ob' w' → (∀ t', Keep [c] t t' → (⟨c, ob', true⟩ : Chunk) ∈ t'.sg → OpsS Mv fn ops rest Q a' t') → K a' w') → uponK o a K ((execOp a.eval o).run P w)) : OpsS Mv fn ops (i :: rest) Q a t := by
  refine opsS_cons M ho hw fun w hs => ?_
  have hev : ∀ e ∈ listed P fn a o w, EvOk B t.sg w.heap.size w.heap.size e ∧ e.loc ≠ .mark .disable ∧ e.loc ≠ .mark .enable := fun e hm => by
    obtain ⟨wr, rfl⟩ := he w hs e (mem_listed hm)
    exact ⟨.obj _ _ ⟨_, hc, rfl, rfl⟩, by simp, by simp⟩
  have hd : deafBehind t.d (listed P fn a o w) = t.d := deafBehind_still (fun e hm => (hev e hm).2) _
  rw [hd]
  have key := h w hs (hs.obj hc) (fun a' w' => Upd w c ob' w' ∧ OpsS Mv fn ops rest Q a' ⟨setO t.sg c ob', t.d, t.x⟩) fun a' w' hu hn => ⟨hu, hn _ keep_setO (mem_setO_self hc)⟩
  revert key
  cases (execOp a.eval o).run P w with
  | ok x w' =>
    cases x <;> first | (rintro ⟨hu, hn⟩; exact ⟨_, guar_upd hs hc hu (fun e hm => by
      have hsz : w'.heap.size = w.heap.size := by rw [hu.2.2]; simp
      rw [hsz]; exact (hev e hm).1), fun hx => absurd hx hns, hn⟩) | exact id
  | halt _ _ => exact id
end

/-- The next deferred call, its arguments named. -/
theorem leaveS_deferv {f g : FuncId} {gn : Func} {args : Array Value} {ds : List Deferred} {c : Code} {Post : Value → Tau X → Prop} (hd : a.defers = dcall g args :: ds) (hf : P.funcs[g]? = some gn)
    (hname : (gn.name == "runtime.NumGoroutine") = false) (hb : gn.body = some c) {Post' : Tau X → Prop} (h : DCallsS Mv P g args t Post') (hn : ∀ t', Post' t' → LeaveS Mv f ⟨a.tmps, ds⟩ t' Post) : LeaveS Mv f a t Post :=
  leaveS_defer M hd hf hname hb fun fr cs hm hl => h fr cs hm fun t' hp => hl t' (hn t' hp)
end

section
variable {X : Type} {main : Bool} {B : World} {Mv : MvT X} {strict : X → Prop} (M : Moves Try.prog main B strict Mv)
include M

/-- A queue in memory: its struct, its channel. -/
def qO (cl : Bool) (c : Nat) : Obj := .cells #[.int .i32 0, .int .u32 0, .bool cl, .chan (some c)] 59
def lkO (cl : Bool) (c : Nat) : Obj := .cells #[.int .i32 1, .int .u32 0, .bool cl, .chan (some c)] 59
def iv (n : Int) : Value := .int .i64 n
structure QC (s : List Chunk) (q c room : Nat) (L : List Int) (cl : Bool) : Prop where
  q : (⟨q, qO cl c, true⟩ : Chunk) ∈ s
  c : ∃ sn rn, (⟨c, .chan room (L.map iv).toArray cl sn rn false, true⟩ : Chunk) ∈ s

theorem new_bad (n : Int) (hn : n < 1 ∨ 65536 < n) (t : Tau X) : CallsS Mv Try.prog 8 #[.int .i64 n] t fun v t' => v = .tuple #[.pointer none, .int .i64 1] ∧ t' = t := by
  refine callsS_of M Try.func8 (by rfl) ?_
  simp only [Try.ntmps8, List.size_toArray, List.length_cons, List.length_nil, Nat.reduceAdd, Nat.reduceSub, Array.replicate_succ, Array.replicate_zero, List.push_toArray, List.append_toArray, List.nil_append, List.cons_append]
  refine wpS_seq M ?_
  refine wpS_region M ?_
  simp only [List.size_toArray, List.length_cons, List.length_nil, Nat.reduceAdd, Nat.zero_add, List.range, List.range.loop]
  (refine opsS_look M rfl (by rfl) (fun w => by first | (simp [go_sem]; done) | fail) (fun w hs K hK => ?_); go_simp; refine hK _ ?_; clear hK K hs w; (try walk_nrm))
  (refine opsS_look M rfl (by rfl) (fun w => by first | (simp [go_sem]; done) | fail) (fun w hs K hK => ?_); go_simp; refine hK _ ?_; clear hK K hs w; (try walk_nrm))
  refine opsS_nil M ?_
  try simp only [thenS, inBlockS]
  refine wpS_seq M ?_
  refine wpS_seq M ?_
  refine wpS_region M ?_
  simp only [List.size_toArray, List.length_cons, List.length_nil, Nat.reduceAdd, Nat.zero_add, List.range, List.range.loop]
  by_cases h1 : n < 1
  · repeat (first | (refine opsS_look M rfl (by rfl) (fun w => by first | (simp [go_sem]; done) | fail) (fun w hs K hK => ?_); go_simp; refine hK _ ?_; clear hK K hs w; (try walk_nrm)) | (refine opsS_unwanted M rfl (by rfl) ?_; (try walk_nrm)))
    refine opsS_nil M ?_
    try simp only [thenS, inBlockS]
    refine wpS_cond M (v := true) (by rfl) ?_
    simp only [if_true, if_false, Bool.false_eq_true]
    refine wpS_seq M ?_
    refine wpS_region M ?_
    simp only [List.size_toArray, List.length_cons, List.length_nil, Nat.reduceAdd, Nat.zero_add, List.range, List.range.loop]
    repeat (first | (refine opsS_look M rfl (by rfl) (fun w => by first | (simp [go_sem]; done) | fail) (fun w hs K hK => ?_); go_simp; refine hK _ ?_; clear hK K hs w; (try walk_nrm)) | (refine opsS_unwanted M rfl (by rfl) ?_; (try walk_nrm)))
    refine opsS_nil M ?_
    try simp only [thenS, inBlockS]
    refine wpS_ret M ?_
    exact leaveS_done M rfl Try.func8 (resultsC_tmp2 (by rfl) _) ⟨rfl, rfl⟩
  · have h2 : 65536 < n := hn.resolve_left h1
    repeat (first | (refine opsS_look M rfl (by rfl) (fun w => by first | (simp [go_sem]; done) | fail) (fun w hs K hK => ?_); go_simp; refine hK _ ?_; clear hK K hs w; (try walk_nrm)) | (refine opsS_unwanted M rfl (by rfl) ?_; (try walk_nrm)))
    refine opsS_nil M ?_
    try simp only [thenS, inBlockS]
    refine wpS_cond M (v := true) (by rfl) ?_
    simp only [if_true, if_false, Bool.false_eq_true]
    refine wpS_seq M ?_
    refine wpS_region M ?_
    simp only [List.size_toArray, List.length_cons, List.length_nil, Nat.reduceAdd, Nat.zero_add, List.range, List.range.loop]
    repeat (first | (refine opsS_look M rfl (by rfl) (fun w => by first | (simp [go_sem]; done) | fail) (fun w hs K hK => ?_); go_simp; refine hK _ ?_; clear hK K hs w; (try walk_nrm)) | (refine opsS_unwanted M rfl (by rfl) ?_; (try walk_nrm)))
    refine opsS_nil M ?_
    try simp only [thenS, inBlockS]
    refine wpS_ret M ?_
    exact leaveS_done M rfl Try.func8 (resultsC_tmp2 (by rfl) _) ⟨rfl, rfl⟩

omit M in
theorem mk57 (n : Nat) (h : n ≤ 65536) (w : World) : (Instr.makeChan 57 (.int .i64 n)).run Try.prog w = .ok (.chan (some w.heap.size)) (w.alloc (.chan n #[] false 0 0 false)) :=
  run_makeChan (by rfl) (by rfl) .i64 n (by omega) (by show (8 : Int) * n ≤ _; omega)
omit M in
theorem mk57e (n : Nat) (h : n ≤ 65536) (w : World) (es : Array Event) : (Instr.makeChan 57 (.int .i64 n)).events Try.prog w es = es :=
  events_makeChan (by rfl) (by rfl) .i64 n (by omega) (by show (8 : Int) * n ≤ _; omega) es
omit M in
theorem mk61 (w : World) : (Instr.makeChan 61 (.int .i64 0)).run Try.prog w = .ok (.chan (some w.heap.size)) (w.alloc (.chan 0 #[] false 0 0 false)) :=
  run_makeChan (by rfl) (by rfl) .i64 0 (by omega) (by decide)
omit M in
theorem mk61e (w : World) (es : Array Event) : (Instr.makeChan 61 (.int .i64 0)).events Try.prog w es = es :=
  events_makeChan (by rfl) (by rfl) .i64 0 (by omega) (by decide) es

theorem new_any (n : Nat) (h1 : 1 ≤ n) (h2 : n ≤ 65536) (t : Tau X) : CallsS Mv Try.prog 8 #[.int .i64 n] t fun v t' => ∃ q c, v = .tuple #[.pointer (some ⟨q, 0, none⟩), .int .i64 0] ∧ Keep [] t t' ∧ QC t'.sg q c n [] false ∧ (∀ ch ∈ t.sg, ch.b ≠ q ∧ ch.b ≠ c) ∧ B.heap.size ≤ q ∧ B.heap.size ≤ c := by
  refine callsS_of M Try.func8 (by rfl) ?_
  simp only [Try.ntmps8, List.size_toArray, List.length_cons, List.length_nil, Nat.reduceAdd, Nat.reduceSub, Array.replicate_succ, Array.replicate_zero, List.push_toArray, List.append_toArray, List.nil_append, List.cons_append]
  refine wpS_seq M ?_
  refine wpS_region M ?_
  simp only [List.size_toArray, List.length_cons, List.length_nil, Nat.reduceAdd, Nat.zero_add, List.range, List.range.loop]
  (refine opsS_look M rfl (by rfl) (fun w => by first | (simp [go_sem]; done) | fail) (fun w hs K hK => ?_); go_simp; refine hK _ ?_; clear hK K hs w; (try walk_nrm))
  (refine opsS_look M rfl (by rfl) (fun w => by first | (simp [go_sem]; done) | fail) (fun w hs K hK => ?_); go_simp; refine hK _ ?_; clear hK K hs w; (try walk_nrm))
  refine opsS_nil M ?_
  try simp only [thenS, inBlockS]
  refine wpS_seq M ?_
  refine wpS_seq M ?_
  refine wpS_region M ?_
  simp only [List.size_toArray, List.length_cons, List.length_nil, Nat.reduceAdd, Nat.zero_add, List.range, List.range.loop]
  have e1 : ¬ (n : Int) < 1 := by omega
  have e2 : ¬ (65536 : Int) < n := by omega
  repeat (first | (refine opsS_look M rfl (by rfl) (fun w => by first | (simp [go_sem]; done) | fail) (fun w hs K hK => ?_); go_simp; refine hK _ ?_; clear hK K hs w; (try walk_nrm)) | (refine opsS_unwanted M rfl (by rfl) ?_; (try walk_nrm)))
  refine opsS_nil M ?_
  try simp only [thenS, inBlockS]
  refine wpS_cond M (v := false) (by rfl) ?_
  simp only [if_true, if_false, Bool.false_eq_true]
  refine wpS_skip M ?_
  try simp only [thenS, inBlockS]
  refine wpS_seq M ?_
  refine wpS_region M ?_
  simp only [List.size_toArray, List.length_cons, List.length_nil, Nat.reduceAdd, Nat.zero_add, List.range, List.range.loop]
  (refine opsS_look M rfl (by rfl) (fun w => by first | (simp [go_sem]; done) | fail) (fun w hs K hK => ?_); go_simp; refine hK _ ?_; clear hK K hs w; (try walk_nrm))
  refine opsS_new M (.chan n #[] false 0 0 false) rfl (by rfl) (fun w hs => by simp [go_sem, mk57e n h2]) (fun w hs K hK => ?_)
  have hm := mk57 n h2 w
  go_simp
  refine hK _ fun t1 k1 hc f1 g1 => ?_
  clear hK K hm
  generalize w.heap.size = c at *
  clear hs w
  (refine opsS_look M rfl (by rfl) (fun w => by first | (simp [go_sem]; done) | fail) (fun w hs K hK => ?_); go_simp; refine hK _ ?_; clear hK K hs w; (try walk_nrm))
  refine opsS_new M (qO false c) rfl (by rfl) (fun w hs => by simp [go_sem]) (fun w hs K hK => ?_)
  go_simp
  refine hK _ fun t2 k2 hq f2 g2 => ?_
  clear hK K
  generalize w.heap.size = q at *
  clear hs w
  (refine opsS_look M rfl (by rfl) (fun w => by first | (simp [go_sem]; done) | fail) (fun w hs K hK => ?_); go_simp; refine hK _ ?_; clear hK K hs w; (try walk_nrm))
  (refine opsS_look M rfl (by rfl) (fun w => by first | (simp [go_sem]; done) | fail) (fun w hs K hK => ?_); go_simp; refine hK _ ?_; clear hK K hs w; (try walk_nrm))
  refine opsS_nil M ?_
  try simp only [thenS, inBlockS]
  refine wpS_ret M ?_
  exact leaveS_done M rfl Try.func8 (resultsC_tmp2 (by rfl) _) ⟨q, c, rfl, k1.trans k2, ⟨hq, 0, 0, k2.all hc⟩, fun ch h => ⟨f2 ch (k1.all h), f1 ch h⟩, g2, g1⟩

theorem len_any {t : Tau X} (hns : ¬ strict t.x) {q c room : Nat} {L : List Int} {cl : Bool} (hq : QC t.sg q c room L cl) : CallsS Mv Try.prog 14 #[.pointer (some ⟨q, 0, none⟩)] t fun v t' => v = .int .i64 L.length ∧ t' = t := by
  obtain ⟨hq, sn, rn, hc⟩ := hq
  unfold qO at hq
  refine callsS_of M Try.func14 (by rfl) ?_
  simp only [Try.ntmps14, List.size_toArray, List.length_cons, List.length_nil, Nat.reduceAdd, Nat.reduceSub, Array.replicate_succ, Array.replicate_zero, List.push_toArray, List.append_toArray, List.nil_append, List.cons_append]
  refine wpS_seq M ?_
  refine wpS_region M ?_
  simp only [List.size_toArray, List.length_cons, List.length_nil, Nat.reduceAdd, Nat.zero_add, List.range, List.range.loop]
  (refine opsS_look M rfl (by rfl) (fun w => by first | (simp [go_sem]; done) | fail) (fun w hs K hK => ?_); go_simp; refine hK _ ?_; clear hK K hs w; (try walk_nrm))
  refine opsS_nil M ?_
  try simp only [thenS, inBlockS]
  refine wpS_seq M ?_
  refine wpS_region M ?_
  simp only [List.size_toArray, List.length_cons, List.length_nil, Nat.reduceAdd, Nat.zero_add, List.range, List.range.loop]
  (refine opsS_look M rfl (by rfl) (fun w => by first | (simp [go_sem]; done) | fail) (fun w hs K hK => ?_); go_simp; refine hK _ ?_; clear hK K hs w; (try walk_nrm))
  (refine opsS_look M rfl (by rfl) (fun w => by first | (simp [go_sem]; done) | fail) (fun w hs K hK => ?_); go_simp; refine hK _ ?_; clear hK K hs w; (try walk_nrm))
  (refine opsS_look M rfl (by rfl) (fun w => by first | (simp [go_sem]; done) | fail) (fun w hs K hK => ?_); go_simp; refine hK _ ?_; clear hK K hs w; (try walk_nrm))
  refine opsS_ld M (j := 3) hq (by first | rfl | simp | assumption) rfl (by rfl) hns (fun w hcell e he => by simp [go_sem, hcell] at he; exact ⟨_, he⟩) (fun w hcell K hK => ?_)
  go_simp
  refine hK _ ?_
  clear hK K hcell w
  try walk_nrm
  refine opsS_read M rfl (by rfl) hns (fun w hs e he => ?_) (fun w hs K hK => ?_)
  · have := mem_listed he
    have hev := events_len_chan (P := Try.prog) 57 3 (by rfl) (hs.obj hc) #[]
    simp [go_sem, hev] at this
    subst this
    exact ⟨.obj _ _ ⟨_, hc, rfl, rfl⟩, by simp, by simp⟩
  have hrn := run_len_chan (P := Try.prog) 57 3 (by rfl) (hs.obj hc)
  go_simp
  refine hK _ ?_
  clear hrn hK K hs w
  try walk_nrm
  (refine opsS_look M rfl (by rfl) (fun w => by first | (simp [go_sem]; done) | fail) (fun w hs K hK => ?_); go_simp; refine hK _ ?_; clear hK K hs w; (try walk_nrm))
  refine opsS_nil M ?_
  try simp only [thenS, inBlockS]
  refine wpS_ret M ?_
  exact leaveS_done M rfl Try.func14 (resultsC_tmp (by rfl) _) ⟨by simp [goInt], rfl⟩

end
end Go.Proofs.Ytdmhgajamepgoaa.Q
