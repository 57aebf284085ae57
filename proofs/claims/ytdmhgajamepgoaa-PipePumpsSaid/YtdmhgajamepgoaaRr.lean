/-
  OWN TEXT. PIPE: PUMP: refused; and whole.
-/
import Derived.Test.YtdmhgajamepgoaaRq
import Derived.Test.YtdmhgajamepgoaaRl
import Derived.Test.YtdmhgajamepgoaaRm
import Derived.Test.YtdmhgajamepgoaaRn
set_option linter.unusedVariables false
set_option linter.unusedSimpArgs false
set_option linter.unusedSectionVars false
namespace Go.Proofs.Ytdmhgajamepgoaa.Q
open Go Go.Conc

section
variable {X : Type} {main : Bool} {B : World} {Mv : MvT X} {strict : X → Prop} (M : Moves Try.prog main B strict Mv)
include M
set_option maxRecDepth 100000 in
set_option maxHeartbeats 1000000 in
theorem pump_bad {t : Tau X} (room most : Int) (hbad : room < 1 ∨ 65536 < room ∨ most < 0 ∨ 1073741824 < most) (ra : Option Addr) (rl rc : Nat) (ff : Fn) (fst caps : Array Value) :
    CallsS Mv Try.prog 15 #[.slice ra rl rc, .func ff fst caps, .int .i64 room, .int .i64 most] t fun v t' => v = .tuple #[.slice none 0 0, .int .i64 1] ∧ Keep [] t t' := by
  refine callsS_of M Try.func15 (by rfl) ?_
  simp only [Try.ntmps15, List.size_toArray, List.length_cons, List.length_nil, Nat.reduceAdd, Nat.reduceSub, Array.replicate_succ, Array.replicate_zero, List.push_toArray, List.append_toArray, List.nil_append, List.cons_append]
  refine wpS_seq M ?_
  refine wpS_region M ?_
  simp only [List.size_toArray, List.length_cons, List.length_nil, Nat.reduceAdd, Nat.zero_add, List.range, List.range.loop]
  refine opsS_new M (.cells #[.slice ra rl rc] 28) rfl (by rfl) (fun w hs => by simp [go_sem]) (fun w hs K hK => ?_)
  go_simp
  refine hK _ fun t1 k1 h4 f4 g4 => ?_
  clear hK K
  generalize w.heap.size = b4 at *
  clear hs w
  try walk_nrm
  refine opsS_new M (.cells #[.func ff fst caps] 42) rfl (by rfl) (fun w hs => by simp [go_sem]) (fun w hs K hK => ?_)
  go_simp
  refine hK _ fun t2 k2 h5 f5 g5 => ?_
  clear hK K
  generalize w.heap.size = b5 at *
  clear hs w
  try walk_nrm
  (refine opsS_look M rfl (by rfl) (fun w => by first | (simp [go_sem]; done) | fail) (fun w hs K hK => ?_); go_simp; refine hK _ ?_; clear hK K hs w; (try walk_nrm))
  (refine opsS_look M rfl (by rfl) (fun w => by first | (simp [go_sem]; done) | fail) (fun w hs K hK => ?_); go_simp; refine hK _ ?_; clear hK K hs w; (try walk_nrm))
  refine opsS_nil M ?_
  try simp only [thenS, inBlockS]
  refine wpS_seq M ?_
  refine wpS_seq M ?_
  refine wpS_region M ?_
  simp only [List.size_toArray, List.length_cons, List.length_nil, Nat.reduceAdd, Nat.zero_add, List.range, List.range.loop]
  by_cases c1 : room < 1
  · repeat (first | (refine opsS_look M rfl (by rfl) (fun w => by first | (simp [go_sem]; done) | fail) (fun w hs K hK => ?_); go_simp; refine hK _ ?_; clear hK K hs w; (try walk_nrm)) | (refine opsS_unwanted M rfl (by rfl) ?_; (try walk_nrm)))
    refine opsS_nil M ?_
    try simp only [thenS, inBlockS]
    refine wpS_cond M (v := true) (by rfl) ?_
    simp only [if_true, if_false, Bool.false_eq_true]
    refine wpS_seq M ?_
    refine wpS_region M ?_
    simp only [List.size_toArray, List.length_cons, List.length_nil, Nat.reduceAdd, Nat.zero_add, List.range, List.range.loop]
    (refine opsS_look M rfl (by rfl) (fun w => by first | (simp [go_sem]; done) | fail) (fun w hs K hK => ?_); go_simp; refine hK _ ?_; clear hK K hs w; (try walk_nrm))
    (refine opsS_look M rfl (by rfl) (fun w => by first | (simp [go_sem]; done) | fail) (fun w hs K hK => ?_); go_simp; refine hK _ ?_; clear hK K hs w; (try walk_nrm))
    refine opsS_nil M ?_
    try simp only [thenS, inBlockS]
    refine wpS_ret M ?_
    exact leaveS_done M rfl Try.func15 (resultsC_tmp2 (by rfl) _) ⟨rfl, k1.trans k2⟩
  by_cases c2 : 65536 < room
  · repeat (first | (refine opsS_look M rfl (by rfl) (fun w => by first | (simp [go_sem]; done) | fail) (fun w hs K hK => ?_); go_simp; refine hK _ ?_; clear hK K hs w; (try walk_nrm)) | (refine opsS_unwanted M rfl (by rfl) ?_; (try walk_nrm)))
    refine opsS_nil M ?_
    try simp only [thenS, inBlockS]
    refine wpS_cond M (v := true) (by rfl) ?_
    simp only [if_true, if_false, Bool.false_eq_true]
    refine wpS_seq M ?_
    refine wpS_region M ?_
    simp only [List.size_toArray, List.length_cons, List.length_nil, Nat.reduceAdd, Nat.zero_add, List.range, List.range.loop]
    (refine opsS_look M rfl (by rfl) (fun w => by first | (simp [go_sem]; done) | fail) (fun w hs K hK => ?_); go_simp; refine hK _ ?_; clear hK K hs w; (try walk_nrm))
    (refine opsS_look M rfl (by rfl) (fun w => by first | (simp [go_sem]; done) | fail) (fun w hs K hK => ?_); go_simp; refine hK _ ?_; clear hK K hs w; (try walk_nrm))
    refine opsS_nil M ?_
    try simp only [thenS, inBlockS]
    refine wpS_ret M ?_
    exact leaveS_done M rfl Try.func15 (resultsC_tmp2 (by rfl) _) ⟨rfl, k1.trans k2⟩
  by_cases c3 : most < 0
  · repeat (first | (refine opsS_look M rfl (by rfl) (fun w => by first | (simp [go_sem]; done) | fail) (fun w hs K hK => ?_); go_simp; refine hK _ ?_; clear hK K hs w; (try walk_nrm)) | (refine opsS_unwanted M rfl (by rfl) ?_; (try walk_nrm)))
    refine opsS_nil M ?_
    try simp only [thenS, inBlockS]
    refine wpS_cond M (v := true) (by rfl) ?_
    simp only [if_true, if_false, Bool.false_eq_true]
    refine wpS_seq M ?_
    refine wpS_region M ?_
    simp only [List.size_toArray, List.length_cons, List.length_nil, Nat.reduceAdd, Nat.zero_add, List.range, List.range.loop]
    (refine opsS_look M rfl (by rfl) (fun w => by first | (simp [go_sem]; done) | fail) (fun w hs K hK => ?_); go_simp; refine hK _ ?_; clear hK K hs w; (try walk_nrm))
    (refine opsS_look M rfl (by rfl) (fun w => by first | (simp [go_sem]; done) | fail) (fun w hs K hK => ?_); go_simp; refine hK _ ?_; clear hK K hs w; (try walk_nrm))
    refine opsS_nil M ?_
    try simp only [thenS, inBlockS]
    refine wpS_ret M ?_
    exact leaveS_done M rfl Try.func15 (resultsC_tmp2 (by rfl) _) ⟨rfl, k1.trans k2⟩
  have c4 : 1073741824 < most := ((hbad.resolve_left c1).resolve_left c2).resolve_left c3
  repeat (first | (refine opsS_look M rfl (by rfl) (fun w => by first | (simp [go_sem]; done) | fail) (fun w hs K hK => ?_); go_simp; refine hK _ ?_; clear hK K hs w; (try walk_nrm)) | (refine opsS_unwanted M rfl (by rfl) ?_; (try walk_nrm)))
  refine opsS_nil M ?_
  try simp only [thenS, inBlockS]
  refine wpS_cond M (v := true) (by rfl) ?_
  simp only [if_true, if_false, Bool.false_eq_true]
  refine wpS_seq M ?_
  refine wpS_region M ?_
  simp only [List.size_toArray, List.length_cons, List.length_nil, Nat.reduceAdd, Nat.zero_add, List.range, List.range.loop]
  (refine opsS_look M rfl (by rfl) (fun w => by first | (simp [go_sem]; done) | fail) (fun w hs K hK => ?_); go_simp; refine hK _ ?_; clear hK K hs w; (try walk_nrm))
  (refine opsS_look M rfl (by rfl) (fun w => by first | (simp [go_sem]; done) | fail) (fun w hs K hK => ?_); go_simp; refine hK _ ?_; clear hK K hs w; (try walk_nrm))
  refine opsS_nil M ?_
  try simp only [thenS, inBlockS]
  refine wpS_ret M ?_
  exact leaveS_done M rfl Try.func15 (resultsC_tmp2 (by rfl) _) ⟨rfl, k1.trans k2⟩
end

section
variable {P : Program} {B : World} {Post : Value → World → Prop} {fn : FuncId} {Q : Exit → Act → Tau CX → Prop} {a : Act} {t : Tau CX} {ops : Array Oper} {i : Nat} {rest : List Nat} {o : Oper} {p : PRec} {r : Nat}

theorem opsC_close {x : Operand} {ats : Array TypeId} {c : CPh} (hx : t.x = .pump p r c) (hc : c = .recv ∧ p.whole = false ∨ c = .over) (hd : t.d = 0) (ho : ops[i]? = some o) (hw : Region.wanted o (yielded ops a.tmps) = true) (hop : o.op = .call { callee := .builtin .close, args := #[x], argTypes := ats })
    (hxx : a.eval x = .chan (some p.S)) (hq : (P.funcs[fn]?).any (·.norace) = false)
    (h : OpsS (CMv P B Post) fn ops rest Q (a.put o.dst (.tuple #[])) ⟨t.sg, t.d, .pump p r .shut⟩) : OpsS (CMv P B Post) fn ops (i :: rest) Q a t := by
  intro b k cs hb' hk hq'
  refine J.step (cmoves P B Post) (.act rfl (.close p r c _ hx hc hd ?_ (fun w hs hS => ?_) (h b k cs hb' hk hq')))
  · simp [mayWake, G, Frame.at, ho, hop]
  · exact stepG_close ho hw hk hop hxx hS (by rw [hb']; exact hq)

theorem opsC_spawn (p : PRec) (sc sw : List Chunk) (d : Deferred) {f : Fn} {c : Array Value} (hx : t.x = .alone) (hd : t.d = 0) (ho : ops[i]? = some o) (hw : Region.wanted o (yielded ops a.tmps) = true)
    (hr : ∀ w, (execOp a.eval o).run P w = .ok (.spawn d) w) (he : ∀ w, (execOp a.eval o).events P w #[] = #[]) (hdt : d.target = .fn f c)
    (hO : (⟨p.O, .chan p.cap #[] false 0 0 false, true⟩ : Chunk) ∈ t.sg) (hS : (⟨p.S, .chan 0 #[] false 0 0 false, true⟩ : Chunk) ∈ t.sg) (hG : (⟨p.G, wgO p.ty KK 0, true⟩ : Chunk) ∈ t.sg) (hos : p.O ≠ p.S) (hcap : 1 ≤ p.cap)
    (hsc : ∀ c ∈ sc, c.b ≠ p.O ∧ c.b ≠ p.S ∧ c.b ≠ p.G ∧ ∃ c' ∈ t.sg, c'.b = c.b ∧ c'.o = c.o ∧ (c.own = true → c'.own = true))
    (hsw : ∀ c ∈ sw, c.b ≠ p.O ∧ c.b ≠ p.S ∧ c.b ≠ p.G ∧ ∃ c' ∈ t.sg, c'.b = c.b ∧ c'.o = c.o ∧ (c.own = true → c'.own = true))
    (hdis : ∀ c ∈ sc, ∀ c' ∈ sw, c.b = c'.b → c.own = false ∧ c'.own = false) (hnc : (sc.map Chunk.b).Nodup) (hnw : (sw.map Chunk.b).Nodup)
    (hj : J (WMv P B) ⟨sw, 0, ⟨p, 0, .run false⟩⟩ (born P d))
    (h : OpsS (CMv P B Post) fn ops rest Q (a.put o.dst undef) ⟨sc, 0, .pump p 0 .recv⟩) : OpsS (CMv P B Post) fn ops (i :: rest) Q a t := by
  intro b k cs hb' hk hq'
  refine J.step (cmoves P B Post) (.act rfl (.spawn p sc sw _ _ hx hd (fun w hs => ?_) rfl rfl rfl hO hS hG hos hcap hsc hsw hdis hnc hnw (h b k cs hb' hk hq') hj))
  rw [stepG_spawn ho hw hk (hr w) hdt]
  unfold listed
  rw [he w, seen_none]
end

end Go.Proofs.Ytdmhgajamepgoaa.Q
