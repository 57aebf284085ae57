/-
  OWN TEXT. PIPE: THE WORKER, WHOLE: work with its deferred close; Pump's go statement's function.
-/
import Derived.Test.YtdmhgajamepgoaaRj
set_option linter.unusedVariables false
set_option linter.unusedSimpArgs false
set_option linter.unusedSectionVars false
namespace Go.Proofs.Ytdmhgajamepgoaa.Q
open Go Go.Conc

theorem stepG_unwind_close {P : Program} {main : Bool} {b : Frame} {a : Act} {todo : List Item} {cs : List Frame} {w : World} {ats : Array TypeId} {ty : TypeId} {cst : Array Bool} {c cap s r : Nat} {buf : Array Value} {ds : List Deferred}
    (hd : a.defers = { target := .builtin .close ats ty cst, args := #[.chan (some c)] } :: ds) (hc : w.heap[c]? = some (.chan cap buf false s r false)) (hq : (P.funcs[b.fn]?).any (·.norace) = false) :
    stepG P main (G { b.at a todo with mode := .returning } cs) w = .go (G { b.at ⟨a.tmps, ds⟩ todo with mode := .returning } cs) { w with heap := w.heap.setIfInBounds c (.chan cap buf true s r false) } #[⟨.obj c, false, true⟩, ⟨.obj c, true, true⟩] := by
  have hr : (invoke (.builtin .close ats ty cst) #[.chan (some c)]).run P w = .ok (.value (.tuple #[])) { w with heap := w.heap.setIfInBounds c (.chan cap buf true s r false) } := by
    simp [invoke, go_sem, run_close_open _ _ hc]
  have he : (invoke (.builtin .close ats ty cst) #[.chan (some c)]).events P w #[] = #[⟨.obj c, false, true⟩, ⟨.obj c, true, true⟩] := by
    simp [invoke, go_sem, events_close_open _ _ hc]
  have hs : seen P b.fn #[⟨.obj c, false, true⟩, ⟨.obj c, true, true⟩] = #[⟨.obj c, false, true⟩, ⟨.obj c, true, true⟩] := seen_eq hq (by simp)
  simp [G, stepG, unwind, callDeferred, Frame.at, hd, hr, he, GStep.after, hs]

section
variable {B : World} {t : Tau WX} {p : PRec} {s : Nat} {stp : Bool} {a : Act} {f : FuncId} {Post : Value → Tau WX → Prop}
theorem leaveW_close {ats : Array TypeId} {ty : TypeId} {cst : Array Bool} {ds : List Deferred} (hx : t.x = ⟨p, s, .run stp⟩) (hd0 : t.d = 0) (hcomp : stp = true ∨ s = p.All.length)
    (hd : a.defers = { target := .builtin .close ats ty cst, args := #[.chan (some p.O)] } :: ds) (hq : (Try.prog.funcs[f]?).any (·.norace) = false)
    (h : LeaveS (WMv Try.prog B) f ⟨a.tmps, ds⟩ ⟨t.sg, 0, ⟨p, s, .shut⟩⟩ Post) : LeaveS (WMv Try.prog B) f a t Post := by
  obtain ⟨sg, d, x⟩ := t
  simp only at hx hd0
  subst hx hd0
  intro todo fr cs hn
  exact J.step (wmoves Try.prog B) (.act rfl (.close stp _ rfl rfl hcomp (by rfl) (fun w cap buf s r hs hO => stepG_unwind_close hd hO hq) (h todo fr cs hn)))
end

section
variable {B : World} {F : FuncId} {caps : Array Value} {S : Type} {I : S → List Chunk → Prop} {out : S → Int → List Int} {nx : S → Int → S} {Dom : S → Int → Prop} (hcb : Cb B F caps I out nx Dom)
    {σ₀ : S} {L : List Int} {p : PRec} (hall : p.All = (allOut out nx σ₀ L).map iv) (hdom : DomAll nx Dom σ₀ L) (hlen : L.length < 9223372036854775807) (hlen2 : (allOut out nx σ₀ L).length < 9223372036854775807) {sg : List Chunk} {row : Value}
    (hrow : RowS B sg row (L.map iv)) (hI : I σ₀ sg)
include hcb hall hdom hlen hlen2 hrow hI

theorem work_call : CallsS (WMv Try.prog B) Try.prog 27 #[row, .func (.func F) #[] caps, .chan (some p.O), .chan (some p.S)] ⟨sg, 0, ⟨p, 0, .run false⟩⟩ fun _ t' =>
    ∃ s, t'.x = ⟨p, s, .shut⟩ ∧ t'.d = 0 ∧ FinOf I out nx σ₀ L p.whole s t'.sg := by
  have M := wmoves Try.prog B
  refine callsS_of M Try.func27 (c := Try.f27.body.getD .skip) (by rfl) ?_
  refine wpS_mono (work_any hcb hall hdom hlen hlen2 hrow hI) fun e a t h => ?_
  obtain ⟨he, hdf, s, stp, hx, hd, hcomp, hfin, _⟩ := h
  have key : LeaveS (WMv Try.prog B) 27 a t fun _ t' => ∃ s, t'.x = ⟨p, s, .shut⟩ ∧ t'.d = 0 ∧ FinOf I out nx σ₀ L p.whole s t'.sg :=
    leaveW_close hx hd hcomp hdf (by rfl) (leaveS_done M rfl Try.func27 (resultsC_none (by rfl) _) ⟨s, rfl, rfl, hfin⟩)
  rcases he with rfl | rfl <;> exact key

/-- THE WORKER. -/
theorem worker_any {b4 b5 b10 b11 : Nat} {c4 c5 c10 c11 : TypeId} (h4 : (⟨b4, .cells #[row] c4, false⟩ : Chunk) ∈ sg) (h5 : (⟨b5, .cells #[.func (.func F) #[] caps] c5, false⟩ : Chunk) ∈ sg)
    (h10 : (⟨b10, .cells #[.chan (some p.O)] c10, false⟩ : Chunk) ∈ sg) (h11 : (⟨b11, .cells #[.chan (some p.S)] c11, false⟩ : Chunk) ∈ sg)
    (hfin : ∀ s sw, FinOf I out nx σ₀ L p.whole s sw → p.Fin s sw) :
    J (WMv Try.prog B) ⟨sg, 0, ⟨p, 0, .run false⟩⟩ (born Try.prog { target := .fn (.func 25) #[.pointer (some ⟨p.G, 0, none⟩), .pointer (some ⟨b4, 0, none⟩), .pointer (some ⟨b5, 0, none⟩), .pointer (some ⟨b10, 0, none⟩), .pointer (some ⟨b11, 0, none⟩)], args := #[] }) := by
  have M := wmoves Try.prog B
  refine J.quiet M (g' := G (Frame.enter Try.prog 25 #[.pointer (some ⟨p.G, 0, none⟩), .pointer (some ⟨b4, 0, none⟩), .pointer (some ⟨b5, 0, none⟩), .pointer (some ⟨b10, 0, none⟩), .pointer (some ⟨b11, 0, none⟩)] .deferred) [bornF]) rfl (fun w => ?_) ?_
  · have h0 : (Try.f25.name == "runtime.NumGoroutine") = false := by rfl
    have h1 : ¬ Try.f25.name = "runtime.NumGoroutine" := by simpa using h0
    have h3 : Try.f25.body = some (Try.f25.body.getD .skip) := by rfl
    have h2 : ¬ Try.f25.body = none := by rw [h3]; simp
    simp [G, born, stepG, unwind, callDeferred, invoke, callFunc, Try.func25, GStep.after, seen_none, bornF, h1, h2]
  rw [enter_atD (c := Try.f25.body.getD .skip) _ Try.func25 (by rfl)]
  simp only [Try.ntmps25, List.size_toArray, List.length_cons, List.length_nil, Nat.reduceAdd, Nat.reduceSub, Array.replicate_succ, Array.replicate_zero, List.push_toArray, List.append_toArray, List.nil_append, List.cons_append]
  have hbody : wpS (WMv Try.prog B) 25 (Try.f25.body.getD .skip) (fun e a t => (e = .normal ∨ e = .ret) ∧ a.defers = [dcall 26 #[.pointer (some ⟨p.G, 0, none⟩)]] ∧ ∃ s, t.x = ⟨p, s, .shut⟩ ∧ t.d = 0 ∧ FinOf I out nx σ₀ L p.whole s t.sg)
      ⟨#[.pointer (some ⟨p.G, 0, none⟩), .pointer (some ⟨b4, 0, none⟩), .pointer (some ⟨b5, 0, none⟩), .pointer (some ⟨b10, 0, none⟩), .pointer (some ⟨b11, 0, none⟩), undef, undef, undef, undef, undef], []⟩ ⟨sg, 0, ⟨p, 0, .run false⟩⟩ := by
    have hns : ¬ wstrict (⟨p, 0, .run false⟩ : WX) := by simp [wstrict, WPh.released]
    show wpS _ _ (Code.seq _ _) _ _ _
    refine wpS_seq M ?_
    refine wpS_region M ?_
    simp only [List.size_toArray, List.length_cons, List.length_nil, Nat.reduceAdd, Nat.zero_add, List.range, List.range.loop]
    refine opsS_defer M rfl (by rfl) rfl ?_
    try walk_nrm
    refine opsS_nil M ?_
    try simp only [thenS, inBlockS]
    refine wpS_region M ?_
    simp only [List.size_toArray, List.length_cons, List.length_nil, Nat.reduceAdd, Nat.zero_add, List.range, List.range.loop]
    refine opsS_ld M (j := 0) h4 (by first | rfl | simp | assumption) rfl (by rfl) hns (fun w hcell e he => by simp [go_sem, hcell] at he; exact ⟨_, he⟩) (fun w hcell K hK => ?_)
    go_simp
    refine hK _ ?_
    clear hK K hcell w
    try walk_nrm
    refine opsS_ld M (j := 0) h5 (by first | rfl | simp | assumption) rfl (by rfl) hns (fun w hcell e he => by simp [go_sem, hcell] at he; exact ⟨_, he⟩) (fun w hcell K hK => ?_)
    go_simp
    refine hK _ ?_
    clear hK K hcell w
    try walk_nrm
    refine opsS_ld M (j := 0) h10 (by first | rfl | simp | assumption) rfl (by rfl) hns (fun w hcell e he => by simp [go_sem, hcell] at he; exact ⟨_, he⟩) (fun w hcell K hK => ?_)
    go_simp
    refine hK _ ?_
    clear hK K hcell w
    try walk_nrm
    refine opsS_ld M (j := 0) h11 (by first | rfl | simp | assumption) rfl (by rfl) hns (fun w hcell e he => by simp [go_sem, hcell] at he; exact ⟨_, he⟩) (fun w hcell K hK => ?_)
    go_simp
    refine hK _ ?_
    clear hK K hcell w
    try walk_nrm
    refine opsS_callv M rfl (by rfl) rfl Try.func27 (by rfl) (by rfl) (work_call hcb hall hdom hlen hlen2 hrow hI) (by walk_nrm) ?_
    rintro v t1 ⟨s, h1, h2, h3⟩
    try walk_nrm
    refine opsS_nil M ?_
    try simp only [thenS, inBlockS]
    exact ⟨.inl (by trivial), by trivial, s, h1, h2, h3⟩
  have hend : ∀ (a : Act) (t : Tau WX) (todo : List Item), a.defers = [dcall 26 #[.pointer (some ⟨p.G, 0, none⟩)]] → (∃ s, t.x = ⟨p, s, .shut⟩ ∧ t.d = 0 ∧ FinOf I out nx σ₀ L p.whole s t.sg) → J (WMv Try.prog B) t (G { (baseD 25).at a todo with mode := .returning } [bornF]) := by
    rintro a ⟨sg', d, x⟩ todo hd ⟨s, hx, hd0, pre, suf, e1, e2, e3, e4⟩
    simp only at hx hd0
    subst hx hd0
    by_cases hex : ∃ w, Sat B sg' w
    · obtain ⟨w, hs⟩ := hex
      refine worker_end (sw := sg'.filter (·.own)) (fun c hc => ⟨(List.mem_filter.1 hc).1, (List.mem_filter.1 hc).2⟩) ?_ ?_ hd todo
      · exact hs.nodup.sublist (List.filter_sublist.map _)
      · exact hfin _ _ ⟨pre, suf, e1, e2, hcb.mono _ _ _ (fun c h1 h2 => List.mem_filter.2 ⟨h1, h2⟩) e3, e4⟩
    · exact J.own M ⟨rfl, fun w hw => absurd ⟨w, hw⟩ hex⟩
  refine hbody (baseD 25) [] [bornF] rfl (by simp [baseD]) fun e a t h => ?_
  obtain ⟨he, hd, h⟩ := h
  rcases he with rfl | rfl
  · exact J.quiet M rfl (fun _ => stepG_end) (hend a t [] hd h)
  · exact fun todo => hend a t todo hd h
end

end Go.Proofs.Ytdmhgajamepgoaa.Q
