/-
  OWN TEXT. PIPE: THE WORKER'S END: sync.WaitGroup's Done, as the worker comes to it on its way out.
-/
import Derived.Test.YtdmhgajamepgoaaRi
set_option linter.unusedVariables false
set_option linter.unusedSimpArgs false
set_option linter.unusedSectionVars false
namespace Go.Proofs.Ytdmhgajamepgoaa.Q
open Go Go.Conc

section
variable {X : Type} {P : Program} {main : Bool} {B : World} {Mv : MvT X} {strict : X → Prop} (M : Moves P main B strict Mv) {t : Tau X}
  {b : Frame} {a : Act} {k : List Item} {cs : List Frame} {ops : Array Oper} {i : Nat} {rest : List Nat} {o : Oper}
include M
theorem J.val (v : Value) (ho : ops[i]? = some o) (hw : Region.wanted o (yielded ops a.tmps) = true) (hk : b.kind ≠ .early)
    (hr : ∀ w, (execOp a.eval o).run P w = .ok (.value v) w) (he : ∀ w, (execOp a.eval o).events P w #[] = #[])
    (h : J Mv t (G (b.at (a.put o.dst v) (.inRegion ops rest :: k)) cs)) : J Mv t (G (b.at a (.inRegion ops (i :: rest) :: k)) cs) :=
  J.quiet M rfl (fun w => by rw [stepG_value ho hw hk (hr w)]; unfold listed; rw [he w, seen_none]) h
theorem J.unw (ho : ops[i]? = some o) (hw : Region.wanted o (yielded ops a.tmps) = false)
    (h : J Mv t (G (b.at (a.put o.dst undef) (.inRegion ops rest :: k)) cs)) : J Mv t (G (b.at a (.inRegion ops (i :: rest) :: k)) cs) :=
  J.quiet M rfl (fun _ => stepG_unwanted ho hw) h
theorem J.enterc {f : FuncId} {fu : Func} {c : Code} {args : Array Operand} {ats : Array TypeId} {vs : Array Value} (ho : ops[i]? = some o) (hw : Region.wanted o (yielded ops a.tmps) = true) (hk : b.kind ≠ .early)
    (hop : o.op = .call { callee := .value (.func f), args, argTypes := ats }) (hf : P.funcs[f]? = some fu) (hname : (fu.name == "runtime.NumGoroutine") = false) (hb : fu.body = some c) (hargs : args.map a.eval = vs)
    (h : J Mv t (G ((base f).at { tmps := vs ++ Array.replicate (fu.ntmps - vs.size) undef, defers := [] } [.code c]) (b.at a (.inRegion ops (i :: rest) :: k) :: cs))) : J Mv t (G (b.at a (.inRegion ops (i :: rest) :: k)) cs) := by
  have hb' : fu.body.isNone = false := by rw [hb]; rfl
  have hl : ∀ w, listed P b.fn a o w = #[] := fun w => by unfold listed; rw [events_call_body hop hf hname hb']; exact seen_none P _
  refine J.quiet M rfl (fun w => by rw [stepG_enter ho hw hk (run_call_body hop hf hname hb'), hl w, hargs]) ?_
  rw [enter_at vs hf hb]
  exact h
theorem J.defer {f : FuncId} {xs : Array Operand} {ats : Array TypeId} (ho : ops[i]? = some o) (hw : Region.wanted o (yielded ops a.tmps) = true) (hk : b.kind ≠ .early) (hop : o.op = .defer { callee := .value (.func f), args := xs, argTypes := ats })
    (h : J Mv t (G (b.at (Act.put ⟨a.tmps, dcall f (xs.map a.eval) :: a.defers⟩ o.dst undef) (.inRegion ops rest :: k)) cs)) : J Mv t (G (b.at a (.inRegion ops (i :: rest) :: k)) cs) :=
  J.quiet M rfl (fun _ => stepG_defer ho hw hk hop) h
section
variable {b₀ : Frame} {a₀ : Act} {fn : Func} {todo : List Item}
theorem J.leave1 {u : Tmp} (hn : b.kind = .normal) (hd : a.defers = []) (hf : P.funcs[b.fn]? = some fn) (hr : fn.results = #[.tmp u])
    (h : J Mv t (G (b₀.at (a₀.put ((ops[i]?).bind (·.dst)) (a.tmps.getD u undef)) (.inRegion ops rest :: k)) cs)) :
    J Mv t (G { b.at a todo with mode := .returning } (b₀.at a₀ (.inRegion ops (i :: rest) :: k) :: cs)) :=
  J.quiet M rfl (fun w => by rw [stepG_leave hn hd hf (results_tmp hr _ P w) (events_results_tmp hr _ _), Frame.finish_at]) h
theorem J.leave0 (hn : b.kind = .normal) (hd : a.defers = []) (hf : P.funcs[b.fn]? = some fn) (hr : fn.results = #[])
    (h : J Mv t (G (b₀.at (a₀.put ((ops[i]?).bind (·.dst)) (.tuple #[])) (.inRegion ops rest :: k)) cs)) :
    J Mv t (G { b.at a todo with mode := .returning } (b₀.at a₀ (.inRegion ops (i :: rest) :: k) :: cs)) :=
  J.quiet M rfl (fun w => by rw [stepG_leave hn hd hf (results_none hr _ P w) (events_results_none hr _ _), Frame.finish_at]) h
end
section
variable {f : FuncId} {fu : Func} {xs : Array Operand} {ats : Array TypeId}
  (ho : ops[i]? = some o) (hw : Region.wanted o (yielded ops a.tmps) = true) (hk : b.kind ≠ .early) (hop : o.op = .call { callee := .value (.func f), args := xs, argTypes := ats })
  (hf : P.funcs[f]? = some fu) (hname : (fu.name == "runtime.NumGoroutine") = false) (hb : fu.body.isNone = true) (hn : Extern.findNext fu = none)
include ho hw hk hop hf hname hb hn
theorem J.disable (he : Extern.find fu = some (fun _ => do mark .disable; pure Extern.Race.none_)) (h : J Mv ⟨t.sg, t.d + 1, t.x⟩ (G (b.at (a.put o.dst (.tuple #[])) (.inRegion ops rest :: k)) cs)) : J Mv t (G (b.at a (.inRegion ops (i :: rest) :: k)) cs) :=
  J.own M ⟨rfl, fun w hs => ⟨_, w, _, t.sg, stepG_mark0 .disable (by simp) ho hw hk hop hf hname hb hn he, guar_still hs (by simp; exact .dis), by simp [Event.mute], h⟩⟩
theorem J.pureentry (v : Value) (he : Extern.find fu = some (fun _ => pure v)) (h : J Mv t (G (b.at (a.put o.dst v) (.inRegion ops rest :: k)) cs)) : J Mv t (G (b.at a (.inRegion ops (i :: rest) :: k)) cs) :=
  J.quiet M rfl (fun _ => stepG_entry_pure v ho hw hk hop hf hname hb hn he) h
end
end

/-! ### it only leaves, no count carried -/
def QE (P : Program) (d : Nat) (g : Goroutine) : Prop := ∃ q, QuitsD P q d g
section
variable {P : Program} {b : Frame} {a : Act} {k : List Item} {cs : List Frame} {d : Nat} {ops : Array Oper} {i : Nat} {rest : List Nat} {o : Oper}
theorem QE.ctl {g g' : Goroutine} (hs : g.status = .running) (h : ∀ w, stepG P false g w = .go g' w) (hq : QE P d g') : QE P d g := ⟨_, .ctl hs h hq.choose_spec⟩
theorem QE.value (v : Value) (ho : ops[i]? = some o) (hw : Region.wanted o (yielded ops a.tmps) = true) (hk : b.kind ≠ .early)
    (hr : ∀ w, (execOp a.eval o).run P w = .ok (.value v) w) (he : ∀ w, (execOp a.eval o).events P w #[] = #[])
    (hq : QE P d (G (b.at (a.put o.dst v) (.inRegion ops rest :: k)) cs)) : QE P d (G (b.at a (.inRegion ops (i :: rest) :: k)) cs) := ⟨_, .value v ho hw hk hr he hq.choose_spec⟩
theorem QE.unwanted (ho : ops[i]? = some o) (hw : Region.wanted o (yielded ops a.tmps) = false)
    (hq : QE P d (G (b.at (a.put o.dst undef) (.inRegion ops rest :: k)) cs)) : QE P d (G (b.at a (.inRegion ops (i :: rest) :: k)) cs) := ⟨_, .unwanted ho hw hq.choose_spec⟩
section
variable {fn : Func} {todo : List Item} {ds : List Deferred} {f : FuncId} {b₀ : Frame} {a₀ : Act}
theorem QE.enable (hd : a.defers = dcall f #[] :: ds)
    (hf : P.funcs[f]? = some fn) (hname : (fn.name == "runtime.NumGoroutine") = false) (hb : fn.body.isNone = true) (hn : Extern.findNext fn = none)
    (he : Extern.find fn = some (fun _ => do mark .enable; pure Extern.Race.none_))
    (hq : QE P (d - 1) (G { b.at ⟨a.tmps, ds⟩ todo with mode := .returning } cs)) : QE P d (G { b.at a todo with mode := .returning } cs) :=
  ⟨_, .unwind_mark .enable rfl (by simp) hd hf hname hb hn he hq.choose_spec⟩
theorem QE.leave0 (hn : b.kind = .normal) (hd : a.defers = []) (hf : P.funcs[b.fn]? = some fn) (hr : fn.results = #[])
    (hq : QE P d (G (b₀.at (a₀.put ((ops[i]?).bind (·.dst)) (.tuple #[])) (.inRegion ops rest :: k)) cs)) :
    QE P d (G { b.at a todo with mode := .returning } (b₀.at a₀ (.inRegion ops (i :: rest) :: k) :: cs)) := ⟨_, .leave0 hn hd hf hr hq.choose_spec⟩
theorem QE.leave1 {t : Tmp} (hn : b.kind = .normal) (hd : a.defers = []) (hf : P.funcs[b.fn]? = some fn) (hr : fn.results = #[.tmp t])
    (hq : QE P d (G (b₀.at (a₀.put ((ops[i]?).bind (·.dst)) (a.tmps.getD t undef)) (.inRegion ops rest :: k)) cs)) :
    QE P d (G { b.at a todo with mode := .returning } (b₀.at a₀ (.inRegion ops (i :: rest) :: k) :: cs)) := ⟨_, .leave1 hn hd hf hr hq.choose_spec⟩
theorem QE.leaveD {c : Frame} (hn : b.kind = .deferred) (hd : a.defers = []) (hf : P.funcs[b.fn]? = some fn) (hr : fn.results = #[]) (hc : c.mode = .returning)
    (hq : QE P d (G c cs)) : QE P d (G { b.at a todo with mode := .returning } (c :: cs)) := ⟨_, .leaveD hn hd hf hr hc hq.choose_spec⟩
end
end

/-- A goroutine's bottom frame once its one call is made. -/
noncomputable def bornF : Frame := { (default : Frame) with fn := Try.prog.funcs.size, defers := [], mode := .panicking [goexitEntry] }

/-- f25 has come to its end: the goroutine leaves. -/
theorem qe_root (a : Act) (todo : List Item) : QE Try.prog 0 (G { (baseD 25).at ⟨a.tmps, []⟩ todo with mode := .returning } [bornF]) := by
  refine QE.ctl (g' := G bornF []) rfl (fun w => ?_) ?_
  · have hf : Try.prog.funcs[(baseD 25).fn]? = some _ := Try.func25
    simp [G, stepG, unwind, doReturn, Frame.at, baseD, Try.func25, results_none (fn := Try.f25) (by rfl), events_results_none (fn := Try.f25) (by rfl), seen, GStep.after, bornF, goexitEntry]
  · refine ⟨1, .inr ⟨rfl, { (G bornF []) with status := .finished }, #[], by simp, fun w => ?_, rfl, rfl⟩⟩
    simp [G, stepG, unwind, bornF, goexitEntry, Frame.catches]
    rfl

section
variable {P : Program} {B : World} {t : Tau WX} {b : Frame} {a : Act} {k : List Item} {cs : List Frame} {ops : Array Oper} {i : Nat} {rest : List Nat} {o : Oper}
/-- A pointer into the group, as an unsafe one. -/
theorem JW.rawptr {src dst tt : TypeId} {x : Operand} {j : Nat} (hj : j < 2) (hph : t.x.ph = .shut) (ho : ops[i]? = some o) (hw : Region.wanted o (yielded ops a.tmps) = true) (hk : b.kind ≠ .early) (hop : o.op = .convert src dst x)
    (hs : P.underlying src = some (.pointer tt)) (hd : P.underlying dst = some .unsafePointer) (hsz : (P.info? tt).map (fun i => decide (i.size = 0)) = some false) (hx : a.eval x = .pointer (some ⟨t.x.p.G, j, none⟩))
    (h : J (WMv P B) t (G (b.at (a.put o.dst (.pointer (some ⟨t.x.p.G, j, none⟩))) (.inRegion ops rest :: k)) cs)) : J (WMv P B) t (G (b.at a (.inRegion ops (i :: rest) :: k)) cs) := by
  refine J.step (wmoves P B) (.act rfl (.look _ hph (fun w st sm hsat hg => ?_) h))
  have hcell : ∃ u, w.cell? ⟨t.x.p.G, j, none⟩ = some u := by
    obtain rfl | rfl : j = 0 ∨ j = 1 := by omega
    · exact ⟨.int .u64 st, by simp [World.cell?, hg, wgO]⟩
    · exact ⟨.int .u32 sm, by simp [World.cell?, hg, wgO]⟩
  obtain ⟨u, hcell⟩ := hcell
  obtain ⟨hr, he⟩ := run_unsafe hop hs hd hsz hx hcell
  rw [stepG_value ho hw hk hr]
  unfold listed
  rw [he, seen_none]
end

theorem wgO_cell0 {w : World} {G : Nat} {ty : TypeId} {st sm : Int} (h : w.heap[G]? = some (wgO ty st sm)) : w.cell? ⟨G, 0, none⟩ = some (.int .u64 st) ∧ w.frozen? ⟨G, 0, none⟩ = false := by simp [World.cell?, World.frozen?, h, wgO]
theorem wgO_cell1 {w : World} {G : Nat} {ty : TypeId} {st sm : Int} (h : w.heap[G]? = some (wgO ty st sm)) : w.cell? ⟨G, 1, none⟩ = some (.int .u32 sm) ∧ w.frozen? ⟨G, 1, none⟩ = false := by simp [World.cell?, World.frozen?, h, wgO]

set_option maxRecDepth 100000 in
set_option maxHeartbeats 4000000 in
theorem worker_end {B : World} {p : PRec} {s : Nat} {sg sw : List Chunk} (hsw : ∀ c ∈ sw, c ∈ sg ∧ c.own = true) (hnd : (sw.map Chunk.b).Nodup) (hfin : p.Fin s sw) {a : Act} (hd : a.defers = [dcall 26 #[.pointer (some ⟨p.G, 0, none⟩)]]) (todo : List Item) :
    J (WMv Try.prog B) ⟨sg, 0, ⟨p, s, .shut⟩⟩ (G { (baseD 25).at a todo with mode := .returning } [bornF]) := by
  have M := wmoves Try.prog B
  refine J.quiet M rfl (fun w => stepG_unwind_enter hd Try.func26 (by rfl) (by rfl)) ?_
  simp only [Try.ntmps26, List.size_toArray, List.length_cons, List.length_nil, Nat.reduceAdd, Nat.reduceSub, Array.replicate_succ, Array.replicate_zero, List.push_toArray, List.append_toArray, List.nil_append, List.cons_append]
  (refine J.quiet M rfl (fun _ => stepG_region) ?_; simp only [List.size_toArray, List.length_cons, List.length_nil, Nat.reduceAdd, Nat.zero_add, List.range, List.range.loop])
  (refine J.val M _ rfl rfl (by intro h; cases h) (fun _ => run_eq_of (fun K hK => by go_simp; (try simp only [IntKind.wrap_u64, IntKind.wrap_u32, IntKind.wrap_i32, Int.reduceMul, Int.reduceMod, Int.reduceAdd, Int.reduceSub, Int.reduceDiv, Int.reducePow, Int.reduceNeg, Int.zero_add, Int.add_zero, Int.one_mul, nb0, nb1, nb2, nb3, nc0, nc1, nc2, nc3]); exact hK)) (fun _ => by first | (simp [go_sem]; done) | fail) ?_; (try walk_nrm))
  refine J.enterc M rfl rfl (by intro h; cases h) rfl Try.func24 (by rfl) (by rfl) (by walk_nrm; rfl) ?_
  simp only [Try.ntmps24, List.size_toArray, List.length_cons, List.length_nil, Nat.reduceAdd, Nat.reduceSub, Array.replicate_succ, Array.replicate_zero, List.push_toArray, List.append_toArray, List.nil_append, List.cons_append]
  (refine J.quiet M rfl (fun _ => stepG_seq) ?_)
  (refine J.quiet M rfl (fun _ => stepG_cond (t := true) rfl) ?_; simp only [if_true, if_false, Bool.false_eq_true, reduceIte])
  (refine J.quiet M rfl (fun _ => stepG_seq) ?_)
  (refine J.quiet M rfl (fun _ => stepG_seq) ?_)
  (refine J.quiet M rfl (fun _ => stepG_region) ?_; simp only [List.size_toArray, List.length_cons, List.length_nil, Nat.reduceAdd, Nat.zero_add, List.range, List.range.loop])
  (refine J.val M _ rfl rfl (by intro h; cases h) (fun _ => run_eq_of (fun K hK => by go_simp; (try simp only [IntKind.wrap_u64, IntKind.wrap_u32, IntKind.wrap_i32, Int.reduceMul, Int.reduceMod, Int.reduceAdd, Int.reduceSub, Int.reduceDiv, Int.reducePow, Int.reduceNeg, Int.zero_add, Int.add_zero, Int.one_mul, nb0, nb1, nb2, nb3, nc0, nc1, nc2, nc3]); exact hK)) (fun _ => by first | (simp [go_sem]; done) | fail) ?_; (try walk_nrm))
  (refine J.val M _ rfl rfl (by intro h; cases h) (fun _ => run_eq_of (fun K hK => by go_simp; (try simp only [IntKind.wrap_u64, IntKind.wrap_u32, IntKind.wrap_i32, Int.reduceMul, Int.reduceMod, Int.reduceAdd, Int.reduceSub, Int.reduceDiv, Int.reducePow, Int.reduceNeg, Int.zero_add, Int.add_zero, Int.one_mul, nb0, nb1, nb2, nb3, nc0, nc1, nc2, nc3]); exact hK)) (fun _ => by first | (simp [go_sem]; done) | fail) ?_; (try walk_nrm))
  (refine J.quiet M rfl (fun _ => stepG_region_end) ?_)
  (refine J.quiet M rfl (fun _ => stepG_cond (t := true) rfl) ?_; simp only [if_true, if_false, Bool.false_eq_true, reduceIte])
  (refine J.quiet M rfl (fun _ => stepG_region) ?_; simp only [List.size_toArray, List.length_cons, List.length_nil, Nat.reduceAdd, Nat.zero_add, List.range, List.range.loop])
  (refine J.val M _ rfl rfl (by intro h; cases h) (fun _ => run_eq_of (fun K hK => by go_simp; (try simp only [IntKind.wrap_u64, IntKind.wrap_u32, IntKind.wrap_i32, Int.reduceMul, Int.reduceMod, Int.reduceAdd, Int.reduceSub, Int.reduceDiv, Int.reducePow, Int.reduceNeg, Int.zero_add, Int.add_zero, Int.one_mul, nb0, nb1, nb2, nb3, nc0, nc1, nc2, nc3]); exact hK)) (fun _ => by first | (simp [go_sem]; done) | fail) ?_; (try walk_nrm))
  refine JW.rawptr (j := 0) (by omega) rfl rfl rfl (by intro h; cases h) rfl (tt := 68) (by rfl) (by rfl) (by rfl) rfl ?_
  try walk_nrm
  refine J.step M (.act rfl (.rel _ sw rfl rfl (fun w hs => stepG_markAt .releaseMerge (by simp) rfl rfl (by intro h; cases h) rfl Try.func31 (by rfl) (by rfl) (by rfl) (by kernel_rfl) (ad := ⟨p.G, 0, none⟩) (by walk_nrm)) hsw hnd hfin ?_))
  try walk_nrm
  (refine J.quiet M rfl (fun _ => stepG_region_end) ?_)
  (refine J.quiet M rfl (fun _ => stepG_seq) ?_)
  (refine J.quiet M rfl (fun _ => stepG_region) ?_; simp only [List.size_toArray, List.length_cons, List.length_nil, Nat.reduceAdd, Nat.zero_add, List.range, List.range.loop])
  refine J.disable M rfl rfl (by intro h; cases h) rfl Try.func32 (by rfl) (by rfl) (by rfl) (by kernel_rfl) ?_
  try walk_nrm
  (refine J.quiet M rfl (fun _ => stepG_region_end) ?_)
  (refine J.quiet M rfl (fun _ => stepG_region) ?_; simp only [List.size_toArray, List.length_cons, List.length_nil, Nat.reduceAdd, Nat.zero_add, List.range, List.range.loop])
  refine J.defer M rfl rfl (by intro h; cases h) rfl ?_
  try walk_nrm
  (refine J.quiet M rfl (fun _ => stepG_region_end) ?_)
  (refine J.quiet M rfl (fun _ => stepG_seq) ?_)
  (refine J.quiet M rfl (fun _ => stepG_region) ?_; simp only [List.size_toArray, List.length_cons, List.length_nil, Nat.reduceAdd, Nat.zero_add, List.range, List.range.loop])
  (refine J.val M _ rfl rfl (by intro h; cases h) (fun _ => run_eq_of (fun K hK => by go_simp; (try simp only [IntKind.wrap_u64, IntKind.wrap_u32, IntKind.wrap_i32, Int.reduceMul, Int.reduceMod, Int.reduceAdd, Int.reduceSub, Int.reduceDiv, Int.reducePow, Int.reduceNeg, Int.zero_add, Int.add_zero, Int.one_mul, nb0, nb1, nb2, nb3, nc0, nc1, nc2, nc3]); exact hK)) (fun _ => by first | (simp [go_sem]; done) | fail) ?_; (try walk_nrm))
  (refine J.quiet M rfl (fun _ => stepG_region_end) ?_)
  (refine J.quiet M rfl (fun _ => stepG_seq) ?_)
  (refine J.quiet M rfl (fun _ => stepG_seq) ?_)
  (refine J.quiet M rfl (fun _ => stepG_region) ?_; simp only [List.size_toArray, List.length_cons, List.length_nil, Nat.reduceAdd, Nat.zero_add, List.range, List.range.loop])
  refine J.pureentry M rfl rfl (by intro h; cases h) rfl Try.func34 (by rfl) (by rfl) (by rfl) (.bool false) (by kernel_rfl) ?_
  try walk_nrm
  (refine J.quiet M rfl (fun _ => stepG_region_end) ?_)
  (refine J.quiet M rfl (fun _ => stepG_cond (t := false) rfl) ?_; simp only [if_true, if_false, Bool.false_eq_true, reduceIte])
  (refine J.quiet M rfl (fun _ => stepG_skip) ?_)
  (refine J.quiet M rfl (fun _ => stepG_seq) ?_)
  (refine J.quiet M rfl (fun _ => stepG_region) ?_; simp only [List.size_toArray, List.length_cons, List.length_nil, Nat.reduceAdd, Nat.zero_add, List.range, List.range.loop])
  (refine J.val M _ rfl rfl (by intro h; cases h) (fun _ => run_eq_of (fun K hK => by go_simp; (try simp only [IntKind.wrap_u64, IntKind.wrap_u32, IntKind.wrap_i32, Int.reduceMul, Int.reduceMod, Int.reduceAdd, Int.reduceSub, Int.reduceDiv, Int.reducePow, Int.reduceNeg, Int.zero_add, Int.add_zero, Int.one_mul, nb0, nb1, nb2, nb3, nc0, nc1, nc2, nc3]); exact hK)) (fun _ => by first | (simp [go_sem]; done) | fail) ?_; (try walk_nrm))
  (refine J.val M _ rfl rfl (by intro h; cases h) (fun _ => run_eq_of (fun K hK => by go_simp; (try simp only [IntKind.wrap_u64, IntKind.wrap_u32, IntKind.wrap_i32, Int.reduceMul, Int.reduceMod, Int.reduceAdd, Int.reduceSub, Int.reduceDiv, Int.reducePow, Int.reduceNeg, Int.zero_add, Int.add_zero, Int.one_mul, nb0, nb1, nb2, nb3, nc0, nc1, nc2, nc3]); exact hK)) (fun _ => by first | (simp [go_sem]; done) | fail) ?_; (try walk_nrm))
  (refine J.val M _ rfl rfl (by intro h; cases h) (fun _ => run_eq_of (fun K hK => by go_simp; (try simp only [IntKind.wrap_u64, IntKind.wrap_u32, IntKind.wrap_i32, Int.reduceMul, Int.reduceMod, Int.reduceAdd, Int.reduceSub, Int.reduceDiv, Int.reducePow, Int.reduceNeg, Int.zero_add, Int.add_zero, Int.one_mul, nb0, nb1, nb2, nb3, nc0, nc1, nc2, nc3]); exact hK)) (fun _ => by first | (simp [go_sem]; done) | fail) ?_; (try walk_nrm))
  (refine J.val M _ rfl rfl (by intro h; cases h) (fun _ => run_eq_of (fun K hK => by go_simp; (try simp only [IntKind.wrap_u64, IntKind.wrap_u32, IntKind.wrap_i32, Int.reduceMul, Int.reduceMod, Int.reduceAdd, Int.reduceSub, Int.reduceDiv, Int.reducePow, Int.reduceNeg, Int.zero_add, Int.add_zero, Int.one_mul, nb0, nb1, nb2, nb3, nc0, nc1, nc2, nc3]); exact hK)) (fun _ => by first | (simp [go_sem]; done) | fail) ?_; (try walk_nrm))
  (refine J.val M _ rfl rfl (by intro h; cases h) (fun _ => run_eq_of (fun K hK => by go_simp; (try simp only [IntKind.wrap_u64, IntKind.wrap_u32, IntKind.wrap_i32, Int.reduceMul, Int.reduceMod, Int.reduceAdd, Int.reduceSub, Int.reduceDiv, Int.reducePow, Int.reduceNeg, Int.zero_add, Int.add_zero, Int.one_mul, nb0, nb1, nb2, nb3, nc0, nc1, nc2, nc3]); exact hK)) (fun _ => by first | (simp [go_sem]; done) | fail) ?_; (try walk_nrm))
  (refine J.val M _ rfl rfl (by intro h; cases h) (fun _ => run_eq_of (fun K hK => by go_simp; (try simp only [IntKind.wrap_u64, IntKind.wrap_u32, IntKind.wrap_i32, Int.reduceMul, Int.reduceMod, Int.reduceAdd, Int.reduceSub, Int.reduceDiv, Int.reducePow, Int.reduceNeg, Int.zero_add, Int.add_zero, Int.one_mul, nb0, nb1, nb2, nb3, nc0, nc1, nc2, nc3]); exact hK)) (fun _ => by first | (simp [go_sem]; done) | fail) ?_; (try walk_nrm))
  refine J.enterc M rfl rfl (by intro h; cases h) rfl Try.func38 (by rfl) (by rfl) (by walk_nrm; rfl) ?_
  simp only [Try.ntmps38, List.size_toArray, List.length_cons, List.length_nil, Nat.reduceAdd, Nat.reduceSub, Array.replicate_succ, Array.replicate_zero, List.push_toArray, List.append_toArray, List.nil_append, List.cons_append]
  (refine J.quiet M rfl (fun _ => stepG_seq) ?_)
  (refine J.quiet M rfl (fun _ => stepG_region) ?_; simp only [List.size_toArray, List.length_cons, List.length_nil, Nat.reduceAdd, Nat.zero_add, List.range, List.range.loop])
  (refine J.val M _ rfl rfl (by intro h; cases h) (fun _ => run_eq_of (fun K hK => by go_simp; (try simp only [IntKind.wrap_u64, IntKind.wrap_u32, IntKind.wrap_i32, Int.reduceMul, Int.reduceMod, Int.reduceAdd, Int.reduceSub, Int.reduceDiv, Int.reducePow, Int.reduceNeg, Int.zero_add, Int.add_zero, Int.one_mul, nb0, nb1, nb2, nb3, nc0, nc1, nc2, nc3]); exact hK)) (fun _ => by first | (simp [go_sem]; done) | fail) ?_; (try walk_nrm))
  (refine J.quiet M rfl (fun _ => stepG_region_end) ?_)
  (refine J.quiet M rfl (fun _ => stepG_seq) ?_)
  (refine J.quiet M rfl (fun _ => stepG_region) ?_; simp only [List.size_toArray, List.length_cons, List.length_nil, Nat.reduceAdd, Nat.zero_add, List.range, List.range.loop])
  (refine J.val M _ rfl rfl (by intro h; cases h) (fun _ => run_eq_of (fun K hK => by go_simp; (try simp only [IntKind.wrap_u64, IntKind.wrap_u32, IntKind.wrap_i32, Int.reduceMul, Int.reduceMod, Int.reduceAdd, Int.reduceSub, Int.reduceDiv, Int.reducePow, Int.reduceNeg, Int.zero_add, Int.add_zero, Int.one_mul, nb0, nb1, nb2, nb3, nc0, nc1, nc2, nc3]); exact hK)) (fun _ => by first | (simp [go_sem]; done) | fail) ?_; (try walk_nrm))
  (refine J.val M _ rfl rfl (by intro h; cases h) (fun _ => run_eq_of (fun K hK => by go_simp; (try simp only [IntKind.wrap_u64, IntKind.wrap_u32, IntKind.wrap_i32, Int.reduceMul, Int.reduceMod, Int.reduceAdd, Int.reduceSub, Int.reduceDiv, Int.reducePow, Int.reduceNeg, Int.zero_add, Int.add_zero, Int.one_mul, nb0, nb1, nb2, nb3, nc0, nc1, nc2, nc3]); exact hK)) (fun _ => by first | (simp [go_sem]; done) | fail) ?_; (try walk_nrm))
  (refine J.val M _ rfl rfl (by intro h; cases h) (fun _ => run_eq_of (fun K hK => by go_simp; (try simp only [IntKind.wrap_u64, IntKind.wrap_u32, IntKind.wrap_i32, Int.reduceMul, Int.reduceMod, Int.reduceAdd, Int.reduceSub, Int.reduceDiv, Int.reducePow, Int.reduceNeg, Int.zero_add, Int.add_zero, Int.one_mul, nb0, nb1, nb2, nb3, nc0, nc1, nc2, nc3]); exact hK)) (fun _ => by first | (simp [go_sem]; done) | fail) ?_; (try walk_nrm))
  (refine J.val M _ rfl rfl (by intro h; cases h) (fun _ => run_eq_of (fun K hK => by go_simp; (try simp only [IntKind.wrap_u64, IntKind.wrap_u32, IntKind.wrap_i32, Int.reduceMul, Int.reduceMod, Int.reduceAdd, Int.reduceSub, Int.reduceDiv, Int.reducePow, Int.reduceNeg, Int.zero_add, Int.add_zero, Int.one_mul, nb0, nb1, nb2, nb3, nc0, nc1, nc2, nc3]); exact hK)) (fun _ => by first | (simp [go_sem]; done) | fail) ?_; (try walk_nrm))
  have e0 : IntKind.u64.wrap (KK + 18446744069414584320) = 0 := by decide
  have e1 : IntKind.u64.wrap (KK + 1 + 18446744069414584320) = 1 := by decide
  refine J.step M (.act rfl (.add rfl (Nat.succ_pos _) (fun w hs hg => ?_) (fun w hs hg => ?_)))
  · have hcell := wgO_cell0 hg
    refine ⟨_, (stepG_add_atomic rfl rfl (by intro h; cases h) rfl Try.func54 (by rfl) (by rfl) (by rfl) .u64 (by kernel_rfl) rfl rfl hcell.1 hcell.2).trans (by rw [e0]; rfl), ?_⟩
    clear hcell hg hs w
    change QE _ _ _
    try walk_nrm
    (refine QE.value _ rfl rfl (by intro h; cases h) (fun _ => run_eq_of (fun K hK => by go_simp; (try simp only [IntKind.wrap_u64, IntKind.wrap_u32, IntKind.wrap_i32, Int.reduceMul, Int.reduceMod, Int.reduceAdd, Int.reduceSub, Int.reduceDiv, Int.reducePow, Int.reduceNeg, Int.zero_add, Int.add_zero, Int.one_mul, nb0, nb1, nb2, nb3, nc0, nc1, nc2, nc3]); exact hK)) (fun _ => by first | (simp [go_sem]; done) | fail) ?_; (try walk_nrm))
    (refine QE.ctl rfl (fun _ => stepG_region_end) ?_)
    (refine QE.ctl rfl (fun _ => stepG_ret') ?_)
    refine QE.leave1 rfl rfl Try.func38 rfl ?_
    try walk_nrm
    (refine QE.value _ rfl rfl (by intro h; cases h) (fun _ => run_eq_of (fun K hK => by go_simp; (try simp only [IntKind.wrap_u64, IntKind.wrap_u32, IntKind.wrap_i32, Int.reduceMul, Int.reduceMod, Int.reduceAdd, Int.reduceSub, Int.reduceDiv, Int.reducePow, Int.reduceNeg, Int.zero_add, Int.add_zero, Int.one_mul, nb0, nb1, nb2, nb3, nc0, nc1, nc2, nc3]); exact hK)) (fun _ => by first | (simp [go_sem]; done) | fail) ?_; (try walk_nrm))
    (refine QE.ctl rfl (fun _ => stepG_region_end) ?_)
    (refine QE.ctl rfl (fun _ => stepG_seq) ?_)
    (refine QE.ctl rfl (fun _ => stepG_seq) ?_)
    (refine QE.ctl rfl (fun _ => stepG_region) ?_; simp only [List.size_toArray, List.length_cons, List.length_nil, Nat.reduceAdd, Nat.zero_add, List.range, List.range.loop])
    (refine QE.value _ rfl rfl (by intro h; cases h) (fun _ => run_eq_of (fun K hK => by go_simp; (try simp only [IntKind.wrap_u64, IntKind.wrap_u32, IntKind.wrap_i32, Int.reduceMul, Int.reduceMod, Int.reduceAdd, Int.reduceSub, Int.reduceDiv, Int.reducePow, Int.reduceNeg, Int.zero_add, Int.add_zero, Int.one_mul, nb0, nb1, nb2, nb3, nc0, nc1, nc2, nc3]); exact hK)) (fun _ => by first | (simp [go_sem]; done) | fail) ?_; (try walk_nrm))
    (refine QE.value _ rfl rfl (by intro h; cases h) (fun _ => run_eq_of (fun K hK => by go_simp; (try simp only [IntKind.wrap_u64, IntKind.wrap_u32, IntKind.wrap_i32, Int.reduceMul, Int.reduceMod, Int.reduceAdd, Int.reduceSub, Int.reduceDiv, Int.reducePow, Int.reduceNeg, Int.zero_add, Int.add_zero, Int.one_mul, nb0, nb1, nb2, nb3, nc0, nc1, nc2, nc3]); exact hK)) (fun _ => by first | (simp [go_sem]; done) | fail) ?_; (try walk_nrm))
    (refine QE.value _ rfl rfl (by intro h; cases h) (fun _ => run_eq_of (fun K hK => by go_simp; (try simp only [IntKind.wrap_u64, IntKind.wrap_u32, IntKind.wrap_i32, Int.reduceMul, Int.reduceMod, Int.reduceAdd, Int.reduceSub, Int.reduceDiv, Int.reducePow, Int.reduceNeg, Int.zero_add, Int.add_zero, Int.one_mul, nb0, nb1, nb2, nb3, nc0, nc1, nc2, nc3]); exact hK)) (fun _ => by first | (simp [go_sem]; done) | fail) ?_; (try walk_nrm))
    (refine QE.value _ rfl rfl (by intro h; cases h) (fun _ => run_eq_of (fun K hK => by go_simp; (try simp only [IntKind.wrap_u64, IntKind.wrap_u32, IntKind.wrap_i32, Int.reduceMul, Int.reduceMod, Int.reduceAdd, Int.reduceSub, Int.reduceDiv, Int.reducePow, Int.reduceNeg, Int.zero_add, Int.add_zero, Int.one_mul, nb0, nb1, nb2, nb3, nc0, nc1, nc2, nc3]); exact hK)) (fun _ => by first | (simp [go_sem]; done) | fail) ?_; (try walk_nrm))
    (refine QE.unwanted rfl rfl ?_; (try walk_nrm))
    (refine QE.unwanted rfl rfl ?_; (try walk_nrm))
    (refine QE.value _ rfl rfl (by intro h; cases h) (fun _ => run_eq_of (fun K hK => by go_simp; (try simp only [IntKind.wrap_u64, IntKind.wrap_u32, IntKind.wrap_i32, Int.reduceMul, Int.reduceMod, Int.reduceAdd, Int.reduceSub, Int.reduceDiv, Int.reducePow, Int.reduceNeg, Int.zero_add, Int.add_zero, Int.one_mul, nb0, nb1, nb2, nb3, nc0, nc1, nc2, nc3]); exact hK)) (fun _ => by first | (simp [go_sem]; done) | fail) ?_; (try walk_nrm))
    (refine QE.ctl rfl (fun _ => stepG_region_end) ?_)
    (refine QE.ctl rfl (fun _ => stepG_cond (t := false) rfl) ?_; simp only [if_true, if_false, Bool.false_eq_true, reduceIte])
    (refine QE.ctl rfl (fun _ => stepG_skip) ?_)
    (refine QE.ctl rfl (fun _ => stepG_seq) ?_)
    (refine QE.ctl rfl (fun _ => stepG_region) ?_; simp only [List.size_toArray, List.length_cons, List.length_nil, Nat.reduceAdd, Nat.zero_add, List.range, List.range.loop])
    (refine QE.value _ rfl rfl (by intro h; cases h) (fun _ => run_eq_of (fun K hK => by go_simp; (try simp only [IntKind.wrap_u64, IntKind.wrap_u32, IntKind.wrap_i32, Int.reduceMul, Int.reduceMod, Int.reduceAdd, Int.reduceSub, Int.reduceDiv, Int.reducePow, Int.reduceNeg, Int.zero_add, Int.add_zero, Int.one_mul, nb0, nb1, nb2, nb3, nc0, nc1, nc2, nc3]); exact hK)) (fun _ => by first | (simp [go_sem]; done) | fail) ?_; (try walk_nrm))
    (refine QE.value _ rfl rfl (by intro h; cases h) (fun _ => run_eq_of (fun K hK => by go_simp; (try simp only [IntKind.wrap_u64, IntKind.wrap_u32, IntKind.wrap_i32, Int.reduceMul, Int.reduceMod, Int.reduceAdd, Int.reduceSub, Int.reduceDiv, Int.reducePow, Int.reduceNeg, Int.zero_add, Int.add_zero, Int.one_mul, nb0, nb1, nb2, nb3, nc0, nc1, nc2, nc3]); exact hK)) (fun _ => by first | (simp [go_sem]; done) | fail) ?_; (try walk_nrm))
    (refine QE.value _ rfl rfl (by intro h; cases h) (fun _ => run_eq_of (fun K hK => by go_simp; (try simp only [IntKind.wrap_u64, IntKind.wrap_u32, IntKind.wrap_i32, Int.reduceMul, Int.reduceMod, Int.reduceAdd, Int.reduceSub, Int.reduceDiv, Int.reducePow, Int.reduceNeg, Int.zero_add, Int.add_zero, Int.one_mul, nb0, nb1, nb2, nb3, nc0, nc1, nc2, nc3]); exact hK)) (fun _ => by first | (simp [go_sem]; done) | fail) ?_; (try walk_nrm))
    (refine QE.value _ rfl rfl (by intro h; cases h) (fun _ => run_eq_of (fun K hK => by go_simp; (try simp only [IntKind.wrap_u64, IntKind.wrap_u32, IntKind.wrap_i32, Int.reduceMul, Int.reduceMod, Int.reduceAdd, Int.reduceSub, Int.reduceDiv, Int.reducePow, Int.reduceNeg, Int.zero_add, Int.add_zero, Int.one_mul, nb0, nb1, nb2, nb3, nc0, nc1, nc2, nc3]); exact hK)) (fun _ => by first | (simp [go_sem]; done) | fail) ?_; (try walk_nrm))
    (refine QE.ctl rfl (fun _ => stepG_region_end) ?_)
    (refine QE.ctl rfl (fun _ => stepG_seq) ?_)
    (refine QE.ctl rfl (fun _ => stepG_region) ?_; simp only [List.size_toArray, List.length_cons, List.length_nil, Nat.reduceAdd, Nat.zero_add, List.range, List.range.loop])
    (refine QE.value _ rfl rfl (by intro h; cases h) (fun _ => run_eq_of (fun K hK => by go_simp; (try simp only [IntKind.wrap_u64, IntKind.wrap_u32, IntKind.wrap_i32, Int.reduceMul, Int.reduceMod, Int.reduceAdd, Int.reduceSub, Int.reduceDiv, Int.reducePow, Int.reduceNeg, Int.zero_add, Int.add_zero, Int.one_mul, nb0, nb1, nb2, nb3, nc0, nc1, nc2, nc3]); exact hK)) (fun _ => by first | (simp [go_sem]; done) | fail) ?_; (try walk_nrm))
    (refine QE.value _ rfl rfl (by intro h; cases h) (fun _ => run_eq_of (fun K hK => by go_simp; (try simp only [IntKind.wrap_u64, IntKind.wrap_u32, IntKind.wrap_i32, Int.reduceMul, Int.reduceMod, Int.reduceAdd, Int.reduceSub, Int.reduceDiv, Int.reducePow, Int.reduceNeg, Int.zero_add, Int.add_zero, Int.one_mul, nb0, nb1, nb2, nb3, nc0, nc1, nc2, nc3]); exact hK)) (fun _ => by first | (simp [go_sem]; done) | fail) ?_; (try walk_nrm))
    (refine QE.value _ rfl rfl (by intro h; cases h) (fun _ => run_eq_of (fun K hK => by go_simp; (try simp only [IntKind.wrap_u64, IntKind.wrap_u32, IntKind.wrap_i32, Int.reduceMul, Int.reduceMod, Int.reduceAdd, Int.reduceSub, Int.reduceDiv, Int.reducePow, Int.reduceNeg, Int.zero_add, Int.add_zero, Int.one_mul, nb0, nb1, nb2, nb3, nc0, nc1, nc2, nc3]); exact hK)) (fun _ => by first | (simp [go_sem]; done) | fail) ?_; (try walk_nrm))
    (refine QE.value _ rfl rfl (by intro h; cases h) (fun _ => run_eq_of (fun K hK => by go_simp; (try simp only [IntKind.wrap_u64, IntKind.wrap_u32, IntKind.wrap_i32, Int.reduceMul, Int.reduceMod, Int.reduceAdd, Int.reduceSub, Int.reduceDiv, Int.reducePow, Int.reduceNeg, Int.zero_add, Int.add_zero, Int.one_mul, nb0, nb1, nb2, nb3, nc0, nc1, nc2, nc3]); exact hK)) (fun _ => by first | (simp [go_sem]; done) | fail) ?_; (try walk_nrm))
    (refine QE.ctl rfl (fun _ => stepG_region_end) ?_)
    (refine QE.ctl rfl (fun _ => stepG_seq) ?_)
    (refine QE.ctl rfl (fun _ => stepG_seq) ?_)
    (refine QE.ctl rfl (fun _ => stepG_region) ?_; simp only [List.size_toArray, List.length_cons, List.length_nil, Nat.reduceAdd, Nat.zero_add, List.range, List.range.loop])
    (refine QE.value _ rfl rfl (by intro h; cases h) (fun _ => run_eq_of (fun K hK => by go_simp; (try simp only [IntKind.wrap_u64, IntKind.wrap_u32, IntKind.wrap_i32, Int.reduceMul, Int.reduceMod, Int.reduceAdd, Int.reduceSub, Int.reduceDiv, Int.reducePow, Int.reduceNeg, Int.zero_add, Int.add_zero, Int.one_mul, nb0, nb1, nb2, nb3, nc0, nc1, nc2, nc3]); exact hK)) (fun _ => by first | (simp [go_sem]; done) | fail) ?_; (try walk_nrm))
    (refine QE.value _ rfl rfl (by intro h; cases h) (fun _ => run_eq_of (fun K hK => by go_simp; (try simp only [IntKind.wrap_u64, IntKind.wrap_u32, IntKind.wrap_i32, Int.reduceMul, Int.reduceMod, Int.reduceAdd, Int.reduceSub, Int.reduceDiv, Int.reducePow, Int.reduceNeg, Int.zero_add, Int.add_zero, Int.one_mul, nb0, nb1, nb2, nb3, nc0, nc1, nc2, nc3]); exact hK)) (fun _ => by first | (simp [go_sem]; done) | fail) ?_; (try walk_nrm))
    (refine QE.value _ rfl rfl (by intro h; cases h) (fun _ => run_eq_of (fun K hK => by go_simp; (try simp only [IntKind.wrap_u64, IntKind.wrap_u32, IntKind.wrap_i32, Int.reduceMul, Int.reduceMod, Int.reduceAdd, Int.reduceSub, Int.reduceDiv, Int.reducePow, Int.reduceNeg, Int.zero_add, Int.add_zero, Int.one_mul, nb0, nb1, nb2, nb3, nc0, nc1, nc2, nc3]); exact hK)) (fun _ => by first | (simp [go_sem]; done) | fail) ?_; (try walk_nrm))
    (refine QE.value _ rfl rfl (by intro h; cases h) (fun _ => run_eq_of (fun K hK => by go_simp; (try simp only [IntKind.wrap_u64, IntKind.wrap_u32, IntKind.wrap_i32, Int.reduceMul, Int.reduceMod, Int.reduceAdd, Int.reduceSub, Int.reduceDiv, Int.reducePow, Int.reduceNeg, Int.zero_add, Int.add_zero, Int.one_mul, nb0, nb1, nb2, nb3, nc0, nc1, nc2, nc3]); exact hK)) (fun _ => by first | (simp [go_sem]; done) | fail) ?_; (try walk_nrm))
    (refine QE.value _ rfl rfl (by intro h; cases h) (fun _ => run_eq_of (fun K hK => by go_simp; (try simp only [IntKind.wrap_u64, IntKind.wrap_u32, IntKind.wrap_i32, Int.reduceMul, Int.reduceMod, Int.reduceAdd, Int.reduceSub, Int.reduceDiv, Int.reducePow, Int.reduceNeg, Int.zero_add, Int.add_zero, Int.one_mul, nb0, nb1, nb2, nb3, nc0, nc1, nc2, nc3]); exact hK)) (fun _ => by first | (simp [go_sem]; done) | fail) ?_; (try walk_nrm))
    (refine QE.unwanted rfl rfl ?_; (try walk_nrm))
    (refine QE.unwanted rfl rfl ?_; (try walk_nrm))
    (refine QE.unwanted rfl rfl ?_; (try walk_nrm))
    (refine QE.unwanted rfl rfl ?_; (try walk_nrm))
    (refine QE.value _ rfl rfl (by intro h; cases h) (fun _ => run_eq_of (fun K hK => by go_simp; (try simp only [IntKind.wrap_u64, IntKind.wrap_u32, IntKind.wrap_i32, Int.reduceMul, Int.reduceMod, Int.reduceAdd, Int.reduceSub, Int.reduceDiv, Int.reducePow, Int.reduceNeg, Int.zero_add, Int.add_zero, Int.one_mul, nb0, nb1, nb2, nb3, nc0, nc1, nc2, nc3]); exact hK)) (fun _ => by first | (simp [go_sem]; done) | fail) ?_; (try walk_nrm))
    (refine QE.ctl rfl (fun _ => stepG_region_end) ?_)
    (refine QE.ctl rfl (fun _ => stepG_cond (t := false) rfl) ?_; simp only [if_true, if_false, Bool.false_eq_true, reduceIte])
    (refine QE.ctl rfl (fun _ => stepG_skip) ?_)
    (refine QE.ctl rfl (fun _ => stepG_seq) ?_)
    (refine QE.ctl rfl (fun _ => stepG_seq) ?_)
    (refine QE.ctl rfl (fun _ => stepG_region) ?_; simp only [List.size_toArray, List.length_cons, List.length_nil, Nat.reduceAdd, Nat.zero_add, List.range, List.range.loop])
    (refine QE.value _ rfl rfl (by intro h; cases h) (fun _ => run_eq_of (fun K hK => by go_simp; (try simp only [IntKind.wrap_u64, IntKind.wrap_u32, IntKind.wrap_i32, Int.reduceMul, Int.reduceMod, Int.reduceAdd, Int.reduceSub, Int.reduceDiv, Int.reducePow, Int.reduceNeg, Int.zero_add, Int.add_zero, Int.one_mul, nb0, nb1, nb2, nb3, nc0, nc1, nc2, nc3]); exact hK)) (fun _ => by first | (simp [go_sem]; done) | fail) ?_; (try walk_nrm))
    (refine QE.value _ rfl rfl (by intro h; cases h) (fun _ => run_eq_of (fun K hK => by go_simp; (try simp only [IntKind.wrap_u64, IntKind.wrap_u32, IntKind.wrap_i32, Int.reduceMul, Int.reduceMod, Int.reduceAdd, Int.reduceSub, Int.reduceDiv, Int.reducePow, Int.reduceNeg, Int.zero_add, Int.add_zero, Int.one_mul, nb0, nb1, nb2, nb3, nc0, nc1, nc2, nc3]); exact hK)) (fun _ => by first | (simp [go_sem]; done) | fail) ?_; (try walk_nrm))
    (refine QE.ctl rfl (fun _ => stepG_region_end) ?_)
    (refine QE.ctl rfl (fun _ => stepG_cond (t := false) rfl) ?_; simp only [if_true, if_false, Bool.false_eq_true, reduceIte])
    (refine QE.ctl rfl (fun _ => stepG_skip) ?_)
    (refine QE.ctl rfl (fun _ => stepG_seq) ?_)
    (refine QE.ctl rfl (fun _ => stepG_seq) ?_)
    (refine QE.ctl rfl (fun _ => stepG_region) ?_; simp only [List.size_toArray, List.length_cons, List.length_nil, Nat.reduceAdd, Nat.zero_add, List.range, List.range.loop])
    (refine QE.value _ rfl rfl (by intro h; cases h) (fun _ => run_eq_of (fun K hK => by go_simp; (try simp only [IntKind.wrap_u64, IntKind.wrap_u32, IntKind.wrap_i32, Int.reduceMul, Int.reduceMod, Int.reduceAdd, Int.reduceSub, Int.reduceDiv, Int.reducePow, Int.reduceNeg, Int.zero_add, Int.add_zero, Int.one_mul, nb0, nb1, nb2, nb3, nc0, nc1, nc2, nc3]); exact hK)) (fun _ => by first | (simp [go_sem]; done) | fail) ?_; (try walk_nrm))
    (refine QE.value _ rfl rfl (by intro h; cases h) (fun _ => run_eq_of (fun K hK => by go_simp; (try simp only [IntKind.wrap_u64, IntKind.wrap_u32, IntKind.wrap_i32, Int.reduceMul, Int.reduceMod, Int.reduceAdd, Int.reduceSub, Int.reduceDiv, Int.reducePow, Int.reduceNeg, Int.zero_add, Int.add_zero, Int.one_mul, nb0, nb1, nb2, nb3, nc0, nc1, nc2, nc3]); exact hK)) (fun _ => by first | (simp [go_sem]; done) | fail) ?_; (try walk_nrm))
    (refine QE.value _ rfl rfl (by intro h; cases h) (fun _ => run_eq_of (fun K hK => by go_simp; (try simp only [IntKind.wrap_u64, IntKind.wrap_u32, IntKind.wrap_i32, Int.reduceMul, Int.reduceMod, Int.reduceAdd, Int.reduceSub, Int.reduceDiv, Int.reducePow, Int.reduceNeg, Int.zero_add, Int.add_zero, Int.one_mul, nb0, nb1, nb2, nb3, nc0, nc1, nc2, nc3]); exact hK)) (fun _ => by first | (simp [go_sem]; done) | fail) ?_; (try walk_nrm))
    (refine QE.unwanted rfl rfl ?_; (try walk_nrm))
    (refine QE.unwanted rfl rfl ?_; (try walk_nrm))
    (refine QE.value _ rfl rfl (by intro h; cases h) (fun _ => run_eq_of (fun K hK => by go_simp; (try simp only [IntKind.wrap_u64, IntKind.wrap_u32, IntKind.wrap_i32, Int.reduceMul, Int.reduceMod, Int.reduceAdd, Int.reduceSub, Int.reduceDiv, Int.reducePow, Int.reduceNeg, Int.zero_add, Int.add_zero, Int.one_mul, nb0, nb1, nb2, nb3, nc0, nc1, nc2, nc3]); exact hK)) (fun _ => by first | (simp [go_sem]; done) | fail) ?_; (try walk_nrm))
    (refine QE.value _ rfl rfl (by intro h; cases h) (fun _ => run_eq_of (fun K hK => by go_simp; (try simp only [IntKind.wrap_u64, IntKind.wrap_u32, IntKind.wrap_i32, Int.reduceMul, Int.reduceMod, Int.reduceAdd, Int.reduceSub, Int.reduceDiv, Int.reducePow, Int.reduceNeg, Int.zero_add, Int.add_zero, Int.one_mul, nb0, nb1, nb2, nb3, nc0, nc1, nc2, nc3]); exact hK)) (fun _ => by first | (simp [go_sem]; done) | fail) ?_; (try walk_nrm))
    (refine QE.unwanted rfl rfl ?_; (try walk_nrm))
    (refine QE.unwanted rfl rfl ?_; (try walk_nrm))
    (refine QE.unwanted rfl rfl ?_; (try walk_nrm))
    (refine QE.unwanted rfl rfl ?_; (try walk_nrm))
    (refine QE.value _ rfl rfl (by intro h; cases h) (fun _ => run_eq_of (fun K hK => by go_simp; (try simp only [IntKind.wrap_u64, IntKind.wrap_u32, IntKind.wrap_i32, Int.reduceMul, Int.reduceMod, Int.reduceAdd, Int.reduceSub, Int.reduceDiv, Int.reducePow, Int.reduceNeg, Int.zero_add, Int.add_zero, Int.one_mul, nb0, nb1, nb2, nb3, nc0, nc1, nc2, nc3]); exact hK)) (fun _ => by first | (simp [go_sem]; done) | fail) ?_; (try walk_nrm))
    (refine QE.ctl rfl (fun _ => stepG_region_end) ?_)
    (refine QE.ctl rfl (fun _ => stepG_cond (t := false) rfl) ?_; simp only [if_true, if_false, Bool.false_eq_true, reduceIte])
    (refine QE.ctl rfl (fun _ => stepG_skip) ?_)
    (refine QE.ctl rfl (fun _ => stepG_seq) ?_)
    (refine QE.ctl rfl (fun _ => stepG_seq) ?_)
    (refine QE.ctl rfl (fun _ => stepG_region) ?_; simp only [List.size_toArray, List.length_cons, List.length_nil, Nat.reduceAdd, Nat.zero_add, List.range, List.range.loop])
    (refine QE.value _ rfl rfl (by intro h; cases h) (fun _ => run_eq_of (fun K hK => by go_simp; (try simp only [IntKind.wrap_u64, IntKind.wrap_u32, IntKind.wrap_i32, Int.reduceMul, Int.reduceMod, Int.reduceAdd, Int.reduceSub, Int.reduceDiv, Int.reducePow, Int.reduceNeg, Int.zero_add, Int.add_zero, Int.one_mul, nb0, nb1, nb2, nb3, nc0, nc1, nc2, nc3]); exact hK)) (fun _ => by first | (simp [go_sem]; done) | fail) ?_; (try walk_nrm))
    (refine QE.value _ rfl rfl (by intro h; cases h) (fun _ => run_eq_of (fun K hK => by go_simp; (try simp only [IntKind.wrap_u64, IntKind.wrap_u32, IntKind.wrap_i32, Int.reduceMul, Int.reduceMod, Int.reduceAdd, Int.reduceSub, Int.reduceDiv, Int.reducePow, Int.reduceNeg, Int.zero_add, Int.add_zero, Int.one_mul, nb0, nb1, nb2, nb3, nc0, nc1, nc2, nc3]); exact hK)) (fun _ => by first | (simp [go_sem]; done) | fail) ?_; (try walk_nrm))
    (refine QE.value _ rfl rfl (by intro h; cases h) (fun _ => run_eq_of (fun K hK => by go_simp; (try simp only [IntKind.wrap_u64, IntKind.wrap_u32, IntKind.wrap_i32, Int.reduceMul, Int.reduceMod, Int.reduceAdd, Int.reduceSub, Int.reduceDiv, Int.reducePow, Int.reduceNeg, Int.zero_add, Int.add_zero, Int.one_mul, nb0, nb1, nb2, nb3, nc0, nc1, nc2, nc3]); exact hK)) (fun _ => by first | (simp [go_sem]; done) | fail) ?_; (try walk_nrm))
    (refine QE.value _ rfl rfl (by intro h; cases h) (fun _ => run_eq_of (fun K hK => by go_simp; (try simp only [IntKind.wrap_u64, IntKind.wrap_u32, IntKind.wrap_i32, Int.reduceMul, Int.reduceMod, Int.reduceAdd, Int.reduceSub, Int.reduceDiv, Int.reducePow, Int.reduceNeg, Int.zero_add, Int.add_zero, Int.one_mul, nb0, nb1, nb2, nb3, nc0, nc1, nc2, nc3]); exact hK)) (fun _ => by first | (simp [go_sem]; done) | fail) ?_; (try walk_nrm))
    (refine QE.value _ rfl rfl (by intro h; cases h) (fun _ => run_eq_of (fun K hK => by go_simp; (try simp only [IntKind.wrap_u64, IntKind.wrap_u32, IntKind.wrap_i32, Int.reduceMul, Int.reduceMod, Int.reduceAdd, Int.reduceSub, Int.reduceDiv, Int.reducePow, Int.reduceNeg, Int.zero_add, Int.add_zero, Int.one_mul, nb0, nb1, nb2, nb3, nc0, nc1, nc2, nc3]); exact hK)) (fun _ => by first | (simp [go_sem]; done) | fail) ?_; (try walk_nrm))
    (refine QE.value _ rfl rfl (by intro h; cases h) (fun _ => run_eq_of (fun K hK => by go_simp; (try simp only [IntKind.wrap_u64, IntKind.wrap_u32, IntKind.wrap_i32, Int.reduceMul, Int.reduceMod, Int.reduceAdd, Int.reduceSub, Int.reduceDiv, Int.reducePow, Int.reduceNeg, Int.zero_add, Int.add_zero, Int.one_mul, nb0, nb1, nb2, nb3, nc0, nc1, nc2, nc3]); exact hK)) (fun _ => by first | (simp [go_sem]; done) | fail) ?_; (try walk_nrm))
    (refine QE.ctl rfl (fun _ => stepG_region_end) ?_)
    (refine QE.ctl rfl (fun _ => stepG_cond (t := true) rfl) ?_; simp only [if_true, if_false, Bool.false_eq_true, reduceIte])
    (refine QE.ctl rfl (fun _ => stepG_ret') ?_)
    refine QE.enable rfl Try.func33 (by rfl) (by rfl) (by rfl) (by kernel_rfl) ?_
    refine QE.leave0 rfl rfl Try.func24 rfl ?_
    try walk_nrm
    (refine QE.ctl rfl (fun _ => stepG_region_end) ?_)
    (refine QE.ctl rfl (fun _ => stepG_end) ?_)
    refine QE.leaveD rfl rfl Try.func26 rfl rfl ?_
    exact qe_root a todo
  · have hcell := wgO_cell0 hg
    refine ⟨_, (stepG_add_atomic rfl rfl (by intro h; cases h) rfl Try.func54 (by rfl) (by rfl) (by rfl) .u64 (by kernel_rfl) rfl rfl hcell.1 hcell.2).trans (by rw [e1]; rfl), ?_⟩
    clear hcell hg hs w
    try walk_nrm
    (refine J.val M _ rfl rfl (by intro h; cases h) (fun _ => run_eq_of (fun K hK => by go_simp; (try simp only [IntKind.wrap_u64, IntKind.wrap_u32, IntKind.wrap_i32, Int.reduceMul, Int.reduceMod, Int.reduceAdd, Int.reduceSub, Int.reduceDiv, Int.reducePow, Int.reduceNeg, Int.zero_add, Int.add_zero, Int.one_mul, nb0, nb1, nb2, nb3, nc0, nc1, nc2, nc3]); exact hK)) (fun _ => by first | (simp [go_sem]; done) | fail) ?_; (try walk_nrm))
    (refine J.quiet M rfl (fun _ => stepG_region_end) ?_)
    (refine J.quiet M rfl (fun _ => stepG_ret') ?_)
    refine J.leave1 M rfl rfl Try.func38 rfl ?_
    try walk_nrm
    (refine J.val M _ rfl rfl (by intro h; cases h) (fun _ => run_eq_of (fun K hK => by go_simp; (try simp only [IntKind.wrap_u64, IntKind.wrap_u32, IntKind.wrap_i32, Int.reduceMul, Int.reduceMod, Int.reduceAdd, Int.reduceSub, Int.reduceDiv, Int.reducePow, Int.reduceNeg, Int.zero_add, Int.add_zero, Int.one_mul, nb0, nb1, nb2, nb3, nc0, nc1, nc2, nc3]); exact hK)) (fun _ => by first | (simp [go_sem]; done) | fail) ?_; (try walk_nrm))
    (refine J.quiet M rfl (fun _ => stepG_region_end) ?_)
    (refine J.quiet M rfl (fun _ => stepG_seq) ?_)
    (refine J.quiet M rfl (fun _ => stepG_seq) ?_)
    (refine J.quiet M rfl (fun _ => stepG_region) ?_; simp only [List.size_toArray, List.length_cons, List.length_nil, Nat.reduceAdd, Nat.zero_add, List.range, List.range.loop])
    (refine J.val M _ rfl rfl (by intro h; cases h) (fun _ => run_eq_of (fun K hK => by go_simp; (try simp only [IntKind.wrap_u64, IntKind.wrap_u32, IntKind.wrap_i32, Int.reduceMul, Int.reduceMod, Int.reduceAdd, Int.reduceSub, Int.reduceDiv, Int.reducePow, Int.reduceNeg, Int.zero_add, Int.add_zero, Int.one_mul, nb0, nb1, nb2, nb3, nc0, nc1, nc2, nc3]); exact hK)) (fun _ => by first | (simp [go_sem]; done) | fail) ?_; (try walk_nrm))
    (refine J.val M _ rfl rfl (by intro h; cases h) (fun _ => run_eq_of (fun K hK => by go_simp; (try simp only [IntKind.wrap_u64, IntKind.wrap_u32, IntKind.wrap_i32, Int.reduceMul, Int.reduceMod, Int.reduceAdd, Int.reduceSub, Int.reduceDiv, Int.reducePow, Int.reduceNeg, Int.zero_add, Int.add_zero, Int.one_mul, nb0, nb1, nb2, nb3, nc0, nc1, nc2, nc3]); exact hK)) (fun _ => by first | (simp [go_sem]; done) | fail) ?_; (try walk_nrm))
    (refine J.val M _ rfl rfl (by intro h; cases h) (fun _ => run_eq_of (fun K hK => by go_simp; (try simp only [IntKind.wrap_u64, IntKind.wrap_u32, IntKind.wrap_i32, Int.reduceMul, Int.reduceMod, Int.reduceAdd, Int.reduceSub, Int.reduceDiv, Int.reducePow, Int.reduceNeg, Int.zero_add, Int.add_zero, Int.one_mul, nb0, nb1, nb2, nb3, nc0, nc1, nc2, nc3]); exact hK)) (fun _ => by first | (simp [go_sem]; done) | fail) ?_; (try walk_nrm))
    (refine J.val M _ rfl rfl (by intro h; cases h) (fun _ => run_eq_of (fun K hK => by go_simp; (try simp only [IntKind.wrap_u64, IntKind.wrap_u32, IntKind.wrap_i32, Int.reduceMul, Int.reduceMod, Int.reduceAdd, Int.reduceSub, Int.reduceDiv, Int.reducePow, Int.reduceNeg, Int.zero_add, Int.add_zero, Int.one_mul, nb0, nb1, nb2, nb3, nc0, nc1, nc2, nc3]); exact hK)) (fun _ => by first | (simp [go_sem]; done) | fail) ?_; (try walk_nrm))
    (refine J.unw M rfl rfl ?_; (try walk_nrm))
    (refine J.unw M rfl rfl ?_; (try walk_nrm))
    (refine J.val M _ rfl rfl (by intro h; cases h) (fun _ => run_eq_of (fun K hK => by go_simp; (try simp only [IntKind.wrap_u64, IntKind.wrap_u32, IntKind.wrap_i32, Int.reduceMul, Int.reduceMod, Int.reduceAdd, Int.reduceSub, Int.reduceDiv, Int.reducePow, Int.reduceNeg, Int.zero_add, Int.add_zero, Int.one_mul, nb0, nb1, nb2, nb3, nc0, nc1, nc2, nc3]); exact hK)) (fun _ => by first | (simp [go_sem]; done) | fail) ?_; (try walk_nrm))
    (refine J.quiet M rfl (fun _ => stepG_region_end) ?_)
    (refine J.quiet M rfl (fun _ => stepG_cond (t := false) rfl) ?_; simp only [if_true, if_false, Bool.false_eq_true, reduceIte])
    (refine J.quiet M rfl (fun _ => stepG_skip) ?_)
    (refine J.quiet M rfl (fun _ => stepG_seq) ?_)
    (refine J.quiet M rfl (fun _ => stepG_region) ?_; simp only [List.size_toArray, List.length_cons, List.length_nil, Nat.reduceAdd, Nat.zero_add, List.range, List.range.loop])
    (refine J.val M _ rfl rfl (by intro h; cases h) (fun _ => run_eq_of (fun K hK => by go_simp; (try simp only [IntKind.wrap_u64, IntKind.wrap_u32, IntKind.wrap_i32, Int.reduceMul, Int.reduceMod, Int.reduceAdd, Int.reduceSub, Int.reduceDiv, Int.reducePow, Int.reduceNeg, Int.zero_add, Int.add_zero, Int.one_mul, nb0, nb1, nb2, nb3, nc0, nc1, nc2, nc3]); exact hK)) (fun _ => by first | (simp [go_sem]; done) | fail) ?_; (try walk_nrm))
    (refine J.val M _ rfl rfl (by intro h; cases h) (fun _ => run_eq_of (fun K hK => by go_simp; (try simp only [IntKind.wrap_u64, IntKind.wrap_u32, IntKind.wrap_i32, Int.reduceMul, Int.reduceMod, Int.reduceAdd, Int.reduceSub, Int.reduceDiv, Int.reducePow, Int.reduceNeg, Int.zero_add, Int.add_zero, Int.one_mul, nb0, nb1, nb2, nb3, nc0, nc1, nc2, nc3]); exact hK)) (fun _ => by first | (simp [go_sem]; done) | fail) ?_; (try walk_nrm))
    (refine J.val M _ rfl rfl (by intro h; cases h) (fun _ => run_eq_of (fun K hK => by go_simp; (try simp only [IntKind.wrap_u64, IntKind.wrap_u32, IntKind.wrap_i32, Int.reduceMul, Int.reduceMod, Int.reduceAdd, Int.reduceSub, Int.reduceDiv, Int.reducePow, Int.reduceNeg, Int.zero_add, Int.add_zero, Int.one_mul, nb0, nb1, nb2, nb3, nc0, nc1, nc2, nc3]); exact hK)) (fun _ => by first | (simp [go_sem]; done) | fail) ?_; (try walk_nrm))
    (refine J.val M _ rfl rfl (by intro h; cases h) (fun _ => run_eq_of (fun K hK => by go_simp; (try simp only [IntKind.wrap_u64, IntKind.wrap_u32, IntKind.wrap_i32, Int.reduceMul, Int.reduceMod, Int.reduceAdd, Int.reduceSub, Int.reduceDiv, Int.reducePow, Int.reduceNeg, Int.zero_add, Int.add_zero, Int.one_mul, nb0, nb1, nb2, nb3, nc0, nc1, nc2, nc3]); exact hK)) (fun _ => by first | (simp [go_sem]; done) | fail) ?_; (try walk_nrm))
    (refine J.quiet M rfl (fun _ => stepG_region_end) ?_)
    (refine J.quiet M rfl (fun _ => stepG_seq) ?_)
    (refine J.quiet M rfl (fun _ => stepG_region) ?_; simp only [List.size_toArray, List.length_cons, List.length_nil, Nat.reduceAdd, Nat.zero_add, List.range, List.range.loop])
    (refine J.val M _ rfl rfl (by intro h; cases h) (fun _ => run_eq_of (fun K hK => by go_simp; (try simp only [IntKind.wrap_u64, IntKind.wrap_u32, IntKind.wrap_i32, Int.reduceMul, Int.reduceMod, Int.reduceAdd, Int.reduceSub, Int.reduceDiv, Int.reducePow, Int.reduceNeg, Int.zero_add, Int.add_zero, Int.one_mul, nb0, nb1, nb2, nb3, nc0, nc1, nc2, nc3]); exact hK)) (fun _ => by first | (simp [go_sem]; done) | fail) ?_; (try walk_nrm))
    (refine J.val M _ rfl rfl (by intro h; cases h) (fun _ => run_eq_of (fun K hK => by go_simp; (try simp only [IntKind.wrap_u64, IntKind.wrap_u32, IntKind.wrap_i32, Int.reduceMul, Int.reduceMod, Int.reduceAdd, Int.reduceSub, Int.reduceDiv, Int.reducePow, Int.reduceNeg, Int.zero_add, Int.add_zero, Int.one_mul, nb0, nb1, nb2, nb3, nc0, nc1, nc2, nc3]); exact hK)) (fun _ => by first | (simp [go_sem]; done) | fail) ?_; (try walk_nrm))
    (refine J.val M _ rfl rfl (by intro h; cases h) (fun _ => run_eq_of (fun K hK => by go_simp; (try simp only [IntKind.wrap_u64, IntKind.wrap_u32, IntKind.wrap_i32, Int.reduceMul, Int.reduceMod, Int.reduceAdd, Int.reduceSub, Int.reduceDiv, Int.reducePow, Int.reduceNeg, Int.zero_add, Int.add_zero, Int.one_mul, nb0, nb1, nb2, nb3, nc0, nc1, nc2, nc3]); exact hK)) (fun _ => by first | (simp [go_sem]; done) | fail) ?_; (try walk_nrm))
    (refine J.val M _ rfl rfl (by intro h; cases h) (fun _ => run_eq_of (fun K hK => by go_simp; (try simp only [IntKind.wrap_u64, IntKind.wrap_u32, IntKind.wrap_i32, Int.reduceMul, Int.reduceMod, Int.reduceAdd, Int.reduceSub, Int.reduceDiv, Int.reducePow, Int.reduceNeg, Int.zero_add, Int.add_zero, Int.one_mul, nb0, nb1, nb2, nb3, nc0, nc1, nc2, nc3]); exact hK)) (fun _ => by first | (simp [go_sem]; done) | fail) ?_; (try walk_nrm))
    (refine J.quiet M rfl (fun _ => stepG_region_end) ?_)
    (refine J.quiet M rfl (fun _ => stepG_seq) ?_)
    (refine J.quiet M rfl (fun _ => stepG_seq) ?_)
    (refine J.quiet M rfl (fun _ => stepG_region) ?_; simp only [List.size_toArray, List.length_cons, List.length_nil, Nat.reduceAdd, Nat.zero_add, List.range, List.range.loop])
    (refine J.val M _ rfl rfl (by intro h; cases h) (fun _ => run_eq_of (fun K hK => by go_simp; (try simp only [IntKind.wrap_u64, IntKind.wrap_u32, IntKind.wrap_i32, Int.reduceMul, Int.reduceMod, Int.reduceAdd, Int.reduceSub, Int.reduceDiv, Int.reducePow, Int.reduceNeg, Int.zero_add, Int.add_zero, Int.one_mul, nb0, nb1, nb2, nb3, nc0, nc1, nc2, nc3]); exact hK)) (fun _ => by first | (simp [go_sem]; done) | fail) ?_; (try walk_nrm))
    (refine J.val M _ rfl rfl (by intro h; cases h) (fun _ => run_eq_of (fun K hK => by go_simp; (try simp only [IntKind.wrap_u64, IntKind.wrap_u32, IntKind.wrap_i32, Int.reduceMul, Int.reduceMod, Int.reduceAdd, Int.reduceSub, Int.reduceDiv, Int.reducePow, Int.reduceNeg, Int.zero_add, Int.add_zero, Int.one_mul, nb0, nb1, nb2, nb3, nc0, nc1, nc2, nc3]); exact hK)) (fun _ => by first | (simp [go_sem]; done) | fail) ?_; (try walk_nrm))
    (refine J.val M _ rfl rfl (by intro h; cases h) (fun _ => run_eq_of (fun K hK => by go_simp; (try simp only [IntKind.wrap_u64, IntKind.wrap_u32, IntKind.wrap_i32, Int.reduceMul, Int.reduceMod, Int.reduceAdd, Int.reduceSub, Int.reduceDiv, Int.reducePow, Int.reduceNeg, Int.zero_add, Int.add_zero, Int.one_mul, nb0, nb1, nb2, nb3, nc0, nc1, nc2, nc3]); exact hK)) (fun _ => by first | (simp [go_sem]; done) | fail) ?_; (try walk_nrm))
    (refine J.val M _ rfl rfl (by intro h; cases h) (fun _ => run_eq_of (fun K hK => by go_simp; (try simp only [IntKind.wrap_u64, IntKind.wrap_u32, IntKind.wrap_i32, Int.reduceMul, Int.reduceMod, Int.reduceAdd, Int.reduceSub, Int.reduceDiv, Int.reducePow, Int.reduceNeg, Int.zero_add, Int.add_zero, Int.one_mul, nb0, nb1, nb2, nb3, nc0, nc1, nc2, nc3]); exact hK)) (fun _ => by first | (simp [go_sem]; done) | fail) ?_; (try walk_nrm))
    (refine J.val M _ rfl rfl (by intro h; cases h) (fun _ => run_eq_of (fun K hK => by go_simp; (try simp only [IntKind.wrap_u64, IntKind.wrap_u32, IntKind.wrap_i32, Int.reduceMul, Int.reduceMod, Int.reduceAdd, Int.reduceSub, Int.reduceDiv, Int.reducePow, Int.reduceNeg, Int.zero_add, Int.add_zero, Int.one_mul, nb0, nb1, nb2, nb3, nc0, nc1, nc2, nc3]); exact hK)) (fun _ => by first | (simp [go_sem]; done) | fail) ?_; (try walk_nrm))
    (refine J.unw M rfl rfl ?_; (try walk_nrm))
    (refine J.unw M rfl rfl ?_; (try walk_nrm))
    (refine J.unw M rfl rfl ?_; (try walk_nrm))
    (refine J.unw M rfl rfl ?_; (try walk_nrm))
    (refine J.val M _ rfl rfl (by intro h; cases h) (fun _ => run_eq_of (fun K hK => by go_simp; (try simp only [IntKind.wrap_u64, IntKind.wrap_u32, IntKind.wrap_i32, Int.reduceMul, Int.reduceMod, Int.reduceAdd, Int.reduceSub, Int.reduceDiv, Int.reducePow, Int.reduceNeg, Int.zero_add, Int.add_zero, Int.one_mul, nb0, nb1, nb2, nb3, nc0, nc1, nc2, nc3]); exact hK)) (fun _ => by first | (simp [go_sem]; done) | fail) ?_; (try walk_nrm))
    (refine J.quiet M rfl (fun _ => stepG_region_end) ?_)
    (refine J.quiet M rfl (fun _ => stepG_cond (t := false) rfl) ?_; simp only [if_true, if_false, Bool.false_eq_true, reduceIte])
    (refine J.quiet M rfl (fun _ => stepG_skip) ?_)
    (refine J.quiet M rfl (fun _ => stepG_seq) ?_)
    (refine J.quiet M rfl (fun _ => stepG_seq) ?_)
    (refine J.quiet M rfl (fun _ => stepG_region) ?_; simp only [List.size_toArray, List.length_cons, List.length_nil, Nat.reduceAdd, Nat.zero_add, List.range, List.range.loop])
    (refine J.val M _ rfl rfl (by intro h; cases h) (fun _ => run_eq_of (fun K hK => by go_simp; (try simp only [IntKind.wrap_u64, IntKind.wrap_u32, IntKind.wrap_i32, Int.reduceMul, Int.reduceMod, Int.reduceAdd, Int.reduceSub, Int.reduceDiv, Int.reducePow, Int.reduceNeg, Int.zero_add, Int.add_zero, Int.one_mul, nb0, nb1, nb2, nb3, nc0, nc1, nc2, nc3]); exact hK)) (fun _ => by first | (simp [go_sem]; done) | fail) ?_; (try walk_nrm))
    (refine J.val M _ rfl rfl (by intro h; cases h) (fun _ => run_eq_of (fun K hK => by go_simp; (try simp only [IntKind.wrap_u64, IntKind.wrap_u32, IntKind.wrap_i32, Int.reduceMul, Int.reduceMod, Int.reduceAdd, Int.reduceSub, Int.reduceDiv, Int.reducePow, Int.reduceNeg, Int.zero_add, Int.add_zero, Int.one_mul, nb0, nb1, nb2, nb3, nc0, nc1, nc2, nc3]); exact hK)) (fun _ => by first | (simp [go_sem]; done) | fail) ?_; (try walk_nrm))
    (refine J.quiet M rfl (fun _ => stepG_region_end) ?_)
    (refine J.quiet M rfl (fun _ => stepG_cond (t := false) rfl) ?_; simp only [if_true, if_false, Bool.false_eq_true, reduceIte])
    (refine J.quiet M rfl (fun _ => stepG_skip) ?_)
    (refine J.quiet M rfl (fun _ => stepG_seq) ?_)
    (refine J.quiet M rfl (fun _ => stepG_seq) ?_)
    (refine J.quiet M rfl (fun _ => stepG_region) ?_; simp only [List.size_toArray, List.length_cons, List.length_nil, Nat.reduceAdd, Nat.zero_add, List.range, List.range.loop])
    (refine J.val M _ rfl rfl (by intro h; cases h) (fun _ => run_eq_of (fun K hK => by go_simp; (try simp only [IntKind.wrap_u64, IntKind.wrap_u32, IntKind.wrap_i32, Int.reduceMul, Int.reduceMod, Int.reduceAdd, Int.reduceSub, Int.reduceDiv, Int.reducePow, Int.reduceNeg, Int.zero_add, Int.add_zero, Int.one_mul, nb0, nb1, nb2, nb3, nc0, nc1, nc2, nc3]); exact hK)) (fun _ => by first | (simp [go_sem]; done) | fail) ?_; (try walk_nrm))
    (refine J.val M _ rfl rfl (by intro h; cases h) (fun _ => run_eq_of (fun K hK => by go_simp; (try simp only [IntKind.wrap_u64, IntKind.wrap_u32, IntKind.wrap_i32, Int.reduceMul, Int.reduceMod, Int.reduceAdd, Int.reduceSub, Int.reduceDiv, Int.reducePow, Int.reduceNeg, Int.zero_add, Int.add_zero, Int.one_mul, nb0, nb1, nb2, nb3, nc0, nc1, nc2, nc3]); exact hK)) (fun _ => by first | (simp [go_sem]; done) | fail) ?_; (try walk_nrm))
    (refine J.val M _ rfl rfl (by intro h; cases h) (fun _ => run_eq_of (fun K hK => by go_simp; (try simp only [IntKind.wrap_u64, IntKind.wrap_u32, IntKind.wrap_i32, Int.reduceMul, Int.reduceMod, Int.reduceAdd, Int.reduceSub, Int.reduceDiv, Int.reducePow, Int.reduceNeg, Int.zero_add, Int.add_zero, Int.one_mul, nb0, nb1, nb2, nb3, nc0, nc1, nc2, nc3]); exact hK)) (fun _ => by first | (simp [go_sem]; done) | fail) ?_; (try walk_nrm))
    (refine J.val M _ rfl rfl (by intro h; cases h) (fun _ => run_eq_of (fun K hK => by go_simp; (try simp only [IntKind.wrap_u64, IntKind.wrap_u32, IntKind.wrap_i32, Int.reduceMul, Int.reduceMod, Int.reduceAdd, Int.reduceSub, Int.reduceDiv, Int.reducePow, Int.reduceNeg, Int.zero_add, Int.add_zero, Int.one_mul, nb0, nb1, nb2, nb3, nc0, nc1, nc2, nc3]); exact hK)) (fun _ => by first | (simp [go_sem]; done) | fail) ?_; (try walk_nrm))
    (refine J.val M _ rfl rfl (by intro h; cases h) (fun _ => run_eq_of (fun K hK => by go_simp; (try simp only [IntKind.wrap_u64, IntKind.wrap_u32, IntKind.wrap_i32, Int.reduceMul, Int.reduceMod, Int.reduceAdd, Int.reduceSub, Int.reduceDiv, Int.reducePow, Int.reduceNeg, Int.zero_add, Int.add_zero, Int.one_mul, nb0, nb1, nb2, nb3, nc0, nc1, nc2, nc3]); exact hK)) (fun _ => by first | (simp [go_sem]; done) | fail) ?_; (try walk_nrm))
    (refine J.val M _ rfl rfl (by intro h; cases h) (fun _ => run_eq_of (fun K hK => by go_simp; (try simp only [IntKind.wrap_u64, IntKind.wrap_u32, IntKind.wrap_i32, Int.reduceMul, Int.reduceMod, Int.reduceAdd, Int.reduceSub, Int.reduceDiv, Int.reducePow, Int.reduceNeg, Int.zero_add, Int.add_zero, Int.one_mul, nb0, nb1, nb2, nb3, nc0, nc1, nc2, nc3]); exact hK)) (fun _ => by first | (simp [go_sem]; done) | fail) ?_; (try walk_nrm))
    (refine J.val M _ rfl rfl (by intro h; cases h) (fun _ => run_eq_of (fun K hK => by go_simp; (try simp only [IntKind.wrap_u64, IntKind.wrap_u32, IntKind.wrap_i32, Int.reduceMul, Int.reduceMod, Int.reduceAdd, Int.reduceSub, Int.reduceDiv, Int.reducePow, Int.reduceNeg, Int.zero_add, Int.add_zero, Int.one_mul, nb0, nb1, nb2, nb3, nc0, nc1, nc2, nc3]); exact hK)) (fun _ => by first | (simp [go_sem]; done) | fail) ?_; (try walk_nrm))
    (refine J.unw M rfl rfl ?_; (try walk_nrm))
    (refine J.unw M rfl rfl ?_; (try walk_nrm))
    (refine J.unw M rfl rfl ?_; (try walk_nrm))
    (refine J.unw M rfl rfl ?_; (try walk_nrm))
    (refine J.val M _ rfl rfl (by intro h; cases h) (fun _ => run_eq_of (fun K hK => by go_simp; (try simp only [IntKind.wrap_u64, IntKind.wrap_u32, IntKind.wrap_i32, Int.reduceMul, Int.reduceMod, Int.reduceAdd, Int.reduceSub, Int.reduceDiv, Int.reducePow, Int.reduceNeg, Int.zero_add, Int.add_zero, Int.one_mul, nb0, nb1, nb2, nb3, nc0, nc1, nc2, nc3]); exact hK)) (fun _ => by first | (simp [go_sem]; done) | fail) ?_; (try walk_nrm))
    (refine J.quiet M rfl (fun _ => stepG_region_end) ?_)
    (refine J.quiet M rfl (fun _ => stepG_cond (t := false) rfl) ?_; simp only [if_true, if_false, Bool.false_eq_true, reduceIte])
    (refine J.quiet M rfl (fun _ => stepG_skip) ?_)
    (refine J.quiet M rfl (fun _ => stepG_seq) ?_)
    (refine J.quiet M rfl (fun _ => stepG_seq) ?_)
    (refine J.quiet M rfl (fun _ => stepG_region) ?_; simp only [List.size_toArray, List.length_cons, List.length_nil, Nat.reduceAdd, Nat.zero_add, List.range, List.range.loop])
    (refine J.val M _ rfl rfl (by intro h; cases h) (fun _ => run_eq_of (fun K hK => by go_simp; (try simp only [IntKind.wrap_u64, IntKind.wrap_u32, IntKind.wrap_i32, Int.reduceMul, Int.reduceMod, Int.reduceAdd, Int.reduceSub, Int.reduceDiv, Int.reducePow, Int.reduceNeg, Int.zero_add, Int.add_zero, Int.one_mul, nb0, nb1, nb2, nb3, nc0, nc1, nc2, nc3]); exact hK)) (fun _ => by first | (simp [go_sem]; done) | fail) ?_; (try walk_nrm))
    (refine J.val M _ rfl rfl (by intro h; cases h) (fun _ => run_eq_of (fun K hK => by go_simp; (try simp only [IntKind.wrap_u64, IntKind.wrap_u32, IntKind.wrap_i32, Int.reduceMul, Int.reduceMod, Int.reduceAdd, Int.reduceSub, Int.reduceDiv, Int.reducePow, Int.reduceNeg, Int.zero_add, Int.add_zero, Int.one_mul, nb0, nb1, nb2, nb3, nc0, nc1, nc2, nc3]); exact hK)) (fun _ => by first | (simp [go_sem]; done) | fail) ?_; (try walk_nrm))
    (refine J.val M _ rfl rfl (by intro h; cases h) (fun _ => run_eq_of (fun K hK => by go_simp; (try simp only [IntKind.wrap_u64, IntKind.wrap_u32, IntKind.wrap_i32, Int.reduceMul, Int.reduceMod, Int.reduceAdd, Int.reduceSub, Int.reduceDiv, Int.reducePow, Int.reduceNeg, Int.zero_add, Int.add_zero, Int.one_mul, nb0, nb1, nb2, nb3, nc0, nc1, nc2, nc3]); exact hK)) (fun _ => by first | (simp [go_sem]; done) | fail) ?_; (try walk_nrm))
    (refine J.val M _ rfl rfl (by intro h; cases h) (fun _ => run_eq_of (fun K hK => by go_simp; (try simp only [IntKind.wrap_u64, IntKind.wrap_u32, IntKind.wrap_i32, Int.reduceMul, Int.reduceMod, Int.reduceAdd, Int.reduceSub, Int.reduceDiv, Int.reducePow, Int.reduceNeg, Int.zero_add, Int.add_zero, Int.one_mul, nb0, nb1, nb2, nb3, nc0, nc1, nc2, nc3]); exact hK)) (fun _ => by first | (simp [go_sem]; done) | fail) ?_; (try walk_nrm))
    (refine J.val M _ rfl rfl (by intro h; cases h) (fun _ => run_eq_of (fun K hK => by go_simp; (try simp only [IntKind.wrap_u64, IntKind.wrap_u32, IntKind.wrap_i32, Int.reduceMul, Int.reduceMod, Int.reduceAdd, Int.reduceSub, Int.reduceDiv, Int.reducePow, Int.reduceNeg, Int.zero_add, Int.add_zero, Int.one_mul, nb0, nb1, nb2, nb3, nc0, nc1, nc2, nc3]); exact hK)) (fun _ => by first | (simp [go_sem]; done) | fail) ?_; (try walk_nrm))
    (refine J.val M _ rfl rfl (by intro h; cases h) (fun _ => run_eq_of (fun K hK => by go_simp; (try simp only [IntKind.wrap_u64, IntKind.wrap_u32, IntKind.wrap_i32, Int.reduceMul, Int.reduceMod, Int.reduceAdd, Int.reduceSub, Int.reduceDiv, Int.reducePow, Int.reduceNeg, Int.zero_add, Int.add_zero, Int.one_mul, nb0, nb1, nb2, nb3, nc0, nc1, nc2, nc3]); exact hK)) (fun _ => by first | (simp [go_sem]; done) | fail) ?_; (try walk_nrm))
    (refine J.quiet M rfl (fun _ => stepG_region_end) ?_)
    (refine J.quiet M rfl (fun _ => stepG_cond (t := false) rfl) ?_; simp only [if_true, if_false, Bool.false_eq_true, reduceIte])
    (refine J.quiet M rfl (fun _ => stepG_skip) ?_)
    (refine J.quiet M rfl (fun _ => stepG_seq) ?_)
    (refine J.quiet M rfl (fun _ => stepG_seq) ?_)
    (refine J.quiet M rfl (fun _ => stepG_region) ?_; simp only [List.size_toArray, List.length_cons, List.length_nil, Nat.reduceAdd, Nat.zero_add, List.range, List.range.loop])
    (refine J.val M _ rfl rfl (by intro h; cases h) (fun _ => run_eq_of (fun K hK => by go_simp; (try simp only [IntKind.wrap_u64, IntKind.wrap_u32, IntKind.wrap_i32, Int.reduceMul, Int.reduceMod, Int.reduceAdd, Int.reduceSub, Int.reduceDiv, Int.reducePow, Int.reduceNeg, Int.zero_add, Int.add_zero, Int.one_mul, nb0, nb1, nb2, nb3, nc0, nc1, nc2, nc3]); exact hK)) (fun _ => by first | (simp [go_sem]; done) | fail) ?_; (try walk_nrm))
    (refine J.val M _ rfl rfl (by intro h; cases h) (fun _ => run_eq_of (fun K hK => by go_simp; (try simp only [IntKind.wrap_u64, IntKind.wrap_u32, IntKind.wrap_i32, Int.reduceMul, Int.reduceMod, Int.reduceAdd, Int.reduceSub, Int.reduceDiv, Int.reducePow, Int.reduceNeg, Int.zero_add, Int.add_zero, Int.one_mul, nb0, nb1, nb2, nb3, nc0, nc1, nc2, nc3]); exact hK)) (fun _ => by first | (simp [go_sem]; done) | fail) ?_; (try walk_nrm))
    (refine J.val M _ rfl rfl (by intro h; cases h) (fun _ => run_eq_of (fun K hK => by go_simp; (try simp only [IntKind.wrap_u64, IntKind.wrap_u32, IntKind.wrap_i32, Int.reduceMul, Int.reduceMod, Int.reduceAdd, Int.reduceSub, Int.reduceDiv, Int.reducePow, Int.reduceNeg, Int.zero_add, Int.add_zero, Int.one_mul, nb0, nb1, nb2, nb3, nc0, nc1, nc2, nc3]); exact hK)) (fun _ => by first | (simp [go_sem]; done) | fail) ?_; (try walk_nrm))
    refine J.enterc M rfl rfl (by intro h; cases h) rfl Try.func40 (by rfl) (by rfl) (by walk_nrm; rfl) ?_
    simp only [Try.ntmps40, List.size_toArray, List.length_cons, List.length_nil, Nat.reduceAdd, Nat.reduceSub, Array.replicate_succ, Array.replicate_zero, List.push_toArray, List.append_toArray, List.nil_append, List.cons_append]
    (refine J.quiet M rfl (fun _ => stepG_seq) ?_)
    (refine J.quiet M rfl (fun _ => stepG_region) ?_; simp only [List.size_toArray, List.length_cons, List.length_nil, Nat.reduceAdd, Nat.zero_add, List.range, List.range.loop])
    (refine J.val M _ rfl rfl (by intro h; cases h) (fun _ => run_eq_of (fun K hK => by go_simp; (try simp only [IntKind.wrap_u64, IntKind.wrap_u32, IntKind.wrap_i32, Int.reduceMul, Int.reduceMod, Int.reduceAdd, Int.reduceSub, Int.reduceDiv, Int.reducePow, Int.reduceNeg, Int.zero_add, Int.add_zero, Int.one_mul, nb0, nb1, nb2, nb3, nc0, nc1, nc2, nc3]); exact hK)) (fun _ => by first | (simp [go_sem]; done) | fail) ?_; (try walk_nrm))
    (refine J.quiet M rfl (fun _ => stepG_region_end) ?_)
    (refine J.quiet M rfl (fun _ => stepG_seq) ?_)
    (refine J.quiet M rfl (fun _ => stepG_region) ?_; simp only [List.size_toArray, List.length_cons, List.length_nil, Nat.reduceAdd, Nat.zero_add, List.range, List.range.loop])
    (refine J.val M _ rfl rfl (by intro h; cases h) (fun _ => run_eq_of (fun K hK => by go_simp; (try simp only [IntKind.wrap_u64, IntKind.wrap_u32, IntKind.wrap_i32, Int.reduceMul, Int.reduceMod, Int.reduceAdd, Int.reduceSub, Int.reduceDiv, Int.reducePow, Int.reduceNeg, Int.zero_add, Int.add_zero, Int.one_mul, nb0, nb1, nb2, nb3, nc0, nc1, nc2, nc3]); exact hK)) (fun _ => by first | (simp [go_sem]; done) | fail) ?_; (try walk_nrm))
    (refine J.val M _ rfl rfl (by intro h; cases h) (fun _ => run_eq_of (fun K hK => by go_simp; (try simp only [IntKind.wrap_u64, IntKind.wrap_u32, IntKind.wrap_i32, Int.reduceMul, Int.reduceMod, Int.reduceAdd, Int.reduceSub, Int.reduceDiv, Int.reducePow, Int.reduceNeg, Int.zero_add, Int.add_zero, Int.one_mul, nb0, nb1, nb2, nb3, nc0, nc1, nc2, nc3]); exact hK)) (fun _ => by first | (simp [go_sem]; done) | fail) ?_; (try walk_nrm))
    (refine J.val M _ rfl rfl (by intro h; cases h) (fun _ => run_eq_of (fun K hK => by go_simp; (try simp only [IntKind.wrap_u64, IntKind.wrap_u32, IntKind.wrap_i32, Int.reduceMul, Int.reduceMod, Int.reduceAdd, Int.reduceSub, Int.reduceDiv, Int.reducePow, Int.reduceNeg, Int.zero_add, Int.add_zero, Int.one_mul, nb0, nb1, nb2, nb3, nc0, nc1, nc2, nc3]); exact hK)) (fun _ => by first | (simp [go_sem]; done) | fail) ?_; (try walk_nrm))
    refine J.step M (.act rfl (.load rfl (Nat.succ_pos _) (fun w hs hg => ?_)))
    have hcell := wgO_cell0 hg
    refine ⟨_, stepG_load_atomic rfl rfl (by intro h; cases h) rfl Try.func55 (by rfl) (by rfl) (by rfl) .u64 (by kernel_rfl) rfl hcell.1, ?_⟩
    clear hcell hg hs w
    try walk_nrm
    (refine J.val M _ rfl rfl (by intro h; cases h) (fun _ => run_eq_of (fun K hK => by go_simp; (try simp only [IntKind.wrap_u64, IntKind.wrap_u32, IntKind.wrap_i32, Int.reduceMul, Int.reduceMod, Int.reduceAdd, Int.reduceSub, Int.reduceDiv, Int.reducePow, Int.reduceNeg, Int.zero_add, Int.add_zero, Int.one_mul, nb0, nb1, nb2, nb3, nc0, nc1, nc2, nc3]); exact hK)) (fun _ => by first | (simp [go_sem]; done) | fail) ?_; (try walk_nrm))
    (refine J.quiet M rfl (fun _ => stepG_region_end) ?_)
    (refine J.quiet M rfl (fun _ => stepG_ret') ?_)
    refine J.leave1 M rfl rfl Try.func40 rfl ?_
    try walk_nrm
    (refine J.val M _ rfl rfl (by intro h; cases h) (fun _ => run_eq_of (fun K hK => by go_simp; (try simp only [IntKind.wrap_u64, IntKind.wrap_u32, IntKind.wrap_i32, Int.reduceMul, Int.reduceMod, Int.reduceAdd, Int.reduceSub, Int.reduceDiv, Int.reducePow, Int.reduceNeg, Int.zero_add, Int.add_zero, Int.one_mul, nb0, nb1, nb2, nb3, nc0, nc1, nc2, nc3]); exact hK)) (fun _ => by first | (simp [go_sem]; done) | fail) ?_; (try walk_nrm))
    (refine J.val M _ rfl rfl (by intro h; cases h) (fun _ => run_eq_of (fun K hK => by go_simp; (try simp only [IntKind.wrap_u64, IntKind.wrap_u32, IntKind.wrap_i32, Int.reduceMul, Int.reduceMod, Int.reduceAdd, Int.reduceSub, Int.reduceDiv, Int.reducePow, Int.reduceNeg, Int.zero_add, Int.add_zero, Int.one_mul, nb0, nb1, nb2, nb3, nc0, nc1, nc2, nc3]); exact hK)) (fun _ => by first | (simp [go_sem]; done) | fail) ?_; (try walk_nrm))
    (refine J.quiet M rfl (fun _ => stepG_region_end) ?_)
    (refine J.quiet M rfl (fun _ => stepG_cond (t := false) rfl) ?_; simp only [if_true, if_false, Bool.false_eq_true, reduceIte])
    (refine J.quiet M rfl (fun _ => stepG_skip) ?_)
    (refine J.quiet M rfl (fun _ => stepG_seq) ?_)
    (refine J.quiet M rfl (fun _ => stepG_region) ?_; simp only [List.size_toArray, List.length_cons, List.length_nil, Nat.reduceAdd, Nat.zero_add, List.range, List.range.loop])
    (refine J.val M _ rfl rfl (by intro h; cases h) (fun _ => run_eq_of (fun K hK => by go_simp; (try simp only [IntKind.wrap_u64, IntKind.wrap_u32, IntKind.wrap_i32, Int.reduceMul, Int.reduceMod, Int.reduceAdd, Int.reduceSub, Int.reduceDiv, Int.reducePow, Int.reduceNeg, Int.zero_add, Int.add_zero, Int.one_mul, nb0, nb1, nb2, nb3, nc0, nc1, nc2, nc3]); exact hK)) (fun _ => by first | (simp [go_sem]; done) | fail) ?_; (try walk_nrm))
    (refine J.val M _ rfl rfl (by intro h; cases h) (fun _ => run_eq_of (fun K hK => by go_simp; (try simp only [IntKind.wrap_u64, IntKind.wrap_u32, IntKind.wrap_i32, Int.reduceMul, Int.reduceMod, Int.reduceAdd, Int.reduceSub, Int.reduceDiv, Int.reducePow, Int.reduceNeg, Int.zero_add, Int.add_zero, Int.one_mul, nb0, nb1, nb2, nb3, nc0, nc1, nc2, nc3]); exact hK)) (fun _ => by first | (simp [go_sem]; done) | fail) ?_; (try walk_nrm))
    (refine J.val M _ rfl rfl (by intro h; cases h) (fun _ => run_eq_of (fun K hK => by go_simp; (try simp only [IntKind.wrap_u64, IntKind.wrap_u32, IntKind.wrap_i32, Int.reduceMul, Int.reduceMod, Int.reduceAdd, Int.reduceSub, Int.reduceDiv, Int.reducePow, Int.reduceNeg, Int.zero_add, Int.add_zero, Int.one_mul, nb0, nb1, nb2, nb3, nc0, nc1, nc2, nc3]); exact hK)) (fun _ => by first | (simp [go_sem]; done) | fail) ?_; (try walk_nrm))
    refine J.enterc M rfl rfl (by intro h; cases h) rfl Try.func41 (by rfl) (by rfl) (by walk_nrm; rfl) ?_
    simp only [Try.ntmps41, List.size_toArray, List.length_cons, List.length_nil, Nat.reduceAdd, Nat.reduceSub, Array.replicate_succ, Array.replicate_zero, List.push_toArray, List.append_toArray, List.nil_append, List.cons_append]
    (refine J.quiet M rfl (fun _ => stepG_region) ?_; simp only [List.size_toArray, List.length_cons, List.length_nil, Nat.reduceAdd, Nat.zero_add, List.range, List.range.loop])
    (refine J.val M _ rfl rfl (by intro h; cases h) (fun _ => run_eq_of (fun K hK => by go_simp; (try simp only [IntKind.wrap_u64, IntKind.wrap_u32, IntKind.wrap_i32, Int.reduceMul, Int.reduceMod, Int.reduceAdd, Int.reduceSub, Int.reduceDiv, Int.reducePow, Int.reduceNeg, Int.zero_add, Int.add_zero, Int.one_mul, nb0, nb1, nb2, nb3, nc0, nc1, nc2, nc3]); exact hK)) (fun _ => by first | (simp [go_sem]; done) | fail) ?_; (try walk_nrm))
    (refine J.val M _ rfl rfl (by intro h; cases h) (fun _ => run_eq_of (fun K hK => by go_simp; (try simp only [IntKind.wrap_u64, IntKind.wrap_u32, IntKind.wrap_i32, Int.reduceMul, Int.reduceMod, Int.reduceAdd, Int.reduceSub, Int.reduceDiv, Int.reducePow, Int.reduceNeg, Int.zero_add, Int.add_zero, Int.one_mul, nb0, nb1, nb2, nb3, nc0, nc1, nc2, nc3]); exact hK)) (fun _ => by first | (simp [go_sem]; done) | fail) ?_; (try walk_nrm))
    (refine J.val M _ rfl rfl (by intro h; cases h) (fun _ => run_eq_of (fun K hK => by go_simp; (try simp only [IntKind.wrap_u64, IntKind.wrap_u32, IntKind.wrap_i32, Int.reduceMul, Int.reduceMod, Int.reduceAdd, Int.reduceSub, Int.reduceDiv, Int.reducePow, Int.reduceNeg, Int.zero_add, Int.add_zero, Int.one_mul, nb0, nb1, nb2, nb3, nc0, nc1, nc2, nc3]); exact hK)) (fun _ => by first | (simp [go_sem]; done) | fail) ?_; (try walk_nrm))
    (refine J.val M _ rfl rfl (by intro h; cases h) (fun _ => run_eq_of (fun K hK => by go_simp; (try simp only [IntKind.wrap_u64, IntKind.wrap_u32, IntKind.wrap_i32, Int.reduceMul, Int.reduceMod, Int.reduceAdd, Int.reduceSub, Int.reduceDiv, Int.reducePow, Int.reduceNeg, Int.zero_add, Int.add_zero, Int.one_mul, nb0, nb1, nb2, nb3, nc0, nc1, nc2, nc3]); exact hK)) (fun _ => by first | (simp [go_sem]; done) | fail) ?_; (try walk_nrm))
    refine J.step M (.act rfl (.store rfl (Nat.succ_pos _) (fun w hs hg => ?_)))
    have hcell := wgO_cell0 hg
    refine ⟨_, stepG_store_atomic rfl rfl (by intro h; cases h) rfl Try.func56 (by rfl) (by rfl) (by rfl) (by kernel_rfl) rfl rfl hcell.1 hcell.2, ?_⟩
    clear hcell hg hs w
    try walk_nrm
    (refine J.quiet M rfl (fun _ => stepG_region_end) ?_)
    (refine J.quiet M rfl (fun _ => stepG_end) ?_)
    refine J.leave0 M rfl rfl Try.func41 rfl ?_
    try walk_nrm
    (refine J.quiet M rfl (fun _ => stepG_region_end) ?_)
    (refine J.quiet M rfl (fun _ => stepG_seq) ?_)
    (refine J.quiet M rfl (fun _ => stepG_seq) ?_)
    (refine J.quiet M rfl (fun _ => stepG_region) ?_; simp only [List.size_toArray, List.length_cons, List.length_nil, Nat.reduceAdd, Nat.zero_add, List.range, List.range.loop])
    (refine J.val M _ rfl rfl (by intro h; cases h) (fun _ => run_eq_of (fun K hK => by go_simp; (try simp only [IntKind.wrap_u64, IntKind.wrap_u32, IntKind.wrap_i32, Int.reduceMul, Int.reduceMod, Int.reduceAdd, Int.reduceSub, Int.reduceDiv, Int.reducePow, Int.reduceNeg, Int.zero_add, Int.add_zero, Int.one_mul, nb0, nb1, nb2, nb3, nc0, nc1, nc2, nc3]); exact hK)) (fun _ => by first | (simp [go_sem]; done) | fail) ?_; (try walk_nrm))
    (refine J.quiet M rfl (fun _ => stepG_region_end) ?_)
    (refine J.quiet M rfl (fun _ => stepG_cond (t := false) rfl) ?_; simp only [if_true, if_false, Bool.false_eq_true, reduceIte])
    (refine J.quiet M rfl (fun _ => stepG_skip) ?_)
    (refine J.quiet M rfl (fun _ => stepG_block) ?_)
    (refine J.quiet M rfl (fun _ => stepG_loop) ?_)
    (refine J.quiet M rfl (fun _ => stepG_seq) ?_)
    (refine J.quiet M rfl (fun _ => stepG_seq) ?_)
    (refine J.quiet M rfl (fun _ => stepG_region) ?_; simp only [List.size_toArray, List.length_cons, List.length_nil, Nat.reduceAdd, Nat.zero_add, List.range, List.range.loop])
    (refine J.val M _ rfl rfl (by intro h; cases h) (fun _ => run_eq_of (fun K hK => by go_simp; (try simp only [IntKind.wrap_u64, IntKind.wrap_u32, IntKind.wrap_i32, Int.reduceMul, Int.reduceMod, Int.reduceAdd, Int.reduceSub, Int.reduceDiv, Int.reducePow, Int.reduceNeg, Int.zero_add, Int.add_zero, Int.one_mul, nb0, nb1, nb2, nb3, nc0, nc1, nc2, nc3]); exact hK)) (fun _ => by first | (simp [go_sem]; done) | fail) ?_; (try walk_nrm))
    (refine J.val M _ rfl rfl (by intro h; cases h) (fun _ => run_eq_of (fun K hK => by go_simp; (try simp only [IntKind.wrap_u64, IntKind.wrap_u32, IntKind.wrap_i32, Int.reduceMul, Int.reduceMod, Int.reduceAdd, Int.reduceSub, Int.reduceDiv, Int.reducePow, Int.reduceNeg, Int.zero_add, Int.add_zero, Int.one_mul, nb0, nb1, nb2, nb3, nc0, nc1, nc2, nc3]); exact hK)) (fun _ => by first | (simp [go_sem]; done) | fail) ?_; (try walk_nrm))
    (refine J.quiet M rfl (fun _ => stepG_region_end) ?_)
    (refine J.quiet M rfl (fun _ => stepG_cond (t := true) rfl) ?_; simp only [if_true, if_false, Bool.false_eq_true, reduceIte])
    (refine J.quiet M rfl (fun _ => stepG_skip) ?_)
    (refine J.quiet M rfl (fun _ => stepG_seq) ?_)
    (refine J.quiet M rfl (fun _ => stepG_block) ?_)
    (refine J.quiet M rfl (fun _ => stepG_region) ?_; simp only [List.size_toArray, List.length_cons, List.length_nil, Nat.reduceAdd, Nat.zero_add, List.range, List.range.loop])
    (refine J.val M _ rfl rfl (by intro h; cases h) (fun _ => run_eq_of (fun K hK => by go_simp; (try simp only [IntKind.wrap_u64, IntKind.wrap_u32, IntKind.wrap_i32, Int.reduceMul, Int.reduceMod, Int.reduceAdd, Int.reduceSub, Int.reduceDiv, Int.reducePow, Int.reduceNeg, Int.zero_add, Int.add_zero, Int.one_mul, nb0, nb1, nb2, nb3, nc0, nc1, nc2, nc3]); exact hK)) (fun _ => by first | (simp [go_sem]; done) | fail) ?_; (try walk_nrm))
    (refine J.val M _ rfl rfl (by intro h; cases h) (fun _ => run_eq_of (fun K hK => by go_simp; (try simp only [IntKind.wrap_u64, IntKind.wrap_u32, IntKind.wrap_i32, Int.reduceMul, Int.reduceMod, Int.reduceAdd, Int.reduceSub, Int.reduceDiv, Int.reducePow, Int.reduceNeg, Int.zero_add, Int.add_zero, Int.one_mul, nb0, nb1, nb2, nb3, nc0, nc1, nc2, nc3]); exact hK)) (fun _ => by first | (simp [go_sem]; done) | fail) ?_; (try walk_nrm))
    (refine J.val M _ rfl rfl (by intro h; cases h) (fun _ => run_eq_of (fun K hK => by go_simp; (try simp only [IntKind.wrap_u64, IntKind.wrap_u32, IntKind.wrap_i32, Int.reduceMul, Int.reduceMod, Int.reduceAdd, Int.reduceSub, Int.reduceDiv, Int.reducePow, Int.reduceNeg, Int.zero_add, Int.add_zero, Int.one_mul, nb0, nb1, nb2, nb3, nc0, nc1, nc2, nc3]); exact hK)) (fun _ => by first | (simp [go_sem]; done) | fail) ?_; (try walk_nrm))
    refine J.step M (.act rfl (.sem rfl (Nat.succ_pos _) (by rfl) (fun w hs hg => ?_)))
    have hcell := wgO_cell1 hg
    refine ⟨_, stepG_semrelease rfl rfl (by intro h; cases h) rfl Try.func43 (by rfl) (by rfl) (by rfl) (by kernel_rfl) (by walk_nrm) hcell.1 hcell.2, ?_⟩
    clear hcell hg hs w
    change QE _ _ _
    try walk_nrm
    (refine QE.ctl rfl (fun _ => stepG_region_end) ?_)
    (refine QE.ctl rfl (fun _ => stepG_inBlock) ?_)
    (refine QE.ctl rfl (fun _ => stepG_region) ?_; simp only [List.size_toArray, List.length_cons, List.length_nil, Nat.reduceAdd, Nat.zero_add, List.range, List.range.loop])
    (refine QE.value _ rfl rfl (by intro h; cases h) (fun _ => run_eq_of (fun K hK => by go_simp; (try simp only [IntKind.wrap_u64, IntKind.wrap_u32, IntKind.wrap_i32, Int.reduceMul, Int.reduceMod, Int.reduceAdd, Int.reduceSub, Int.reduceDiv, Int.reducePow, Int.reduceNeg, Int.zero_add, Int.add_zero, Int.one_mul, nb0, nb1, nb2, nb3, nc0, nc1, nc2, nc3]); exact hK)) (fun _ => by first | (simp [go_sem]; done) | fail) ?_; (try walk_nrm))
    (refine QE.value _ rfl rfl (by intro h; cases h) (fun _ => run_eq_of (fun K hK => by go_simp; (try simp only [IntKind.wrap_u64, IntKind.wrap_u32, IntKind.wrap_i32, Int.reduceMul, Int.reduceMod, Int.reduceAdd, Int.reduceSub, Int.reduceDiv, Int.reducePow, Int.reduceNeg, Int.zero_add, Int.add_zero, Int.one_mul, nb0, nb1, nb2, nb3, nc0, nc1, nc2, nc3]); exact hK)) (fun _ => by first | (simp [go_sem]; done) | fail) ?_; (try walk_nrm))
    (refine QE.value _ rfl rfl (by intro h; cases h) (fun _ => run_eq_of (fun K hK => by go_simp; (try simp only [IntKind.wrap_u64, IntKind.wrap_u32, IntKind.wrap_i32, Int.reduceMul, Int.reduceMod, Int.reduceAdd, Int.reduceSub, Int.reduceDiv, Int.reducePow, Int.reduceNeg, Int.zero_add, Int.add_zero, Int.one_mul, nb0, nb1, nb2, nb3, nc0, nc1, nc2, nc3]); exact hK)) (fun _ => by first | (simp [go_sem]; done) | fail) ?_; (try walk_nrm))
    (refine QE.ctl rfl (fun _ => stepG_region_end) ?_)
    (refine QE.ctl rfl (fun _ => stepG_inLoop) ?_)
    (refine QE.ctl rfl (fun _ => stepG_seq) ?_)
    (refine QE.ctl rfl (fun _ => stepG_seq) ?_)
    (refine QE.ctl rfl (fun _ => stepG_region) ?_; simp only [List.size_toArray, List.length_cons, List.length_nil, Nat.reduceAdd, Nat.zero_add, List.range, List.range.loop])
    (refine QE.value _ rfl rfl (by intro h; cases h) (fun _ => run_eq_of (fun K hK => by go_simp; (try simp only [IntKind.wrap_u64, IntKind.wrap_u32, IntKind.wrap_i32, Int.reduceMul, Int.reduceMod, Int.reduceAdd, Int.reduceSub, Int.reduceDiv, Int.reducePow, Int.reduceNeg, Int.zero_add, Int.add_zero, Int.one_mul, nb0, nb1, nb2, nb3, nc0, nc1, nc2, nc3]); exact hK)) (fun _ => by first | (simp [go_sem]; done) | fail) ?_; (try walk_nrm))
    (refine QE.value _ rfl rfl (by intro h; cases h) (fun _ => run_eq_of (fun K hK => by go_simp; (try simp only [IntKind.wrap_u64, IntKind.wrap_u32, IntKind.wrap_i32, Int.reduceMul, Int.reduceMod, Int.reduceAdd, Int.reduceSub, Int.reduceDiv, Int.reducePow, Int.reduceNeg, Int.zero_add, Int.add_zero, Int.one_mul, nb0, nb1, nb2, nb3, nc0, nc1, nc2, nc3]); exact hK)) (fun _ => by first | (simp [go_sem]; done) | fail) ?_; (try walk_nrm))
    (refine QE.ctl rfl (fun _ => stepG_region_end) ?_)
    (refine QE.ctl rfl (fun _ => stepG_cond (t := false) rfl) ?_; simp only [if_true, if_false, Bool.false_eq_true, reduceIte])
    (refine QE.ctl rfl (fun _ => stepG_exit rfl) ?_)
    (refine QE.ctl rfl (fun _ => stepG_end) ?_)
    refine QE.enable rfl Try.func33 (by rfl) (by rfl) (by rfl) (by kernel_rfl) ?_
    refine QE.leave0 rfl rfl Try.func24 rfl ?_
    try walk_nrm
    (refine QE.ctl rfl (fun _ => stepG_region_end) ?_)
    (refine QE.ctl rfl (fun _ => stepG_end) ?_)
    refine QE.leaveD rfl rfl Try.func26 rfl rfl ?_
    exact qe_root a todo

end Go.Proofs.Ytdmhgajamepgoaa.Q
