/-
  OWN TEXT. PIPE: THE CALLER's ACTS AS RULES; sync.WaitGroup's Wait, as the caller comes to it.
-/
import Derived.Test.YtdmhgajamepgoaaRi
set_option linter.unusedVariables false
set_option linter.unusedSimpArgs false
set_option linter.unusedSectionVars false
namespace Go.Proofs.Ytdmhgajamepgoaa.Q
open Go Go.Conc

theorem wgO_c0 {w : World} {G : Nat} {ty : TypeId} {st sm : Int} (h : w.heap[G]? = some (wgO ty st sm)) : w.cell? ⟨G, 0, none⟩ = some (.int .u64 st) ∧ w.frozen? ⟨G, 0, none⟩ = false := by simp [World.cell?, World.frozen?, h, wgO]
theorem wgO_c1 {w : World} {G : Nat} {ty : TypeId} {st sm : Int} (h : w.heap[G]? = some (wgO ty st sm)) : w.cell? ⟨G, 1, none⟩ = some (.int .u32 sm) ∧ w.frozen? ⟨G, 1, none⟩ = false := by simp [World.cell?, World.frozen?, h, wgO]

section
variable {P : Program} {B : World} {Post : Value → World → Prop} {fn : FuncId} {Q : Exit → Act → Tau CX → Prop} {a : Act} {t : Tau CX} {ops : Array Oper} {i : Nat} {rest : List Nat} {o : Oper} {p : PRec} {r : Nat}

theorem opsC_recv (z : Value) (hx : t.x = .pump p r .recv) (hd : t.d = 0) (ho : ops[i]? = some o) (hw : Region.wanted o (yielded ops a.tmps) = true)
    (hr : ∀ w, (execOp a.eval o).run P w = .ok (.comm #[rcase p.O z] true (.recv true)) w) (he : ∀ w, (execOp a.eval o).events P w #[] = #[])
    (h1 : ∀ v, p.All[r]? = some v → OpsS (CMv P B Post) fn ops rest Q (a.put o.dst (.tuple #[v, .bool true])) ⟨t.sg, t.d, .pump p (r + 1) .recv⟩)
    (h2 : r = p.All.length → OpsS (CMv P B Post) fn ops rest Q (a.put o.dst (.tuple #[z, .bool false])) ⟨t.sg, t.d, .pump p r .over⟩) : OpsS (CMv P B Post) fn ops (i :: rest) Q a t := by
  intro b k cs hb hk hq
  refine J.step (cmoves P B Post) (.act rfl (.recv p r z hx hd (fun w hs => ?_) (fun v hv => ?_) (fun e => ?_)))
  · rw [stepG_comm ho hw hk (hr w)]
    unfold listed
    rw [he w, seen_none]
  · rw [served_G, ho]; exact h1 v hv b k cs hb hk hq
  · rw [served_G, ho]; exact h2 e b k cs hb hk hq

section
variable {f : FuncId} {fu : Func} {xs : Array Operand} {ats : Array TypeId}
  (ho : ops[i]? = some o) (hw : Region.wanted o (yielded ops a.tmps) = true) (hop : o.op = .call { callee := .value (.func f), args := xs, argTypes := ats })
  (hf : P.funcs[f]? = some fu) (hname : (fu.name == "runtime.NumGoroutine") = false) (hb : fu.body.isNone = true) (hn : Extern.findNext fu = none)
include ho hw hop hf hname hb hn

theorem opsC_said (hx : t.x = .pump p r .reg) (he : Extern.find fu = some (Extern.Race.marked .write)) (hxx : (xs.map a.eval)[0]? = some (.pointer (some ⟨p.G, 1, none⟩)))
    (h : OpsS (CMv P B Post) fn ops rest Q (a.put o.dst (.tuple #[])) t) : OpsS (CMv P B Post) fn ops (i :: rest) Q a t := by
  intro b k cs hb' hk hq
  exact J.step (cmoves P B Post) (.act rfl (.said p r _ hx (fun w hs => stepG_markAt .write (by simp) ho hw hk hop hf hname hb hn he hxx) (h b k cs hb' hk hq)))
theorem opsC_acq (hx : t.x = .pump p r .pass) (hd : t.d = 0) (he : Extern.find fu = some (Extern.Race.marked .acquire)) (hxx : (xs.map a.eval)[0]? = some (.pointer (some ⟨p.G, 0, none⟩)))
    (h : ∀ s sw, r ≤ s → s ≤ p.All.length → p.Fin s sw → ((t.sg ++ sw).map Chunk.b).Nodup → (∀ c ∈ sw, c.own = true) → OpsS (CMv P B Post) fn ops rest Q (a.put o.dst (.tuple #[])) ⟨t.sg ++ sw, 0, .alone⟩) : OpsS (CMv P B Post) fn ops (i :: rest) Q a t := by
  intro b k cs hb' hk hq
  exact J.step (cmoves P B Post) (.act rfl (.acq p r _ hx hd (fun w hs => stepG_markAt .acquire (by simp) ho hw hk hop hf hname hb hn he hxx) fun s sw h1 h2 h3 h4 h5 => h s sw h1 h2 h3 h4 h5 b k cs hb' hk hq))
theorem opsC_sem (hx : t.x = .pump p r .reg) (he : Extern.find fu = some Extern.Sync.semacquire) (hxx : (xs.map a.eval)[0]? = some (.pointer (some ⟨p.G, 1, none⟩)))
    (h : OpsS (CMv P B Post) fn ops rest Q (a.put o.dst (.tuple #[])) ⟨t.sg, t.d, .pump p r .reg2⟩) : OpsS (CMv P B Post) fn ops (i :: rest) Q a t := by
  intro b k cs hb' hk hq
  refine J.step (cmoves P B Post) (.act rfl (.sem p r hx rfl (fun w st hs hg => ?_) (fun w hs hg => ?_)))
  · exact stepG_semacquire_wait ho hw hop hf hname hb hn he hxx (wgO_c1 hg).1
  · exact ⟨_, stepG_semacquire ho hw hk hop hf hname hb hn he hxx (wgO_c1 hg).1 (by decide) (wgO_c1 hg).2, h b k cs hb' hk hq⟩
end

section
variable {f : FuncId} {fu : Func} {x y z : Operand} {ats : Array TypeId}
theorem opsC_load (hx : t.x = .pump p r .shut) (ho : ops[i]? = some o) (hw : Region.wanted o (yielded ops a.tmps) = true) (hop : o.op = .call { callee := .value (.func f), args := #[x], argTypes := ats })
    (hf : P.funcs[f]? = some fu) (hname : (fu.name == "runtime.NumGoroutine") = false) (hb : fu.body.isNone = true) (hn : Extern.findNext fu = none) (he : Extern.find fu = some (Extern.Atomic.loadT (.int .u64))) (hxx : a.eval x = .pointer (some ⟨p.G, 0, none⟩))
    (h1 : OpsS (CMv P B Post) fn ops rest Q (a.put o.dst (.int .u64 KK)) t) (h2 : OpsS (CMv P B Post) fn ops rest Q (a.put o.dst (.int .u64 0)) ⟨t.sg, t.d, .pump p r .pass⟩) : OpsS (CMv P B Post) fn ops (i :: rest) Q a t := by
  intro b k cs hb' hk hq
  exact J.step (cmoves P B Post) (.act rfl (.load p r hx
    (fun w hs hg => ⟨_, stepG_load_atomic ho hw hk hop hf hname hb hn .u64 he hxx (wgO_c0 hg).1, h1 b k cs hb' hk hq⟩)
    (fun w hs hg => ⟨_, stepG_load_atomic ho hw hk hop hf hname hb hn .u64 he hxx (wgO_c0 hg).1, h2 b k cs hb' hk hq⟩)))
theorem opsC_load0 (hx : t.x = .pump p r .shut0) (ho : ops[i]? = some o) (hw : Region.wanted o (yielded ops a.tmps) = true) (hop : o.op = .call { callee := .value (.func f), args := #[x], argTypes := ats })
    (hf : P.funcs[f]? = some fu) (hname : (fu.name == "runtime.NumGoroutine") = false) (hb : fu.body.isNone = true) (hn : Extern.findNext fu = none) (he : Extern.find fu = some (Extern.Atomic.loadT (.int .u64))) (hxx : a.eval x = .pointer (some ⟨p.G, 0, none⟩))
    (h2 : OpsS (CMv P B Post) fn ops rest Q (a.put o.dst (.int .u64 0)) ⟨t.sg, t.d, .pump p r .pass⟩) : OpsS (CMv P B Post) fn ops (i :: rest) Q a t := by
  intro b k cs hb' hk hq
  exact J.step (cmoves P B Post) (.act rfl (.load0 p r hx
    (fun w hs hg => ⟨_, stepG_load_atomic ho hw hk hop hf hname hb hn .u64 he hxx (wgO_c0 hg).1, h2 b k cs hb' hk hq⟩)))
theorem opsC_load2 (hx : t.x = .pump p r .reg2) (ho : ops[i]? = some o) (hw : Region.wanted o (yielded ops a.tmps) = true) (hop : o.op = .call { callee := .value (.func f), args := #[x], argTypes := ats })
    (hf : P.funcs[f]? = some fu) (hname : (fu.name == "runtime.NumGoroutine") = false) (hb : fu.body.isNone = true) (hn : Extern.findNext fu = none) (he : Extern.find fu = some (Extern.Atomic.loadT (.int .u64))) (hxx : a.eval x = .pointer (some ⟨p.G, 0, none⟩))
    (h2 : OpsS (CMv P B Post) fn ops rest Q (a.put o.dst (.int .u64 0)) ⟨t.sg, t.d, .pump p r .pass⟩) : OpsS (CMv P B Post) fn ops (i :: rest) Q a t := by
  intro b k cs hb' hk hq
  exact J.step (cmoves P B Post) (.act rfl (.load2 p r hx
    (fun w hs hg => ⟨_, stepG_load_atomic ho hw hk hop hf hname hb hn .u64 he hxx (wgO_c0 hg).1, h2 b k cs hb' hk hq⟩)))
theorem opsC_cas (hx : t.x = .pump p r .shut) (ho : ops[i]? = some o) (hw : Region.wanted o (yielded ops a.tmps) = true) (hop : o.op = .call { callee := .value (.func f), args := #[x, y, z], argTypes := ats })
    (hf : P.funcs[f]? = some fu) (hname : (fu.name == "runtime.NumGoroutine") = false) (hb : fu.body.isNone = true) (hn : Extern.findNext fu = none) (he : Extern.find fu = some (Extern.Atomic.casT (.int .u64)))
    (hxx : a.eval x = .pointer (some ⟨p.G, 0, none⟩)) (hyy : a.eval y = .int .u64 KK) (hzz : a.eval z = .int .u64 (KK + 1))
    (h1 : OpsS (CMv P B Post) fn ops rest Q (a.put o.dst (.bool true)) ⟨t.sg, t.d, .pump p r .reg⟩) (h2 : OpsS (CMv P B Post) fn ops rest Q (a.put o.dst (.bool false)) ⟨t.sg, t.d, .pump p r .shut0⟩) : OpsS (CMv P B Post) fn ops (i :: rest) Q a t := by
  intro b k cs hb' hk hq
  exact J.step (cmoves P B Post) (.act rfl (.cas p r hx
    (fun w hs hg => ⟨_, stepG_cas_hit ho hw hk hop hf hname hb hn .u64 he hxx hyy hzz (wgO_c0 hg).1 (wgO_c0 hg).2, h1 b k cs hb' hk hq⟩)
    (fun w hs hg => ⟨_, stepG_cas_miss ho hw hk hop hf hname hb hn .u64 he hxx hyy hzz (wgO_c0 hg).1 (wgO_c0 hg).2 (by decide), h2 b k cs hb' hk hq⟩)))
/-- A pointer into the group, as an unsafe one. -/
theorem opsC_unsafe {src dst tt : TypeId} {c : CPh} {j : Nat} (hj : j < 2) (hx : t.x = .pump p r c) (hcr : c ≠ .recv) (ho : ops[i]? = some o) (hw : Region.wanted o (yielded ops a.tmps) = true) (hop : o.op = .convert src dst x)
    (hs : P.underlying src = some (.pointer tt)) (hd : P.underlying dst = some .unsafePointer) (hsz : (P.info? tt).map (fun i => decide (i.size = 0)) = some false) (hxx : a.eval x = .pointer (some ⟨p.G, j, none⟩))
    (h : OpsS (CMv P B Post) fn ops rest Q (a.put o.dst (.pointer (some ⟨p.G, j, none⟩))) t) : OpsS (CMv P B Post) fn ops (i :: rest) Q a t := by
  intro b k cs hb' hk hq
  refine J.step (cmoves P B Post) (.act rfl (.look p r c _ hx hcr (fun w st sm hsat hg => ?_) (h b k cs hb' hk hq)))
  have hcell : ∃ u, w.cell? ⟨p.G, j, none⟩ = some u := by
    obtain rfl | rfl : j = 0 ∨ j = 1 := by omega
    · exact ⟨_, (wgO_c0 hg).1⟩
    · exact ⟨_, (wgO_c1 hg).1⟩
  obtain ⟨u, hcell⟩ := hcell
  obtain ⟨hr, he⟩ := run_unsafe hop hs hd hsz hxx hcell
  rw [stepG_value ho hw hk hr]
  unfold listed
  rw [he, seen_none]
end
end

section
variable {B : World} {Post : Value → World → Prop} {t : Tau CX} {p : PRec} {r : Nat}

theorem uload_shut (hx : t.x = .pump p r .shut) : CallsS (CMv Try.prog B Post) Try.prog 40 #[.pointer (some ⟨p.G, 0, none⟩)] t fun v t' => (v = .int .u64 4294967296 ∧ t' = t) ∨ (v = .int .u64 0 ∧ t' = ⟨t.sg, t.d, .pump p r .pass⟩) := by
  have M := cmoves Try.prog B Post
  refine callsS_of M Try.func40 (by rfl) ?_
  simp only [Try.ntmps40, List.size_toArray, List.length_cons, List.length_nil, Nat.reduceAdd, Nat.reduceSub, Array.replicate_succ, Array.replicate_zero, List.push_toArray, List.append_toArray, List.nil_append, List.cons_append]
  refine wpS_seq M ?_
  refine wpS_region M ?_
  simp only [List.size_toArray, List.length_cons, List.length_nil, Nat.reduceAdd, Nat.zero_add, List.range, List.range.loop]
  (refine opsS_look M rfl (by rfl) (fun w => by first | (simp [go_sem]; done) | fail) (fun w hs K hK => ?_); go_simp; refine hK _ ?_; clear hK K hs w; (try walk_nrm))
  refine opsS_nil M ?_
  try simp only [thenS, inBlockS]
  refine wpS_seq M ?_
  refine wpS_region M ?_
  simp only [List.size_toArray, List.length_cons, List.length_nil, Nat.reduceAdd, Nat.zero_add, List.range, List.range.loop]
  (refine opsS_look M rfl (by rfl) (fun w => by first | (simp [go_sem]; done) | fail) (fun w hs K hK => ?_); go_simp; refine hK _ ?_; clear hK K hs w; (try walk_nrm))
  (refine opsS_look M rfl (by rfl) (fun w => by first | (simp [go_sem]; done) | fail) (fun w hs K hK => ?_); go_simp; refine hK _ ?_; clear hK K hs w; (try walk_nrm))
  (refine opsS_look M rfl (by rfl) (fun w => by first | (simp [go_sem]; done) | fail) (fun w hs K hK => ?_); go_simp; refine hK _ ?_; clear hK K hs w; (try walk_nrm))
  refine opsC_load hx rfl (by rfl) rfl Try.func55 (by rfl) (by rfl) (by rfl) (by kernel_rfl) rfl ?_ ?_
  · try walk_nrm
    (refine opsS_look M rfl (by rfl) (fun w => by first | (simp [go_sem]; done) | fail) (fun w hs K hK => ?_); go_simp; refine hK _ ?_; clear hK K hs w; (try walk_nrm))
    refine opsS_nil M ?_
    try simp only [thenS, inBlockS]
    refine wpS_ret M ?_
    exact leaveS_done M rfl Try.func40 (resultsC_tmp (by rfl) _) (.inl ⟨rfl, rfl⟩)
  · try walk_nrm
    (refine opsS_look M rfl (by rfl) (fun w => by first | (simp [go_sem]; done) | fail) (fun w hs K hK => ?_); go_simp; refine hK _ ?_; clear hK K hs w; (try walk_nrm))
    refine opsS_nil M ?_
    try simp only [thenS, inBlockS]
    refine wpS_ret M ?_
    exact leaveS_done M rfl Try.func40 (resultsC_tmp (by rfl) _) (.inr ⟨rfl, rfl⟩)
theorem uload_shut0 (hx : t.x = .pump p r .shut0) : CallsS (CMv Try.prog B Post) Try.prog 40 #[.pointer (some ⟨p.G, 0, none⟩)] t fun v t' => v = .int .u64 0 ∧ t' = ⟨t.sg, t.d, .pump p r .pass⟩ := by
  have M := cmoves Try.prog B Post
  refine callsS_of M Try.func40 (by rfl) ?_
  simp only [Try.ntmps40, List.size_toArray, List.length_cons, List.length_nil, Nat.reduceAdd, Nat.reduceSub, Array.replicate_succ, Array.replicate_zero, List.push_toArray, List.append_toArray, List.nil_append, List.cons_append]
  refine wpS_seq M ?_
  refine wpS_region M ?_
  simp only [List.size_toArray, List.length_cons, List.length_nil, Nat.reduceAdd, Nat.zero_add, List.range, List.range.loop]
  (refine opsS_look M rfl (by rfl) (fun w => by first | (simp [go_sem]; done) | fail) (fun w hs K hK => ?_); go_simp; refine hK _ ?_; clear hK K hs w; (try walk_nrm))
  refine opsS_nil M ?_
  try simp only [thenS, inBlockS]
  refine wpS_seq M ?_
  refine wpS_region M ?_
  simp only [List.size_toArray, List.length_cons, List.length_nil, Nat.reduceAdd, Nat.zero_add, List.range, List.range.loop]
  (refine opsS_look M rfl (by rfl) (fun w => by first | (simp [go_sem]; done) | fail) (fun w hs K hK => ?_); go_simp; refine hK _ ?_; clear hK K hs w; (try walk_nrm))
  (refine opsS_look M rfl (by rfl) (fun w => by first | (simp [go_sem]; done) | fail) (fun w hs K hK => ?_); go_simp; refine hK _ ?_; clear hK K hs w; (try walk_nrm))
  (refine opsS_look M rfl (by rfl) (fun w => by first | (simp [go_sem]; done) | fail) (fun w hs K hK => ?_); go_simp; refine hK _ ?_; clear hK K hs w; (try walk_nrm))
  refine opsC_load0 hx rfl (by rfl) rfl Try.func55 (by rfl) (by rfl) (by rfl) (by kernel_rfl) rfl ?_
  try walk_nrm
  (refine opsS_look M rfl (by rfl) (fun w => by first | (simp [go_sem]; done) | fail) (fun w hs K hK => ?_); go_simp; refine hK _ ?_; clear hK K hs w; (try walk_nrm))
  refine opsS_nil M ?_
  try simp only [thenS, inBlockS]
  refine wpS_ret M ?_
  exact leaveS_done M rfl Try.func40 (resultsC_tmp (by rfl) _) ⟨rfl, rfl⟩
theorem uload_reg2 (hx : t.x = .pump p r .reg2) : CallsS (CMv Try.prog B Post) Try.prog 40 #[.pointer (some ⟨p.G, 0, none⟩)] t fun v t' => v = .int .u64 0 ∧ t' = ⟨t.sg, t.d, .pump p r .pass⟩ := by
  have M := cmoves Try.prog B Post
  refine callsS_of M Try.func40 (by rfl) ?_
  simp only [Try.ntmps40, List.size_toArray, List.length_cons, List.length_nil, Nat.reduceAdd, Nat.reduceSub, Array.replicate_succ, Array.replicate_zero, List.push_toArray, List.append_toArray, List.nil_append, List.cons_append]
  refine wpS_seq M ?_
  refine wpS_region M ?_
  simp only [List.size_toArray, List.length_cons, List.length_nil, Nat.reduceAdd, Nat.zero_add, List.range, List.range.loop]
  (refine opsS_look M rfl (by rfl) (fun w => by first | (simp [go_sem]; done) | fail) (fun w hs K hK => ?_); go_simp; refine hK _ ?_; clear hK K hs w; (try walk_nrm))
  refine opsS_nil M ?_
  try simp only [thenS, inBlockS]
  refine wpS_seq M ?_
  refine wpS_region M ?_
  simp only [List.size_toArray, List.length_cons, List.length_nil, Nat.reduceAdd, Nat.zero_add, List.range, List.range.loop]
  (refine opsS_look M rfl (by rfl) (fun w => by first | (simp [go_sem]; done) | fail) (fun w hs K hK => ?_); go_simp; refine hK _ ?_; clear hK K hs w; (try walk_nrm))
  (refine opsS_look M rfl (by rfl) (fun w => by first | (simp [go_sem]; done) | fail) (fun w hs K hK => ?_); go_simp; refine hK _ ?_; clear hK K hs w; (try walk_nrm))
  (refine opsS_look M rfl (by rfl) (fun w => by first | (simp [go_sem]; done) | fail) (fun w hs K hK => ?_); go_simp; refine hK _ ?_; clear hK K hs w; (try walk_nrm))
  refine opsC_load2 hx rfl (by rfl) rfl Try.func55 (by rfl) (by rfl) (by rfl) (by kernel_rfl) rfl ?_
  try walk_nrm
  (refine opsS_look M rfl (by rfl) (fun w => by first | (simp [go_sem]; done) | fail) (fun w hs K hK => ?_); go_simp; refine hK _ ?_; clear hK K hs w; (try walk_nrm))
  refine opsS_nil M ?_
  try simp only [thenS, inBlockS]
  refine wpS_ret M ?_
  exact leaveS_done M rfl Try.func40 (resultsC_tmp (by rfl) _) ⟨rfl, rfl⟩
theorem ucas_shut (hx : t.x = .pump p r .shut) : CallsS (CMv Try.prog B Post) Try.prog 46 #[.pointer (some ⟨p.G, 0, none⟩), .int .u64 4294967296, .int .u64 4294967297] t fun v t' =>
    (v = .bool true ∧ t' = ⟨t.sg, t.d, .pump p r .reg⟩) ∨ (v = .bool false ∧ t' = ⟨t.sg, t.d, .pump p r .shut0⟩) := by
  have M := cmoves Try.prog B Post
  refine callsS_of M Try.func46 (by rfl) ?_
  simp only [Try.ntmps46, List.size_toArray, List.length_cons, List.length_nil, Nat.reduceAdd, Nat.reduceSub, Array.replicate_succ, Array.replicate_zero, List.push_toArray, List.append_toArray, List.nil_append, List.cons_append]
  refine wpS_seq M ?_
  refine wpS_region M ?_
  simp only [List.size_toArray, List.length_cons, List.length_nil, Nat.reduceAdd, Nat.zero_add, List.range, List.range.loop]
  (refine opsS_look M rfl (by rfl) (fun w => by first | (simp [go_sem]; done) | fail) (fun w hs K hK => ?_); go_simp; refine hK _ ?_; clear hK K hs w; (try walk_nrm))
  refine opsS_nil M ?_
  try simp only [thenS, inBlockS]
  refine wpS_seq M ?_
  refine wpS_region M ?_
  simp only [List.size_toArray, List.length_cons, List.length_nil, Nat.reduceAdd, Nat.zero_add, List.range, List.range.loop]
  (refine opsS_look M rfl (by rfl) (fun w => by first | (simp [go_sem]; done) | fail) (fun w hs K hK => ?_); go_simp; refine hK _ ?_; clear hK K hs w; (try walk_nrm))
  (refine opsS_look M rfl (by rfl) (fun w => by first | (simp [go_sem]; done) | fail) (fun w hs K hK => ?_); go_simp; refine hK _ ?_; clear hK K hs w; (try walk_nrm))
  (refine opsS_look M rfl (by rfl) (fun w => by first | (simp [go_sem]; done) | fail) (fun w hs K hK => ?_); go_simp; refine hK _ ?_; clear hK K hs w; (try walk_nrm))
  (refine opsS_look M rfl (by rfl) (fun w => by first | (simp [go_sem]; done) | fail) (fun w hs K hK => ?_); go_simp; refine hK _ ?_; clear hK K hs w; (try walk_nrm))
  (refine opsS_look M rfl (by rfl) (fun w => by first | (simp [go_sem]; done) | fail) (fun w hs K hK => ?_); go_simp; refine hK _ ?_; clear hK K hs w; (try walk_nrm))
  refine opsC_cas hx rfl (by rfl) rfl Try.func57 (by rfl) (by rfl) (by rfl) (by kernel_rfl) rfl rfl rfl ?_ ?_
  · try walk_nrm
    (refine opsS_look M rfl (by rfl) (fun w => by first | (simp [go_sem]; done) | fail) (fun w hs K hK => ?_); go_simp; refine hK _ ?_; clear hK K hs w; (try walk_nrm))
    refine opsS_nil M ?_
    try simp only [thenS, inBlockS]
    refine wpS_ret M ?_
    exact leaveS_done M rfl Try.func46 (resultsC_tmp (by rfl) _) (.inl ⟨rfl, rfl⟩)
  · try walk_nrm
    (refine opsS_look M rfl (by rfl) (fun w => by first | (simp [go_sem]; done) | fail) (fun w hs K hK => ?_); go_simp; refine hK _ ?_; clear hK K hs w; (try walk_nrm))
    refine opsS_nil M ?_
    try simp only [thenS, inBlockS]
    refine wpS_ret M ?_
    exact leaveS_done M rfl Try.func46 (resultsC_tmp (by rfl) _) (.inr ⟨rfl, rfl⟩)
end

end Go.Proofs.Ytdmhgajamepgoaa.Q
