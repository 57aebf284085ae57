/-
  OWN TEXT. PIPE: the document's Put and Take.
-/
import Derived.Test.YtdmhgajamepgoaaRv
set_option linter.unusedVariables false
set_option linter.unusedSimpArgs false
set_option linter.unusedSectionVars false
namespace Go.Proofs.Ytdmhgajamepgoaa.Q
open Go Go.Conc

section
variable {X : Type} {P : Program} {main : Bool} {B : World} {Mv : MvT X} {strict : X → Prop} (M : Moves P main B strict Mv) {fn : FuncId} {Q : Exit → Act → Tau X → Prop} {a : Act} {t : Tau X}
include M
/-- A whole block of cells read. -/
theorem opsS_ldS {ops : Array Oper} {i : Nat} {rest : List Nat} {o : Oper} {b : Nat} {C : Array Value} {ty : TypeId} {own : Bool} (hc : (⟨b, .cells C ty, own⟩ : Chunk) ∈ t.sg) (ho : ops[i]? = some o) (hw : Region.wanted o (yielded ops a.tmps) = true) (hns : ¬ strict t.x)
    (he : ∀ w : World, w.heap[b]? = some (.cells C ty) → (∀ j u, C[j]? = some u → w.cell? ⟨b, j, none⟩ = some u) → ∀ e ∈ (execOp a.eval o).events P w #[], ∃ j, e = ⟨.cell ⟨b, j, none⟩, false, false⟩)
    (h : ∀ w : World, w.heap[b]? = some (.cells C ty) → (∀ j u, C[j]? = some u → w.cell? ⟨b, j, none⟩ = some u) → ∀ K : Act → World → Prop, (∀ a', OpsS Mv fn ops rest Q a' t → K a' w) → uponK o a K ((execOp a.eval o).run P w)) : OpsS Mv fn ops (i :: rest) Q a t :=
  have hcell : ∀ w, Sat B t.sg w → ∀ j u, C[j]? = some u → w.cell? ⟨b, j, none⟩ = some u := fun w hs j u hj => by simp [World.cell?, hs.obj hc, hj]
  opsS_load M ho hw hns (.inl ⟨_, hc, rfl⟩) (fun w hs => he w (hs.obj hc) (hcell w hs)) fun w hs => h w (hs.obj hc) (hcell w hs)
omit M in
theorem stepG_leave_ev {a : Act} {b : Frame} {w : World} {fn : Func} {todo : List Item} {c : Frame} {cs : List Frame} {v : Value} (hn : b.kind = .normal) (hd : a.defers = []) (hf : P.funcs[b.fn]? = some fn)
    (hr : (results fn a.tmps).run P w = .ok v w) :
    stepG P main (G { b.at a todo with mode := .returning } (c :: cs)) w = .go (G (c.finish v) cs) w (seen P b.fn ((results fn a.tmps).events P w #[])) := by
  simp [G, stepG, unwind, doReturn, Frame.at, hn, hd, hf, hr, GStep.after]
theorem leaveS_read {f : FuncId} {fn : Func} {a : Act} {v : Value} {Post : Value → Tau X → Prop} {bl : Nat} (hd : a.defers = []) (hf : P.funcs[f]? = some fn) (hns : ¬ strict t.x) (hb : Known t.sg bl)
    (hr : ∀ w, Sat B t.sg w → (results fn a.tmps).run P w = .ok v w ∧ ∀ e ∈ (results fn a.tmps).events P w #[], ∃ j, e = ⟨.cell ⟨bl, j, none⟩, false, false⟩) (hp : Post v t) : LeaveS Mv f a t Post := by
  intro todo fr cs hn
  refine J.own M ⟨rfl, fun w hs => ?_⟩
  have hev : ∀ e ∈ seen P f ((results fn a.tmps).events P w #[]), EvOk B t.sg w.heap.size w.heap.size e ∧ e.loc ≠ .mark .disable ∧ e.loc ≠ .mark .enable := fun e hm => by
    obtain ⟨j, rfl⟩ := (hr w hs).2 e (mem_seen hm)
    exact ⟨.read _ (.inl hb), by simp, by simp⟩
  refine ⟨_, w, _, t.sg, stepG_leave_ev (b := base f) rfl hd hf (hr w hs).1, ⟨hs, Nat.le_refl _, fun _ _ _ => rfl, fun c hc => .inl ⟨c, hc, rfl, rfl⟩, fun e he => (hev e he).1⟩, fun h => absurd h hns, ?_⟩
  have hdf : deafBehind t.d (seen P f ((results fn a.tmps).events P w #[])) = t.d := deafBehind_still (fun e hm => (hev e hm).2) _
  show J Mv ⟨t.sg, deafBehind t.d (seen P f ((results fn a.tmps).events P w #[])), t.x⟩ _
  rw [hdf]
  exact hn v t hp
end

section
variable {X : Type} {main : Bool} {B : World} {Mv : MvT X} {strict : X → Prop} (M : Moves Try.prog main B strict Mv)
include M

/-- The document's queue, as data. -/
def dqV (lv : Value) (room : Int) (cl : Bool) : Value := .agg #[lv, .int .i64 room, .bool cl]

omit M in
theorem cells3 {w : World} {b : Nat} {x0 x1 x2 : Value} {ty : TypeId} (h : w.heap[b]? = some (.cells #[x0, x1, x2] ty)) (v0 v1 : Value) :
    w.cell? ⟨b, 0, none⟩ = some x0 ∧ w.frozen? ⟨b, 0, none⟩ = false ∧ (w.setCell ⟨b, 0, none⟩ v0).cell? ⟨b, 1, none⟩ = some x1 ∧ (w.setCell ⟨b, 0, none⟩ v0).frozen? ⟨b, 1, none⟩ = false ∧
    ((w.setCell ⟨b, 0, none⟩ v0).setCell ⟨b, 1, none⟩ v1).cell? ⟨b, 2, none⟩ = some x2 ∧ ((w.setCell ⟨b, 0, none⟩ v0).setCell ⟨b, 1, none⟩ v1).frozen? ⟨b, 2, none⟩ = false := by
  have hu := upd_setCell (i := 0) h v0
  have hb : b < w.heap.size := (Array.getElem?_eq_some_iff.1 h).1
  have h1 : (w.setCell ⟨b, 0, none⟩ v0).heap[b]? = some (.cells #[v0, x1, x2] ty) := by rw [hu.2.2, Array.getElem?_setIfInBounds_self_of_lt hb]; simp
  have hu1 := upd_setCell (i := 1) h1 v1
  have hb1 : b < (w.setCell ⟨b, 0, none⟩ v0).heap.size := (Array.getElem?_eq_some_iff.1 h1).1
  have h2 : ((w.setCell ⟨b, 0, none⟩ v0).setCell ⟨b, 1, none⟩ v1).heap[b]? = some (.cells #[v0, v1, x2] ty) := by rw [hu1.2.2, Array.getElem?_setIfInBounds_self_of_lt hb1]; simp
  refine ⟨?_, ?_, ?_, ?_, ?_, ?_⟩ <;> simp [World.cell?, World.frozen?, h, h1, h2]
omit M in
theorem upd3 {w : World} {b : Nat} {x0 x1 x2 : Value} {ty : TypeId} (h : w.heap[b]? = some (.cells #[x0, x1, x2] ty)) (v0 v1 v2 : Value) :
    Upd w b (.cells #[v0, v1, v2] ty) (((w.setCell ⟨b, 0, none⟩ v0).setCell ⟨b, 1, none⟩ v1).setCell ⟨b, 2, none⟩ v2) := by
  have hu := upd_setCell (i := 0) h v0
  have hb : b < w.heap.size := (Array.getElem?_eq_some_iff.1 h).1
  have h1 : (w.setCell ⟨b, 0, none⟩ v0).heap[b]? = some (.cells #[v0, x1, x2] ty) := by rw [hu.2.2, Array.getElem?_setIfInBounds_self_of_lt hb]; simp
  have hu1 := upd_setCell (i := 1) h1 v1
  have hb1 : b < (w.setCell ⟨b, 0, none⟩ v0).heap.size := (Array.getElem?_eq_some_iff.1 h1).1
  have h2 : ((w.setCell ⟨b, 0, none⟩ v0).setCell ⟨b, 1, none⟩ v1).heap[b]? = some (.cells #[v0, v1, x2] ty) := by rw [hu1.2.2, Array.getElem?_setIfInBounds_self_of_lt hb1]; simp
  have hu2 := upd_setCell (i := 2) h2 v2
  refine ⟨hu2.1.trans (hu1.1.trans hu.1), hu2.2.1.trans (hu1.2.1.trans hu.2.1), ?_⟩
  rw [hu2.2.2, hu1.2.2, hu.2.2]
  simp
/-- A whole queue of the document stored. -/
theorem opsS_st3 {fn : FuncId} {Q : Exit → Act → Tau X → Prop} {a : Act} {t : Tau X} {ops : Array Oper} {i : Nat} {rest : List Nat} {o : Oper} {b : Nat} {x0 x1 x2 : Value} {ra : Option Addr} {len rc : Nat} {room : Int} {cl : Bool} {p q : Operand}
    (hc : (⟨b, .cells #[x0, x1, x2] 30, true⟩ : Chunk) ∈ t.sg) (ho : ops[i]? = some o) (hw : Region.wanted o (yielded ops a.tmps) = true) (hns : ¬ strict t.x) (hop : o.op = .store 30 p q) (hp : a.eval p = .pointer (some ⟨b, 0, none⟩))
    (hq : a.eval q = .agg #[.slice ra len rc, .int .i64 room, .bool cl])
    (h : ∀ t', Keep [b] t t' → (⟨b, .cells #[.slice ra len rc, .int .i64 room, .bool cl] 30, true⟩ : Chunk) ∈ t'.sg → OpsS Mv fn ops rest Q (a.put o.dst undef) t') : OpsS Mv fn ops (i :: rest) Q a t := by
  refine opsS_turn M (.cells #[.slice ra len rc, .int .i64 room, .bool cl] 30) hc ho hw hns (fun w hs e he => ?_) (fun w hs hob K hK => ?_)
  · obtain ⟨c0, d0, c1, d1, c2, d2⟩ := cells3 (hs.obj hc) (.slice ra len rc) (.int .i64 room)
    unfold execOp at he
    simp only [hop, hp, hq] at he
    simp [go_sem, c0, c1, c2, d0, d1, d2, ev_slice, ev_int, ev_bool, storedEv] at he
    rcases he with rfl | rfl | rfl <;> exact ⟨_, _, _, rfl⟩
  · obtain ⟨c0, d0, c1, d1, c2, d2⟩ := cells3 hob (.slice ra len rc) (.int .i64 room)
    have hK' := hK (a.put o.dst undef) _ (upd3 hob (.slice ra len rc) (.int .i64 room) (.bool cl)) h
    clear hK
    unfold execOp
    simp only [hop, hp, hq]
    go_simp
    exact hK'

omit M in
theorem u28' : Try.prog.underlying 28 = some (.slice 3) := by rfl
omit M in
theorem OwnRow.cap {s : List Chunk} {ga : Option Addr} {n gd : Nat} {L : List Int} (h : OwnRow s (.slice ga n gd) L) : L.length ≤ gd := by
  rcases h with ⟨h1, rfl⟩ | ⟨g, C, h1, _, h2, _⟩
  · simp
  · injection h1 with _ _ e; omega
def lo1 (ra : Option Addr) (rc : Nat) : Option Addr := if rc - 1 = 0 then ra else ra.map (·.add 1)
omit M in
theorem run_lo (ra : Option Addr) (len rc : Nat) (h : 1 ≤ len) (h2 : len ≤ rc) (w : World) : (Instr.sliceAt 28 (.slice ra len rc) (some (.int .i64 1)) none none).run Try.prog w = .ok (.slice (lo1 ra rc) (len - 1) (rc - 1)) w ∧ ∀ es, (Instr.sliceAt 28 (.slice ra len rc) (some (.int .i64 1)) none none).events Try.prog w es = es := by
  obtain ⟨i, hi, hz, hsz, hby⟩ := i3
  have h0 : (1 : Int) ≤ (len : Int) := by omega
  have h1 : (len : Int) ≤ (rc : Int) := by omega
  constructor
  · simp [Instr.sliceAt, Instr.slice, Instr.sliceBounds, Instr.sliceBound, run_underlying u28', asIntOf, h0, h1, h, h2, sizeOf, typeInfo, hi, hsz, lo1]
    by_cases hh : rc = 1
    · simp [hh]
    · have : ¬ rc - 1 = 0 := by omega
      simp [hh, this]
  · intro es
    simp [Instr.sliceAt, Instr.slice, Instr.sliceBounds, Instr.sliceBound, run_underlying u28', asIntOf, h0, h1, h, h2, sizeOf, typeInfo, hi, hsz]
omit M in
theorem row_head {B : World} {s : List Chunk} {ra : Option Addr} {n rc : Nat} {x : Int} {L : List Int} (h : RowAt B s (.slice ra n rc) ((x :: L).map iv)) : ∃ b o, ra = some ⟨b, o, none⟩ ∧ RD B s b o (iv x) := by
  obtain ⟨a, cap, hv, hr⟩ := h
  injection hv with h1 h2 h3
  subst h1
  exact hr 0 (iv x) rfl

/-- A row in blocks of ints that one knows. -/
def Row3 (s : List Chunk) (v : Value) (L : List Value) : Prop :=
  ∃ a cap, v = .slice a L.length cap ∧ ∀ j u, L[j]? = some u → ∃ b o, a = some ⟨b, o, none⟩ ∧ ∃ C own, (⟨b, .cells C 3, own⟩ : Chunk) ∈ s ∧ C[o + j]? = some u
omit M in
theorem Row3.row {B : World} {s : List Chunk} {v : Value} {L : List Value} (h : Row3 s v L) : RowAt B s v L := by
  obtain ⟨a, cap, hv, hr⟩ := h
  exact ⟨a, cap, hv, fun j u hj => let ⟨b, o, e, C, own, hc, hu⟩ := hr j u hj; ⟨b, o, e, .inl ⟨C, 3, own, hc, hu⟩⟩⟩
omit M in
theorem Row3.keep {s s' : List Chunk} {v : Value} {L : List Value} (h : Row3 s v L) (hk : ∀ c ∈ s, (∃ C, c.o = .cells C 3) → c ∈ s') : Row3 s' v L := by
  obtain ⟨a, cap, hv, hr⟩ := h
  exact ⟨a, cap, hv, fun j u hj => let ⟨b, o, e, C, own, hc, hu⟩ := hr j u hj; ⟨b, o, e, C, own, hk _ hc ⟨C, rfl⟩, hu⟩⟩
omit M in
theorem Row3.mono {s s' : List Chunk} {v : Value} {L : List Value} (h : Row3 s v L) (hk : ∀ c ∈ s, c ∈ s') : Row3 s' v L := h.keep fun c hc _ => hk c hc
omit M in
theorem OwnRow.row3 {s : List Chunk} {v : Value} {L : List Int} (hv : OwnRow s v L) : Row3 s v (L.map iv) := by
  rcases hv with ⟨rfl, rfl⟩ | ⟨g, C, rfl, hc, hle, _, ht⟩
  · exact ⟨none, 0, rfl, fun j u h => by simp at h⟩
  · refine ⟨some ⟨g, 0, none⟩, C.size, by simp, fun j u h => ⟨g, 0, rfl, C, true, hc, ?_⟩⟩
    rw [← ht, List.getElem?_take] at h
    split at h
    · simpa using h
    · cases h

omit M in
theorem row_tail {s : List Chunk} {ra : Option Addr} {rc : Nat} {x : Int} {L : List Int} (h : Row3 s (.slice ra (x :: L).length rc) ((x :: L).map iv)) (hc : (x :: L).length ≤ rc) : Row3 s (.slice (lo1 ra rc) L.length (rc - 1)) (L.map iv) := by
  obtain ⟨a, cap, hv, hr⟩ := h
  injection hv with h1 h2 h3
  subst h1
  refine ⟨_, _, by rw [List.length_map], fun j u hj => ?_⟩
  obtain ⟨b, o, rfl, C, own, hc', hu⟩ := hr (j + 1) u (by simpa using hj)
  have hj' : j < L.length := by
    have := (List.getElem?_eq_some_iff.1 hj).1
    simpa using this
  have hne : ¬ rc - 1 = 0 := by simp at hc; omega
  refine ⟨b, o + 1, by simp [lo1, hne, Addr.add], ?_⟩
  rw [show o + 1 + j = o + (j + 1) by omega]
  exact ⟨C, own, hc', hu⟩
/-- The document's queue. -/
def DQ (s : List Chunk) (v : Value) (room : Nat) (cl : Bool) (L : List Int) : Prop :=
  ∃ ra rc, v = .agg #[.slice ra L.length rc, .int .i64 room, .bool cl] ∧ Row3 s (.slice ra L.length rc) (L.map iv) ∧ L.length ≤ rc

omit M in
theorem reads3 {w : World} {b : Nat} {x0 x1 x2 : Value} {ty : TypeId} (h : w.heap[b]? = some (.cells #[x0, x1, x2] ty)) :
    w.cell? ⟨b, 0, none⟩ = some x0 ∧ w.cell? ⟨b, 1, none⟩ = some x1 ∧ w.cell? ⟨b, 2, none⟩ = some x2 := by
  refine ⟨?_, ?_, ?_⟩ <;> simp [World.cell?, h]
theorem leave9 {Post : Value → Tau X → Prop} {a : Act} {t : Tau X} {b : Nat} {x0 : Value} {room : Int} {cl : Bool} {code : Int} (hns : ¬ strict t.x) (hd : a.defers = [])
    (h4 : a.tmps.getD 4 undef = .pointer (some ⟨b, 0, none⟩)) (h5 : a.tmps.getD 5 undef = .int .i64 code) (hc : (⟨b, .cells #[x0, .int .i64 room, .bool cl] 30, true⟩ : Chunk) ∈ t.sg)
    (hp : Post (.tuple #[.agg #[x0, .int .i64 room, .bool cl], .int .i64 code]) t) : LeaveS Mv 9 a t Post := by
  have hres : Try.f9.results = #[.cell 4 30, .tmp 5] := rfl
  refine leaveS_read M (bl := b) hd Try.func9 hns ⟨_, hc, rfl⟩ (fun w hs => ?_) hp
  obtain ⟨c0, c1, c2⟩ := reads3 (hs.obj hc)
  rw [Array.getD_eq_getD_getElem?] at h4 h5
  constructor
  · simp [results, hres, h4, h5, go_sem, c0, c1, c2]
  · intro e he
    simp [results, hres, h4, h5, go_sem, c0, c1, c2] at he
    rcases he with rfl | rfl | rfl <;> exact ⟨_, rfl⟩
theorem leave12 {Post : Value → Tau X → Prop} {a : Act} {t : Tau X} {b : Nat} {x0 : Value} {room : Int} {cl : Bool} {x code : Int} (hns : ¬ strict t.x) (hd : a.defers = [])
    (h2 : a.tmps.getD 2 undef = .pointer (some ⟨b, 0, none⟩)) (h3 : a.tmps.getD 3 undef = .int .i64 x) (h4 : a.tmps.getD 4 undef = .int .i64 code) (hc : (⟨b, .cells #[x0, .int .i64 room, .bool cl] 30, true⟩ : Chunk) ∈ t.sg)
    (hp : Post (.tuple #[.agg #[x0, .int .i64 room, .bool cl], .int .i64 x, .int .i64 code]) t) : LeaveS Mv 12 a t Post := by
  have hres : Try.f12.results = #[.cell 2 30, .tmp 3, .tmp 4] := rfl
  refine leaveS_read M (bl := b) hd Try.func12 hns ⟨_, hc, rfl⟩ (fun w hs => ?_) hp
  obtain ⟨c0, c1, c2⟩ := reads3 (hs.obj hc)
  rw [Array.getD_eq_getD_getElem?] at h2 h3 h4
  constructor
  · simp [results, hres, h2, h3, h4, go_sem, c0, c1, c2]
  · intro e he
    simp [results, hres, h2, h3, h4, go_sem, c0, c1, c2] at he
    rcases he with rfl | rfl | rfl <;> exact ⟨_, rfl⟩

set_option maxRecDepth 100000 in
set_option maxHeartbeats 2000000 in
theorem rput_any {t : Tau X} (hns : ¬ strict t.x) {qv : Value} {room : Nat} {cl : Bool} {L : List Int} (hL : L.length < 1000000) (hr : room ≤ 65536) (hD : DQ t.sg qv room cl L) (x : Int) :
    CallsS Mv Try.prog 9 #[qv, .int .i64 x] t fun v t' => ∃ v', v = .tuple #[v', .int .i64 (putV room L cl)] ∧ DQ t'.sg v' room cl (putL room L cl x) ∧ Keep [] t t' := by
  obtain ⟨ra, rc, rfl, hrow, hcap⟩ := hD
  replace hcap := Hid.mk hcap
  refine callsS_of M Try.func9 (by rfl) ?_
  simp only [Try.ntmps9, List.size_toArray, List.length_cons, List.length_nil, Nat.reduceAdd, Nat.reduceSub, Array.replicate_succ, Array.replicate_zero, List.push_toArray, List.append_toArray, List.nil_append, List.cons_append]
  refine wpS_seq M ?_
  refine wpS_region M ?_
  simp only [List.size_toArray, List.length_cons, List.length_nil, Nat.reduceAdd, Nat.zero_add, List.range, List.range.loop]
  refine opsS_new M (.cells #[.slice ra L.length rc, .int .i64 room, .bool cl] 30) rfl (by rfl) (fun w hs => by simp [go_sem]) (fun w hs K hK => ?_)
  go_simp
  refine hK _ fun t1 k1 hq f1 g1 => ?_
  clear hK K
  generalize w.heap.size = b2 at *
  clear hs w
  try walk_nrm
  refine opsS_new M (.cells #[.slice none 0 0, .int .i64 0, .bool false] 30) rfl (by rfl) (fun w hs => by simp [go_sem]) (fun w hs K hK => ?_)
  go_simp
  refine hK _ fun t2 k2 hr f2 g2 => ?_
  clear hK K
  generalize w.heap.size = b4 at *
  clear hs w
  try walk_nrm
  (refine opsS_look M rfl (by rfl) (fun w => by first | (simp [go_sem]; done) | fail) (fun w hs K hK => ?_); go_simp; refine hK _ ?_; clear hK K hs w; (try walk_nrm))
  refine opsS_nil M ?_
  try simp only [thenS, inBlockS]
  refine wpS_facts M fun w0 hs0 => ?_
  have hne : b2 ≠ b4 := f2 _ hq
  clear hs0 w0
  replace hq := k2.all hq
  replace hns : ¬ strict t2.x := by rw [k2.x, k1.x]; exact hns
  refine wpS_seq M ?_
  refine wpS_seq M ?_
  refine wpS_region M ?_
  simp only [List.size_toArray, List.length_cons, List.length_nil, Nat.reduceAdd, Nat.zero_add, List.range, List.range.loop]
  (refine opsS_look M rfl (by rfl) (fun w => by first | (simp [go_sem]; done) | fail) (fun w hs K hK => ?_); go_simp; refine hK _ ?_; clear hK K hs w; (try walk_nrm))
  refine opsS_ld M (j := 2) hq (by first | rfl | simp | assumption) rfl (by rfl) hns (fun w hcell e he => by simp [go_sem, hcell] at he; exact ⟨_, he⟩) (fun w hcell K hK => ?_)
  go_simp
  refine hK _ ?_
  clear hK K hcell w
  try walk_nrm
  refine opsS_nil M ?_
  try simp only [thenS, inBlockS]
  cases cl with
  | true =>
    refine wpS_cond M (v := true) (by rfl) ?_
    simp only [if_true, if_false, Bool.false_eq_true]
    refine wpS_seq M ?_
    refine wpS_region M ?_
    simp only [List.size_toArray, List.length_cons, List.length_nil, Nat.reduceAdd, Nat.zero_add, List.range, List.range.loop]
    refine opsS_ldS M hq rfl (by rfl) hns (fun w hob hcl e he => by have c0 := hcl 0 _ rfl; have c1 := hcl 1 _ rfl; have c2 := hcl 2 _ rfl; simp [go_sem, c0, c1, c2] at he; rcases he with rfl | rfl | rfl <;> exact ⟨_, rfl⟩) (fun w hob hcl K hK => ?_)
    have c0 := hcl 0 _ rfl
    have c1 := hcl 1 _ rfl
    have c2 := hcl 2 _ rfl
    go_simp
    refine hK _ ?_
    clear c0 c1 c2 hK K hcl hob w
    try walk_nrm
    refine opsS_st3 M hr rfl (by rfl) hns rfl rfl rfl fun t3 k3 hr3 => ?_
    try walk_nrm
    (refine opsS_look M rfl (by rfl) (fun w => by first | (simp [go_sem]; done) | fail) (fun w hs K hK => ?_); go_simp; refine hK _ ?_; clear hK K hs w; (try walk_nrm))
    refine opsS_nil M ?_
    try simp only [thenS, inBlockS]
    refine wpS_ret M ?_
    simp only [thenS, bodyPostS]
    exact leave9 M (by rw [k3.x]; exact hns) rfl rfl rfl hr3 ⟨.agg #[.slice ra L.length rc, .int .i64 room, .bool true], by simp [putV], (show DQ t3.sg _ room true L from ⟨ra, rc, rfl, hrow.mono fun c hc => k3.sg c (k2.all (k1.all hc)) (by simpa using f2 c (k1.all hc)), hcap.out⟩), ⟨fun c hc _ => k3.sg c (k2.all (k1.all hc)) (by simpa using f2 c (k1.all hc)), by rw [k3.d, k2.d, k1.d], by rw [k3.x, k2.x, k1.x]⟩⟩
  | false =>
    refine wpS_cond M (v := false) (by rfl) ?_
    simp only [if_true, if_false, Bool.false_eq_true]
    refine wpS_skip M ?_
    try simp only [thenS, inBlockS]
    refine wpS_seq M ?_
    refine wpS_seq M ?_
    refine wpS_region M ?_
    simp only [List.size_toArray, List.length_cons, List.length_nil, Nat.reduceAdd, Nat.zero_add, List.range, List.range.loop]
    (refine opsS_look M rfl (by rfl) (fun w => by first | (simp [go_sem]; done) | fail) (fun w hs K hK => ?_); go_simp; refine hK _ ?_; clear hK K hs w; (try walk_nrm))
    refine opsS_ld M (j := 0) hq (by first | rfl | simp | assumption) rfl (by rfl) hns (fun w hcell e he => by simp [go_sem, hcell] at he; exact ⟨_, he⟩) (fun w hcell K hK => ?_)
    go_simp
    refine hK _ ?_
    clear hK K hcell w
    try walk_nrm
    (refine opsS_look M rfl (by rfl) (fun w => by first | (simp [go_sem]; done) | fail) (fun w hs K hK => ?_); go_simp; refine hK _ ?_; clear hK K hs w; (try walk_nrm))
    (refine opsS_look M rfl (by rfl) (fun w => by first | (simp [go_sem]; done) | fail) (fun w hs K hK => ?_); go_simp; refine hK _ ?_; clear hK K hs w; (try walk_nrm))
    refine opsS_ld M (j := 1) hq (by first | rfl | simp | assumption) rfl (by rfl) hns (fun w hcell e he => by simp [go_sem, hcell] at he; exact ⟨_, he⟩) (fun w hcell K hK => ?_)
    go_simp
    refine hK _ ?_
    clear hK K hcell w
    try walk_nrm
    by_cases hlt : L.length < room
    · have hge : ¬ ((room : Int) ≤ (L.length : Int)) := by omega
      (refine opsS_look M rfl (by rfl) (fun w => by first | (simp [go_sem]; done) | fail) (fun w hs K hK => ?_); go_simp; refine hK _ ?_; clear hK K hs w; (try walk_nrm))
      refine opsS_nil M ?_
      try simp only [thenS, inBlockS]
      refine wpS_cond M (v := false) (by rfl) ?_
      simp only [if_true, if_false, Bool.false_eq_true]
      refine wpS_skip M ?_
      try simp only [thenS, inBlockS]
      refine wpS_seq M ?_
      refine wpS_region M ?_
      simp only [List.size_toArray, List.length_cons, List.length_nil, Nat.reduceAdd, Nat.zero_add, List.range, List.range.loop]
      refine opsS_new M (.cells #[] 3) rfl (by rfl) (fun w hs => by simp [go_sem]) (fun w hs K hK => ?_)
      go_simp
      refine hK _ fun t3 k3 hE f3 g3 => ?_
      clear hK K
      generalize w.heap.size = bE at *
      clear hs w
      try walk_nrm
      replace hns : ¬ strict t3.x := by rw [k3.x]; exact hns
      (refine opsS_look M rfl (by rfl) (fun w => by first | (simp [go_sem]; done) | fail) (fun w hs K hK => ?_); go_simp; refine hK _ ?_; clear hK K hs w; (try walk_nrm))
      have hq3 := k3.all hq
      refine opsS_ld M (j := 0) hq3 (by first | rfl | simp | assumption) rfl (by rfl) hns (fun w hcell e he => by simp [go_sem, hcell] at he; exact ⟨_, he⟩) (fun w hcell K hK => ?_)
      go_simp
      refine hK _ ?_
      clear hK K hcell w
      try walk_nrm
      have hnil : OwnRow t3.sg (.slice (some ⟨bE, 0, none⟩) 0 0) [] := .inr ⟨bE, #[], rfl, hE, by simp, by simp, by simp⟩
      have hrow3 : RowAt B t3.sg (.slice ra L.length rc) (L.map iv) := (hrow.mono fun c hc => k3.all (k2.all (k1.all hc))).row
      refine opsS_append M (L := []) (news := L) hnil hrow3 (by simp; omega) rfl (by rfl) hns rfl rfl rfl fun v4 t4 k4 hrow4 => ?_
      simp only [List.nil_append] at hrow4
      obtain ⟨ga, gc, rfl⟩ := hrow4.slice
      have hE' : ∀ g, (Value.slice (some ⟨bE, 0, none⟩) 0 0).ownBlock = some g → g = bE := fun g hg => by cases hg; rfl
      have keep4 : ∀ c ∈ t2.sg, c ∈ t4.sg := fun c hc => k4.sg c (k3.all hc) fun g hg e => f3 c hc (by rw [e, hE' g hg])
      have fresh4 : ∀ c ∈ t2.sg, ∀ g, (Value.slice ga L.length gc).ownBlock = some g → c.b ≠ g := fun c hc g hg => (k4.new g hg).elim (fun h e => f3 c hc (by rw [e, hE' g h])) fun h => h.1 c (k3.all hc)
      try walk_nrm
      (refine opsS_look M rfl (by rfl) (fun w => by first | (simp [go_sem]; done) | fail) (fun w hs K hK => ?_); go_simp; refine hK _ ?_; clear hK K hs w; (try walk_nrm))
      refine opsS_new M (.cells #[.int .i64 x] 3) rfl (by rfl) (fun w hs => by simp [go_sem]) (fun w hs K hK => ?_)
      go_simp
      refine hK _ fun t5 k5 hN f5 g5 => ?_
      clear hK K
      generalize w.heap.size = N at *
      clear hs w
      try walk_nrm
      replace hns : ¬ strict t5.x := by rw [k5.x, k4.x]; exact hns
      have hrow5 : OwnRow t5.sg (.slice ga L.length gc) L := hrow4.keep fun c hc _ => k5.all hc
      refine opsS_append M (L := L) (news := [x]) hrow5 (row1 hN) (by simp; omega) rfl (by rfl) hns rfl rfl rfl fun v6 t6 k6 hrow6 => ?_
      obtain ⟨gb, gd, rfl⟩ := hrow6.slice
      generalize hn1 : (L ++ [x]).length = n1 at *
      replace hn1 := Hid.mk hn1
      have keep6 : ∀ c ∈ t2.sg, c ∈ t6.sg := fun c hc => k6.sg c (k5.all (keep4 c hc)) fun g hg => fresh4 c hc g hg
      have hx6 : t6.x = t2.x := by rw [k6.x, k5.x, k4.x, k3.x]
      have hd6 : t6.d = t2.d := by rw [k6.d, k5.d, k4.d, k3.d]
      replace hns : ¬ strict t6.x := by rw [k6.x]; exact hns
      clear fresh4 keep4 hE' hrow5 hrow4 hrow3 hnil hE hN k6 k5 k4 k3 f3 f5 g3 g5 hq3
      have hq6 := keep6 _ hq
      have hr6 := keep6 _ hr
      refine opsS_facts M fun w0 hs0 => ?_
      have hnt : ∀ g, (Value.slice gb n1 gd).ownBlock = some g → g ≠ b2 ∧ g ≠ b4 := fun g hg => by
        obtain ⟨C, hC⟩ := hrow6.mine hg
        constructor
        · intro e; have := hs0.uniq hC hq6 e; injection this with _ h _; injection h with _ h; cases h
        · intro e; have := hs0.uniq hC hr6 e; injection this with _ h _; injection h with _ h; cases h
      clear hs0 w0
      try walk_nrm
      (refine opsS_look M rfl (by rfl) (fun w => by first | (simp [go_sem]; done) | fail) (fun w hs K hK => ?_); go_simp; refine hK _ ?_; clear hK K hs w; (try walk_nrm))
      refine opsS_st M (j := 0) (.slice gb n1 gd) hq6 rfl rfl (by rfl) hns (fun w hcell hfr e he => by simp [go_sem, hcell, hfr, ev_slice, storedEv] at he; exact ⟨_, _, _, he⟩) (fun w hcell hfr K hK => ?_)
      go_simp
      refine hK _ fun t7 k7 hq7 => ?_
      clear hK K hcell hfr w
      simp only [List.setIfInBounds_toArray, List.set_cons_zero] at hq7
      try walk_nrm
      refine opsS_nil M ?_
      try simp only [thenS, inBlockS]
      have hr7 := k7.sg _ hr6 (by simpa using hne.symm)
      replace hns : ¬ strict t7.x := by rw [k7.x]; exact hns
      refine wpS_seq M ?_
      refine wpS_region M ?_
      simp only [List.size_toArray, List.length_cons, List.length_nil, Nat.reduceAdd, Nat.zero_add, List.range, List.range.loop]
      refine opsS_ldS M hq7 rfl (by rfl) hns (fun w hob hcl e he => by have c0 := hcl 0 _ rfl; have c1 := hcl 1 _ rfl; have c2 := hcl 2 _ rfl; simp [go_sem, c0, c1, c2] at he; rcases he with rfl | rfl | rfl <;> exact ⟨_, rfl⟩) (fun w hob hcl K hK => ?_)
      have c0 := hcl 0 _ rfl
      have c1 := hcl 1 _ rfl
      have c2 := hcl 2 _ rfl
      go_simp
      refine hK _ ?_
      clear c0 c1 c2 hK K hcl hob w
      try walk_nrm
      refine opsS_st3 M hr7 rfl (by rfl) hns rfl rfl rfl fun t8 k8 hr8 => ?_
      try walk_nrm
      (refine opsS_look M rfl (by rfl) (fun w => by first | (simp [go_sem]; done) | fail) (fun w hs K hK => ?_); go_simp; refine hK _ ?_; clear hK K hs w; (try walk_nrm))
      refine opsS_nil M ?_
      try simp only [thenS, inBlockS]
      refine wpS_ret M ?_
      simp only [thenS, bodyPostS]
      obtain ⟨rfl⟩ := hn1
      have hp : putL room L false x = L ++ [x] := by simp [putL, hlt]
      rw [hp]
      have all8 : ∀ c ∈ t.sg, c ∈ t8.sg := fun c hc => k8.sg c (k7.sg c (keep6 c (k2.all (k1.all hc))) (by simpa using f1 c hc)) (by simpa using f2 c (k1.all hc))
      have hrow8 : OwnRow t8.sg (.slice gb (L ++ [x]).length gd) (L ++ [x]) := hrow6.keep fun c hc hg => k8.sg c (k7.sg c hc (by simpa using (hnt _ hg).1)) (by simpa using (hnt _ hg).2)
      exact leave9 M (by rw [k8.x]; exact hns) rfl rfl rfl hr8 ⟨.agg #[.slice gb (L ++ [x]).length gd, .int .i64 room, .bool false], by simp [putV, hlt], ⟨gb, gd, rfl, hrow8.row3, hrow8.cap⟩, ⟨fun c hc _ => all8 c hc, by rw [k8.d, k7.d, hd6, k2.d, k1.d], by rw [k8.x, k7.x, hx6, k2.x, k1.x]⟩⟩
    · have hge : (room : Int) ≤ (L.length : Int) := by omega
      (refine opsS_look M rfl (by rfl) (fun w => by first | (simp [go_sem]; done) | fail) (fun w hs K hK => ?_); go_simp; refine hK _ ?_; clear hK K hs w; (try walk_nrm))
      refine opsS_nil M ?_
      try simp only [thenS, inBlockS]
      refine wpS_cond M (v := true) (by rfl) ?_
      simp only [if_true, if_false, Bool.false_eq_true]
      refine wpS_seq M ?_
      refine wpS_region M ?_
      simp only [List.size_toArray, List.length_cons, List.length_nil, Nat.reduceAdd, Nat.zero_add, List.range, List.range.loop]
      refine opsS_ldS M hq rfl (by rfl) hns (fun w hob hcl e he => by have c0 := hcl 0 _ rfl; have c1 := hcl 1 _ rfl; have c2 := hcl 2 _ rfl; simp [go_sem, c0, c1, c2] at he; rcases he with rfl | rfl | rfl <;> exact ⟨_, rfl⟩) (fun w hob hcl K hK => ?_)
      have c0 := hcl 0 _ rfl
      have c1 := hcl 1 _ rfl
      have c2 := hcl 2 _ rfl
      go_simp
      refine hK _ ?_
      clear c0 c1 c2 hK K hcl hob w
      try walk_nrm
      refine opsS_st3 M hr rfl (by rfl) hns rfl rfl rfl fun t3 k3 hr3 => ?_
      try walk_nrm
      (refine opsS_look M rfl (by rfl) (fun w => by first | (simp [go_sem]; done) | fail) (fun w hs K hK => ?_); go_simp; refine hK _ ?_; clear hK K hs w; (try walk_nrm))
      refine opsS_nil M ?_
      try simp only [thenS, inBlockS]
      refine wpS_ret M ?_
      simp only [thenS, bodyPostS]
      have hp : putL room L false x = L := by simp [putL, hlt]
      rw [hp]
      exact leave9 M (by rw [k3.x]; exact hns) rfl rfl rfl hr3 ⟨.agg #[.slice ra L.length rc, .int .i64 room, .bool false], by simp [putV, hlt], ⟨ra, rc, rfl, hrow.mono fun c hc => k3.sg c (k2.all (k1.all hc)) (by simpa using f2 c (k1.all hc)), hcap.out⟩, ⟨fun c hc _ => k3.sg c (k2.all (k1.all hc)) (by simpa using f2 c (k1.all hc)), by rw [k3.d, k2.d, k1.d], by rw [k3.x, k2.x, k1.x]⟩⟩

set_option maxRecDepth 100000 in
set_option maxHeartbeats 2000000 in
theorem rtake_any {t : Tau X} (hns : ¬ strict t.x) {qv : Value} {room : Nat} {cl : Bool} {L : List Int} (hL : L.length < 1000000) (hD : DQ t.sg qv room cl L) :
    CallsS Mv Try.prog 12 #[qv] t fun v t' => ∃ v' x c, v = .tuple #[v', .int .i64 x, .int .i64 c] ∧ takeV L = .tuple #[.int .i64 x, .int .i64 c] ∧ DQ t'.sg v' room cl L.tail ∧ Keep [] t t' := by
  obtain ⟨ra, rc, rfl, hrow, hcap⟩ := hD
  replace hcap := Hid.mk hcap
  refine callsS_of M Try.func12 (by rfl) ?_
  simp only [Try.ntmps12, List.size_toArray, List.length_cons, List.length_nil, Nat.reduceAdd, Nat.reduceSub, Array.replicate_succ, Array.replicate_zero, List.push_toArray, List.append_toArray, List.nil_append, List.cons_append]
  refine wpS_seq M ?_
  refine wpS_region M ?_
  simp only [List.size_toArray, List.length_cons, List.length_nil, Nat.reduceAdd, Nat.zero_add, List.range, List.range.loop]
  refine opsS_new M (.cells #[.slice ra L.length rc, .int .i64 room, .bool cl] 30) rfl (by rfl) (fun w hs => by simp [go_sem]) (fun w hs K hK => ?_)
  go_simp
  refine hK _ fun t1 k1 hq f1 g1 => ?_
  clear hK K
  generalize w.heap.size = b2 at *
  clear hs w
  try walk_nrm
  refine opsS_new M (.cells #[.slice none 0 0, .int .i64 0, .bool false] 30) rfl (by rfl) (fun w hs => by simp [go_sem]) (fun w hs K hK => ?_)
  go_simp
  refine hK _ fun t2 k2 hr f2 g2 => ?_
  clear hK K
  generalize w.heap.size = b4 at *
  clear hs w
  try walk_nrm
  (refine opsS_look M rfl (by rfl) (fun w => by first | (simp [go_sem]; done) | fail) (fun w hs K hK => ?_); go_simp; refine hK _ ?_; clear hK K hs w; (try walk_nrm))
  (refine opsS_look M rfl (by rfl) (fun w => by first | (simp [go_sem]; done) | fail) (fun w hs K hK => ?_); go_simp; refine hK _ ?_; clear hK K hs w; (try walk_nrm))
  refine opsS_nil M ?_
  try simp only [thenS, inBlockS]
  refine wpS_facts M fun w0 hs0 => ?_
  have hne : b2 ≠ b4 := f2 _ hq
  clear hs0 w0
  replace hq := k2.all hq
  replace hns : ¬ strict t2.x := by rw [k2.x, k1.x]; exact hns
  have hrow2 : RowAt B t2.sg (.slice ra L.length rc) (L.map iv) := (hrow.mono fun c hc => k2.all (k1.all hc)).row
  refine wpS_seq M ?_
  refine wpS_seq M ?_
  refine wpS_region M ?_
  simp only [List.size_toArray, List.length_cons, List.length_nil, Nat.reduceAdd, Nat.zero_add, List.range, List.range.loop]
  (refine opsS_look M rfl (by rfl) (fun w => by first | (simp [go_sem]; done) | fail) (fun w hs K hK => ?_); go_simp; refine hK _ ?_; clear hK K hs w; (try walk_nrm))
  refine opsS_ld M (j := 0) hq (by first | rfl | simp | assumption) rfl (by rfl) hns (fun w hcell e he => by simp [go_sem, hcell] at he; exact ⟨_, he⟩) (fun w hcell K hK => ?_)
  go_simp
  refine hK _ ?_
  clear hK K hcell w
  try walk_nrm
  cases L with
  | nil =>
    simp only [List.length_nil] at *
    (refine opsS_look M rfl (by rfl) (fun w => by first | (simp [go_sem]; done) | fail) (fun w hs K hK => ?_); go_simp; refine hK _ ?_; clear hK K hs w; (try walk_nrm))
    (refine opsS_look M rfl (by rfl) (fun w => by first | (simp [go_sem]; done) | fail) (fun w hs K hK => ?_); go_simp; refine hK _ ?_; clear hK K hs w; (try walk_nrm))
    refine opsS_nil M ?_
    try simp only [thenS, inBlockS]
    refine wpS_cond M (v := true) (by rfl) ?_
    simp only [if_true, if_false, Bool.false_eq_true]
    refine wpS_seq M ?_
    refine wpS_region M ?_
    simp only [List.size_toArray, List.length_cons, List.length_nil, Nat.reduceAdd, Nat.zero_add, List.range, List.range.loop]
    refine opsS_ldS M hq rfl (by rfl) hns (fun w hob hcl e he => by have c0 := hcl 0 _ rfl; have c1 := hcl 1 _ rfl; have c2 := hcl 2 _ rfl; simp [go_sem, c0, c1, c2] at he; rcases he with rfl | rfl | rfl <;> exact ⟨_, rfl⟩) (fun w hob hcl K hK => ?_)
    have c0 := hcl 0 _ rfl
    have c1 := hcl 1 _ rfl
    have c2 := hcl 2 _ rfl
    go_simp
    refine hK _ ?_
    clear c0 c1 c2 hK K hcl hob w
    try walk_nrm
    refine opsS_st3 M hr rfl (by rfl) hns rfl rfl rfl fun t3 k3 hr3 => ?_
    try walk_nrm
    (refine opsS_look M rfl (by rfl) (fun w => by first | (simp [go_sem]; done) | fail) (fun w hs K hK => ?_); go_simp; refine hK _ ?_; clear hK K hs w; (try walk_nrm))
    (refine opsS_look M rfl (by rfl) (fun w => by first | (simp [go_sem]; done) | fail) (fun w hs K hK => ?_); go_simp; refine hK _ ?_; clear hK K hs w; (try walk_nrm))
    refine opsS_nil M ?_
    try simp only [thenS, inBlockS]
    refine wpS_ret M ?_
    simp only [thenS, bodyPostS]
    have all3 : ∀ c ∈ t.sg, c ∈ t3.sg := fun c hc => k3.sg c (k2.all (k1.all hc)) (by simpa using f2 c (k1.all hc))
    exact leave12 M (by rw [k3.x]; exact hns) rfl rfl rfl rfl hr3 ⟨_, _, _, rfl, rfl, ⟨ra, rc, rfl, hrow.mono all3, by simp⟩, ⟨fun c hc _ => all3 c hc, by rw [k3.d, k2.d, k1.d], by rw [k3.x, k2.x, k1.x]⟩⟩
  | cons x L =>
    have hcap' := hcap.out
    have htl := row_tail hrow hcap'
    obtain ⟨b, o, rfl, hrd⟩ := row_head hrow2
    have hlo := run_lo (some ⟨b, o, none⟩) (x :: L).length rc (by simp) hcap'
    have hz : ((((x :: L).length : Nat) : Int) == 0) = false := by simp; omega
    have hcap2 : L.length ≤ rc - 1 := by simp at hcap'; omega
    replace hcap2 := Hid.mk hcap2
    have hpos : 0 < (x :: L).length := by simp
    have hn1 : (x :: L).length - 1 = L.length := by simp
    rw [hn1] at hlo
    clear hrow2 hrow hcap hcap' hn1 hL
    generalize (x :: L).length = n1 at *
    replace htl := Hid.mk htl
    (refine opsS_look M rfl (by rfl) (fun w => by first | (simp [go_sem]; done) | fail) (fun w hs K hK => ?_); go_simp; refine hK _ ?_; clear hK K hs w; (try walk_nrm))
    (refine opsS_look M rfl (by rfl) (fun w => by first | (simp [go_sem]; done) | fail) (fun w hs K hK => ?_); go_simp; refine hK _ ?_; clear hK K hs w; (try walk_nrm))
    refine opsS_nil M ?_
    try simp only [thenS, inBlockS]
    refine wpS_cond M (v := false) (by rfl) ?_
    simp only [if_true, if_false, Bool.false_eq_true]
    refine wpS_skip M ?_
    try simp only [thenS, inBlockS]
    refine wpS_seq M ?_
    refine wpS_region M ?_
    simp only [List.size_toArray, List.length_cons, List.length_nil, Nat.reduceAdd, Nat.zero_add, List.range, List.range.loop]
    (refine opsS_look M rfl (by rfl) (fun w => by first | (simp [go_sem]; done) | fail) (fun w hs K hK => ?_); go_simp; refine hK _ ?_; clear hK K hs w; (try walk_nrm))
    refine opsS_ld M (j := 0) hq (by first | rfl | simp | assumption) rfl (by rfl) hns (fun w hcell e he => by simp [go_sem, hcell] at he; exact ⟨_, he⟩) (fun w hcell K hK => ?_)
    go_simp
    refine hK _ ?_
    clear hK K hcell w
    try walk_nrm
    (refine opsS_look M rfl (by rfl) (fun w => by first | (simp [go_sem, hpos]; done) | fail) (fun w hs K hK => ?_); go_simp; refine hK _ ?_; clear hK K hs w; (try walk_nrm))
    refine opsS_ldR M hrd rfl (by rfl) hns (fun w hcell e he => by simp [go_sem, hcell] at he; exact ⟨_, he⟩) (fun w hcell K hK => ?_)
    go_simp
    refine hK _ ?_
    clear hK K hcell w
    try walk_nrm
    simp only [iv]
    try walk_nrm
    (refine opsS_look M rfl (by rfl) (fun w => by first | (simp [go_sem]; done) | fail) (fun w hs K hK => ?_); go_simp; refine hK _ ?_; clear hK K hs w; (try walk_nrm))
    refine opsS_nil M ?_
    try simp only [thenS, inBlockS]
    refine wpS_seq M ?_
    refine wpS_region M ?_
    simp only [List.size_toArray, List.length_cons, List.length_nil, Nat.reduceAdd, Nat.zero_add, List.range, List.range.loop]
    (refine opsS_look M rfl (by rfl) (fun w => by first | (simp [go_sem]; done) | fail) (fun w hs K hK => ?_); go_simp; refine hK _ ?_; clear hK K hs w; (try walk_nrm))
    refine opsS_ld M (j := 0) hq (by first | rfl | simp | assumption) rfl (by rfl) hns (fun w hcell e he => by simp [go_sem, hcell] at he; exact ⟨_, he⟩) (fun w hcell K hK => ?_)
    go_simp
    refine hK _ ?_
    clear hK K hcell w
    try walk_nrm
    refine opsS_pure M (v := .slice (lo1 (some ⟨b, o, none⟩) rc) L.length (rc - 1)) rfl (by rfl) (fun w => by have := (hlo w).1; unfold execOp; simp [Act.eval, this]) (fun w => by have := (hlo w).2; unfold execOp; simp [Act.eval, this]) ?_
    try walk_nrm
    clear hlo
    generalize lo1 (some ⟨b, o, none⟩) rc = ra' at *
    (refine opsS_look M rfl (by rfl) (fun w => by first | (simp [go_sem]; done) | fail) (fun w hs K hK => ?_); go_simp; refine hK _ ?_; clear hK K hs w; (try walk_nrm))
    refine opsS_st M (j := 0) (.slice ra' L.length (rc - 1)) hq rfl rfl (by rfl) hns (fun w hcell hfr e he => by simp [go_sem, hcell, hfr, ev_slice, storedEv] at he; exact ⟨_, _, _, he⟩) (fun w hcell hfr K hK => ?_)
    go_simp
    refine hK _ fun t7 k7 hq7 => ?_
    clear hK K hcell hfr w
    simp only [List.setIfInBounds_toArray, List.set_cons_zero] at hq7
    try walk_nrm
    refine opsS_nil M ?_
    try simp only [thenS, inBlockS]
    have hr7 := k7.sg _ hr (by simpa using hne.symm)
    have hns7 : ¬ strict t7.x := by rw [k7.x]; exact hns
    replace hns := hns7
    refine wpS_seq M ?_
    refine wpS_region M ?_
    simp only [List.size_toArray, List.length_cons, List.length_nil, Nat.reduceAdd, Nat.zero_add, List.range, List.range.loop]
    refine opsS_ldS M hq7 rfl (by rfl) hns (fun w hob hcl e he => by have c0 := hcl 0 _ rfl; have c1 := hcl 1 _ rfl; have c2 := hcl 2 _ rfl; simp [go_sem, c0, c1, c2] at he; rcases he with rfl | rfl | rfl <;> exact ⟨_, rfl⟩) (fun w hob hcl K hK => ?_)
    have c0 := hcl 0 _ rfl
    have c1 := hcl 1 _ rfl
    have c2 := hcl 2 _ rfl
    go_simp
    refine hK _ ?_
    clear c0 c1 c2 hK K hcl hob w
    try walk_nrm
    (refine opsS_look M rfl (by rfl) (fun w => by first | (simp [go_sem]; done) | fail) (fun w hs K hK => ?_); go_simp; refine hK _ ?_; clear hK K hs w; (try walk_nrm))
    refine opsS_st3 M hr7 rfl (by rfl) hns rfl rfl rfl fun t8 k8 hr8 => ?_
    try walk_nrm
    (refine opsS_look M rfl (by rfl) (fun w => by first | (simp [go_sem]; done) | fail) (fun w hs K hK => ?_); go_simp; refine hK _ ?_; clear hK K hs w; (try walk_nrm))
    (refine opsS_look M rfl (by rfl) (fun w => by first | (simp [go_sem]; done) | fail) (fun w hs K hK => ?_); go_simp; refine hK _ ?_; clear hK K hs w; (try walk_nrm))
    refine opsS_nil M ?_
    try simp only [thenS, inBlockS]
    refine wpS_ret M ?_
    simp only [thenS, bodyPostS]
    have all8 : ∀ c ∈ t.sg, c ∈ t8.sg := fun c hc => k8.sg c (k7.sg c (k2.all (k1.all hc)) (by simpa using f1 c hc)) (by simpa using f2 c (k1.all hc))
    exact leave12 M (by rw [k8.x]; exact hns) rfl rfl rfl rfl hr8 ⟨_, _, _, rfl, rfl, ⟨ra', rc - 1, rfl, htl.out.mono all8, hcap2.out⟩, ⟨fun c hc _ => all8 c hc, by rw [k8.d, k7.d, k2.d, k1.d], by rw [k8.x, k7.x, k2.x, k1.x]⟩⟩
end

end Go.Proofs.Ytdmhgajamepgoaa.Q
