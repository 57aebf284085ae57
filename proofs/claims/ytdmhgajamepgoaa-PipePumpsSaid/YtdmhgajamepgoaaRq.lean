/-
  OWN TEXT. PIPE: Pump's region that draws its order: two channels, two boxes. (Printed by wip/tools/mkrq.py.)
-/
import Derived.Test.YtdmhgajamepgoaaRo
set_option linter.unusedVariables false
set_option linter.unusedSimpArgs false
set_option linter.unusedSectionVars false
namespace Go.Proofs.Ytdmhgajamepgoaa.Q
open Go Go.Conc

def seqR : Code → Code | .seq _ b => b | c => c
def seqL : Code → Code | .seq a _ => a | c => c
noncomputable def code15 : Code := Try.f15.body.getD .skip

section
variable {X : Type} {main : Bool} {B : World} {Mv : MvT X} {strict : X → Prop} (M : Moves Try.prog main B strict Mv)
include M

/-- What stands behind the region. -/
structure R3 (room : Nat) (t t' : Tau X) (O S b10 b11 : Nat) : Prop where
  k : Keep [] t t'
  o : (⟨O, .chan room #[] false 0 0 false, true⟩ : Chunk) ∈ t'.sg
  s : (⟨S, .chan 0 #[] false 0 0 false, true⟩ : Chunk) ∈ t'.sg
  h10 : (⟨b10, .cells #[.chan (some O)] 57, true⟩ : Chunk) ∈ t'.sg
  h11 : (⟨b11, .cells #[.chan (some S)] 61, true⟩ : Chunk) ∈ t'.sg
  fo : ∀ c ∈ t.sg, c.b ≠ O
  fs : ∀ c ∈ t.sg, c.b ≠ S
  f10 : ∀ c ∈ t.sg, c.b ≠ b10
  f11 : ∀ c ∈ t.sg, c.b ≠ b11

/-- .. and on the way. -/
structure R3s (room : Nat) (t t' : Tau X) (O S x y : Option Nat) (vx vy : Option Nat) : Prop where
  k : Keep [] t t'
  o : ∀ n, O = some n → (⟨n, .chan room #[] false 0 0 false, true⟩ : Chunk) ∈ t'.sg ∧ ∀ c ∈ t.sg, c.b ≠ n
  s : ∀ n, S = some n → (⟨n, .chan 0 #[] false 0 0 false, true⟩ : Chunk) ∈ t'.sg ∧ ∀ c ∈ t.sg, c.b ≠ n
  x : ∀ n, x = some n → (⟨n, .cells #[.chan vx] 57, true⟩ : Chunk) ∈ t'.sg ∧ ∀ c ∈ t.sg, c.b ≠ n
  y : ∀ n, y = some n → (⟨n, .cells #[.chan vy] 61, true⟩ : Chunk) ∈ t'.sg ∧ ∀ c ∈ t.sg, c.b ≠ n

section
variable {fn : FuncId} {Q : Exit → Act → Tau X → Prop} {a : Act} {t0 t : Tau X} {ops : Array Oper} {i : Nat} {rest : List Nat} {o : Oper} {room : Nat} {O S x y vx vy : Option Nat}

theorem r3_O {z : Operand} (h : R3s room t0 t none S x y vx vy) (hroom : room ≤ 65536) (ho : ops[i]? = some o) (hw : Region.wanted o (yielded ops a.tmps) = true) (hop : o.op = .makeChan 57 z) (hz : a.eval z = .int .i64 room)
    (hn : ∀ t' n, R3s room t0 t' (some n) S x y vx vy → OpsS Mv fn ops rest Q (a.put o.dst (.chan (some n))) t') : OpsS Mv fn ops (i :: rest) Q a t := by
  refine opsS_new M (.chan room #[] false 0 0 false) ho hw (fun w hs => ?_) (fun w hs K hK => ?_)
  · unfold execOp; simp [hop, hz, mk57e room hroom, mk57 room hroom]
  · unfold execOp
    simp [hop, hz, mk57 room hroom]
    exact hK _ fun t1 k hc f g => hn _ _ ⟨h.k.trans k, fun n e => by cases e; exact ⟨hc, fun c hc => f c (h.k.all hc)⟩, fun n e => ⟨k.all (h.s n e).1, (h.s n e).2⟩, fun n e => ⟨k.all (h.x n e).1, (h.x n e).2⟩, fun n e => ⟨k.all (h.y n e).1, (h.y n e).2⟩⟩
theorem r3_S {z : Operand} (h : R3s room t0 t O none x y vx vy) (ho : ops[i]? = some o) (hw : Region.wanted o (yielded ops a.tmps) = true) (hop : o.op = .makeChan 61 z) (hz : a.eval z = .int .i64 0)
    (hn : ∀ t' n, R3s room t0 t' O (some n) x y vx vy → OpsS Mv fn ops rest Q (a.put o.dst (.chan (some n))) t') : OpsS Mv fn ops (i :: rest) Q a t := by
  refine opsS_new M (.chan 0 #[] false 0 0 false) ho hw (fun w hs => ?_) (fun w hs K hK => ?_)
  · unfold execOp; simp [hop, hz, mk61e, mk61]
  · unfold execOp
    simp [hop, hz, mk61]
    exact hK _ fun t1 k hc f g => hn _ _ ⟨h.k.trans k, fun n e => ⟨k.all (h.o n e).1, (h.o n e).2⟩, fun n e => by cases e; exact ⟨hc, fun c hc => f c (h.k.all hc)⟩, fun n e => ⟨k.all (h.x n e).1, (h.x n e).2⟩, fun n e => ⟨k.all (h.y n e).1, (h.y n e).2⟩⟩
theorem r3_x (h : R3s room t0 t O S none y none vy) (ho : ops[i]? = some o) (hw : Region.wanted o (yielded ops a.tmps) = true) (hop : o.op = .alloc 57)
    (hn : ∀ t' n, R3s room t0 t' O S (some n) y none vy → OpsS Mv fn ops rest Q (a.put o.dst (.pointer (some ⟨n, 0, none⟩))) t') : OpsS Mv fn ops (i :: rest) Q a t := by
  refine opsS_new M (.cells #[.chan none] 57) ho hw (fun w hs => ?_) (fun w hs K hK => ?_)
  · unfold execOp; simp [hop, go_sem]
  · unfold execOp
    simp only [hop]
    go_simp
    exact hK _ fun t1 k hc f g => hn _ _ ⟨h.k.trans k, fun n e => ⟨k.all (h.o n e).1, (h.o n e).2⟩, fun n e => ⟨k.all (h.s n e).1, (h.s n e).2⟩, fun n e => by cases e; exact ⟨hc, fun c hc => f c (h.k.all hc)⟩, fun n e => ⟨k.all (h.y n e).1, (h.y n e).2⟩⟩
theorem r3_y (h : R3s room t0 t O S x none vx none) (ho : ops[i]? = some o) (hw : Region.wanted o (yielded ops a.tmps) = true) (hop : o.op = .alloc 61)
    (hn : ∀ t' n, R3s room t0 t' O S x (some n) vx none → OpsS Mv fn ops rest Q (a.put o.dst (.pointer (some ⟨n, 0, none⟩))) t') : OpsS Mv fn ops (i :: rest) Q a t := by
  refine opsS_new M (.cells #[.chan none] 61) ho hw (fun w hs => ?_) (fun w hs K hK => ?_)
  · unfold execOp; simp [hop, go_sem]
  · unfold execOp
    simp only [hop]
    go_simp
    exact hK _ fun t1 k hc f g => hn _ _ ⟨h.k.trans k, fun n e => ⟨k.all (h.o n e).1, (h.o n e).2⟩, fun n e => ⟨k.all (h.s n e).1, (h.s n e).2⟩, fun n e => ⟨k.all (h.x n e).1, (h.x n e).2⟩, fun n e => by cases e; exact ⟨hc, fun c hc => f c (h.k.all hc)⟩⟩
omit M in
theorem ne_cells {w : World} {s : List Chunk} (h : Sat B s w) {b b' : Nat} {u u' : Value} {ty ty' : TypeId} {own own' : Bool} (h1 : (⟨b, .cells #[u] ty, own⟩ : Chunk) ∈ s) (h2 : (⟨b', .cells #[u'] ty', own'⟩ : Chunk) ∈ s) (ht : ty ≠ ty') : b ≠ b' := fun e => by
  have := h.uniq h1 h2 e
  injection this with _ h3 _
  injection h3 with _ h4 _
  exact ht h4
theorem r3_sx {p q : Operand} {b : Nat} (h : R3s room t0 t O S (some b) y none vy) (hns : ¬ strict t.x) (ho : ops[i]? = some o) (hw : Region.wanted o (yielded ops a.tmps) = true) (hop : o.op = .store 57 p q) (hp : a.eval p = .pointer (some ⟨b, 0, none⟩)) (hq : a.eval q = .chan O)
    (hn : ∀ t', R3s room t0 t' O S (some b) y O vy → OpsS Mv fn ops rest Q (a.put o.dst undef) t') : OpsS Mv fn ops (i :: rest) Q a t := by
  refine opsS_facts M fun w0 hs0 => ?_
  obtain ⟨hb, fb⟩ := h.x b rfl
  refine opsS_st M (j := 0) (.chan O) hb rfl ho hw hns (fun w hcell hfr e he => ?_) (fun w hcell hfr K hK => ?_)
  · unfold execOp at he
    simp only [hop, hp, hq] at he
    simp [go_sem, hcell, hfr, ev_chan, storedEv] at he
    exact ⟨_, _, _, he⟩
  · unfold execOp
    simp only [hop, hp, hq]
    go_simp
    refine hK _ fun t1 k hc => hn _ ⟨⟨fun c hc _ => k.sg c (h.k.all hc) (by simpa using fb c hc), k.d.trans h.k.d, k.x.trans h.k.x⟩, fun n e => ⟨k.sg _ (h.o n e).1 ?_, (h.o n e).2⟩, fun n e => ⟨k.sg _ (h.s n e).1 ?_, (h.s n e).2⟩, fun n e => ?_, fun n e => ⟨k.sg _ (h.y n e).1 ?_, (h.y n e).2⟩⟩
    · simpa using chan_ne hs0 hb (h.o n e).1
    · simpa using chan_ne hs0 hb (h.s n e).1
    · cases e; exact ⟨hc, fb⟩
    · simpa using ne_cells hs0 (h.y n e).1 hb (by decide)
theorem r3_sy {p q : Operand} {b : Nat} (h : R3s room t0 t O S x (some b) vx none) (hns : ¬ strict t.x) (ho : ops[i]? = some o) (hw : Region.wanted o (yielded ops a.tmps) = true) (hop : o.op = .store 61 p q) (hp : a.eval p = .pointer (some ⟨b, 0, none⟩)) (hq : a.eval q = .chan S)
    (hn : ∀ t', R3s room t0 t' O S x (some b) vx S → OpsS Mv fn ops rest Q (a.put o.dst undef) t') : OpsS Mv fn ops (i :: rest) Q a t := by
  refine opsS_facts M fun w0 hs0 => ?_
  obtain ⟨hb, fb⟩ := h.y b rfl
  refine opsS_st M (j := 0) (.chan S) hb rfl ho hw hns (fun w hcell hfr e he => ?_) (fun w hcell hfr K hK => ?_)
  · unfold execOp at he
    simp only [hop, hp, hq] at he
    simp [go_sem, hcell, hfr, ev_chan, storedEv] at he
    exact ⟨_, _, _, he⟩
  · unfold execOp
    simp only [hop, hp, hq]
    go_simp
    refine hK _ fun t1 k hc => hn _ ⟨⟨fun c hc _ => k.sg c (h.k.all hc) (by simpa using fb c hc), k.d.trans h.k.d, k.x.trans h.k.x⟩, fun n e => ⟨k.sg _ (h.o n e).1 ?_, (h.o n e).2⟩, fun n e => ⟨k.sg _ (h.s n e).1 ?_, (h.s n e).2⟩, fun n e => ⟨k.sg _ (h.x n e).1 ?_, (h.x n e).2⟩, fun n e => ?_⟩
    · simpa using chan_ne hs0 hb (h.o n e).1
    · simpa using chan_ne hs0 hb (h.s n e).1
    · simpa using ne_cells hs0 (h.x n e).1 hb (by decide)
    · cases e; exact ⟨hc, fb⟩
end

set_option maxRecDepth 100000 in
set_option maxHeartbeats 8000000 in
theorem region3 {t0 : Tau X} (hns : ¬ strict t0.x) {room : Nat} (hroom : room ≤ 65536) (u0 u1 u3 u4 u5 u6 u7 u8 u9 u12 u13 u14 u15 u16 u17 u18 u19 u20 u21 u22 u23 u24 u25 u26 u27 u28 u29 u33 u34 u35 u36 u37 u38 u39 u40 u41 u42 u43 u44 u45 u46 u47 u48 u49 u50 u51 u52 : Value) (ds : List Deferred) :
    wpS Mv 15 (seqL (seqR (seqR code15))) (fun e a t => e = .normal ∧ ∃ O S b10 b11, R3 room t0 t O S b10 b11 ∧ a = ⟨#[u0, u1, .int .i64 room, u3, u4, u5, u6, u7, u8, u9, .pointer (some ⟨b10, 0, none⟩), .pointer (some ⟨b11, 0, none⟩), u12, u13, u14, u15, u16, u17, u18, u19, u20, u21, u22, u23, u24, u25, u26, u27, u28, u29, .int .i64 room, .chan (some O), .chan (some S), u33, u34, u35, u36, u37, u38, u39, u40, u41, u42, u43, u44, u45, u46, u47, u48, u49, u50, u51, u52], ds⟩)
      ⟨#[u0, u1, .int .i64 room, u3, u4, u5, u6, u7, u8, u9, undef, undef, u12, u13, u14, u15, u16, u17, u18, u19, u20, u21, u22, u23, u24, u25, u26, u27, u28, u29, undef, undef, undef, u33, u34, u35, u36, u37, u38, u39, u40, u41, u42, u43, u44, u45, u46, u47, u48, u49, u50, u51, u52], ds⟩ t0 := by
  have hfin : ∀ (t : Tau X) (O S x y : Nat), R3s room t0 t (some O) (some S) (some x) (some y) (some O) (some S) → R3 room t0 t O S x y := fun t O S x y h =>
    ⟨h.k, (h.o _ rfl).1, (h.s _ rfl).1, (h.x _ rfl).1, (h.y _ rfl).1, (h.o _ rfl).2, (h.s _ rfl).2, (h.x _ rfl).2, (h.y _ rfl).2⟩
  have h0 : R3s room t0 t0 none none none none none none := ⟨Keep.refl, by simp, by simp, by simp, by simp⟩
  show wpS Mv 15 (Code.region _ _ true) _ _ _
  refine wpS_region_all M [[0, 1, 2, 3, 4, 5, 6], [0, 1, 2, 4, 3, 5, 6], [0, 1, 3, 2, 4, 5, 6], [0, 1, 3, 4, 2, 5, 6], [0, 1, 3, 4, 5, 2, 6], [0, 1, 4, 2, 3, 5, 6], [0, 1, 4, 3, 2, 5, 6], [0, 1, 4, 3, 5, 2, 6], [0, 2, 1, 3, 4, 5, 6], [0, 2, 1, 4, 3, 5, 6], [0, 2, 3, 1, 4, 5, 6], [0, 2, 3, 4, 1, 5, 6], [0, 2, 4, 1, 3, 5, 6], [0, 2, 4, 3, 1, 5, 6], [0, 3, 1, 2, 4, 5, 6], [0, 3, 1, 4, 2, 5, 6], [0, 3, 1, 4, 5, 2, 6], [0, 3, 2, 1, 4, 5, 6], [0, 3, 2, 4, 1, 5, 6], [0, 3, 4, 1, 2, 5, 6], [0, 3, 4, 1, 5, 2, 6], [0, 3, 4, 2, 1, 5, 6], [0, 4, 1, 2, 3, 5, 6], [0, 4, 1, 3, 2, 5, 6], [0, 4, 1, 3, 5, 2, 6], [0, 4, 2, 1, 3, 5, 6], [0, 4, 2, 3, 1, 5, 6], [0, 4, 3, 1, 2, 5, 6], [0, 4, 3, 1, 5, 2, 6], [0, 4, 3, 2, 1, 5, 6], [2, 0, 1, 3, 4, 5, 6], [2, 0, 1, 4, 3, 5, 6], [2, 0, 3, 1, 4, 5, 6], [2, 0, 3, 4, 1, 5, 6], [2, 0, 4, 1, 3, 5, 6], [2, 0, 4, 3, 1, 5, 6], [2, 3, 0, 1, 4, 5, 6], [2, 3, 0, 4, 1, 5, 6], [2, 3, 4, 0, 1, 5, 6], [2, 4, 0, 1, 3, 5, 6], [2, 4, 0, 3, 1, 5, 6], [2, 4, 3, 0, 1, 5, 6], [3, 0, 1, 2, 4, 5, 6], [3, 0, 1, 4, 2, 5, 6], [3, 0, 1, 4, 5, 2, 6], [3, 0, 2, 1, 4, 5, 6], [3, 0, 2, 4, 1, 5, 6], [3, 0, 4, 1, 2, 5, 6], [3, 0, 4, 1, 5, 2, 6], [3, 0, 4, 2, 1, 5, 6], [3, 2, 0, 1, 4, 5, 6], [3, 2, 0, 4, 1, 5, 6], [3, 2, 4, 0, 1, 5, 6], [3, 4, 0, 1, 2, 5, 6], [3, 4, 0, 1, 5, 2, 6], [3, 4, 0, 2, 1, 5, 6], [3, 4, 2, 0, 1, 5, 6], [4, 0, 1, 2, 3, 5, 6], [4, 0, 1, 3, 2, 5, 6], [4, 0, 1, 3, 5, 2, 6], [4, 0, 2, 1, 3, 5, 6], [4, 0, 2, 3, 1, 5, 6], [4, 0, 3, 1, 2, 5, 6], [4, 0, 3, 1, 5, 2, 6], [4, 0, 3, 2, 1, 5, 6], [4, 2, 0, 1, 3, 5, 6], [4, 2, 0, 3, 1, 5, 6], [4, 2, 3, 0, 1, 5, 6], [4, 3, 0, 1, 2, 5, 6], [4, 3, 0, 1, 5, 2, 6], [4, 3, 0, 2, 1, 5, 6], [4, 3, 2, 0, 1, 5, 6]] (by kernel_rfl) (by kernel_rfl) ?_
  simp only [List.forall_mem_cons, List.not_mem_nil, false_implies, implies_true, and_true]
  refine ⟨?_, ?_, ?_, ?_, ?_, ?_, ?_, ?_, ?_, ?_, ?_, ?_, ?_, ?_, ?_, ?_, ?_, ?_, ?_, ?_, ?_, ?_, ?_, ?_, ?_, ?_, ?_, ?_, ?_, ?_, ?_, ?_, ?_, ?_, ?_, ?_, ?_, ?_, ?_, ?_, ?_, ?_, ?_, ?_, ?_, ?_, ?_, ?_, ?_, ?_, ?_, ?_, ?_, ?_, ?_, ?_, ?_, ?_, ?_, ?_, ?_, ?_, ?_, ?_, ?_, ?_, ?_, ?_, ?_, ?_, ?_, ?_⟩
  · (refine opsS_look M rfl (by rfl) (fun w => by first | (simp [go_sem]; done) | fail) (fun w hs K hK => ?_); go_simp; refine hK _ ?_; clear hK K hs w; (try walk_nrm))
    refine r3_O M h0 hroom rfl (by rfl) rfl (by rfl) fun t1 bO h1 => ?_
    try walk_nrm
    refine r3_S M h1 rfl (by rfl) rfl (by rfl) fun t2 bS h2 => ?_
    try walk_nrm
    refine r3_x M h2 rfl (by rfl) rfl fun t3 bx h3 => ?_
    try walk_nrm
    refine r3_y M h3 rfl (by rfl) rfl fun t4 bz h4 => ?_
    try walk_nrm
    refine r3_sx M h4 (by rw [h4.k.x]; exact hns) rfl (by rfl) rfl (by rfl) (by rfl) fun t5 h5 => ?_
    try walk_nrm
    refine r3_sy M h5 (by rw [h5.k.x]; exact hns) rfl (by rfl) rfl (by rfl) (by rfl) fun t6 h6 => ?_
    try walk_nrm
    exact opsS_nil M ⟨by trivial, bO, bS, bx, bz, hfin _ _ _ _ _ h6, rfl⟩
  · (refine opsS_look M rfl (by rfl) (fun w => by first | (simp [go_sem]; done) | fail) (fun w hs K hK => ?_); go_simp; refine hK _ ?_; clear hK K hs w; (try walk_nrm))
    refine r3_O M h0 hroom rfl (by rfl) rfl (by rfl) fun t1 bO h1 => ?_
    try walk_nrm
    refine r3_S M h1 rfl (by rfl) rfl (by rfl) fun t2 bS h2 => ?_
    try walk_nrm
    refine r3_y M h2 rfl (by rfl) rfl fun t3 bz h3 => ?_
    try walk_nrm
    refine r3_x M h3 rfl (by rfl) rfl fun t4 bx h4 => ?_
    try walk_nrm
    refine r3_sx M h4 (by rw [h4.k.x]; exact hns) rfl (by rfl) rfl (by rfl) (by rfl) fun t5 h5 => ?_
    try walk_nrm
    refine r3_sy M h5 (by rw [h5.k.x]; exact hns) rfl (by rfl) rfl (by rfl) (by rfl) fun t6 h6 => ?_
    try walk_nrm
    exact opsS_nil M ⟨by trivial, bO, bS, bx, bz, hfin _ _ _ _ _ h6, rfl⟩
  · (refine opsS_look M rfl (by rfl) (fun w => by first | (simp [go_sem]; done) | fail) (fun w hs K hK => ?_); go_simp; refine hK _ ?_; clear hK K hs w; (try walk_nrm))
    refine r3_O M h0 hroom rfl (by rfl) rfl (by rfl) fun t1 bO h1 => ?_
    try walk_nrm
    refine r3_x M h1 rfl (by rfl) rfl fun t2 bx h2 => ?_
    try walk_nrm
    refine r3_S M h2 rfl (by rfl) rfl (by rfl) fun t3 bS h3 => ?_
    try walk_nrm
    refine r3_y M h3 rfl (by rfl) rfl fun t4 bz h4 => ?_
    try walk_nrm
    refine r3_sx M h4 (by rw [h4.k.x]; exact hns) rfl (by rfl) rfl (by rfl) (by rfl) fun t5 h5 => ?_
    try walk_nrm
    refine r3_sy M h5 (by rw [h5.k.x]; exact hns) rfl (by rfl) rfl (by rfl) (by rfl) fun t6 h6 => ?_
    try walk_nrm
    exact opsS_nil M ⟨by trivial, bO, bS, bx, bz, hfin _ _ _ _ _ h6, rfl⟩
  · (refine opsS_look M rfl (by rfl) (fun w => by first | (simp [go_sem]; done) | fail) (fun w hs K hK => ?_); go_simp; refine hK _ ?_; clear hK K hs w; (try walk_nrm))
    refine r3_O M h0 hroom rfl (by rfl) rfl (by rfl) fun t1 bO h1 => ?_
    try walk_nrm
    refine r3_x M h1 rfl (by rfl) rfl fun t2 bx h2 => ?_
    try walk_nrm
    refine r3_y M h2 rfl (by rfl) rfl fun t3 bz h3 => ?_
    try walk_nrm
    refine r3_S M h3 rfl (by rfl) rfl (by rfl) fun t4 bS h4 => ?_
    try walk_nrm
    refine r3_sx M h4 (by rw [h4.k.x]; exact hns) rfl (by rfl) rfl (by rfl) (by rfl) fun t5 h5 => ?_
    try walk_nrm
    refine r3_sy M h5 (by rw [h5.k.x]; exact hns) rfl (by rfl) rfl (by rfl) (by rfl) fun t6 h6 => ?_
    try walk_nrm
    exact opsS_nil M ⟨by trivial, bO, bS, bx, bz, hfin _ _ _ _ _ h6, rfl⟩
  · (refine opsS_look M rfl (by rfl) (fun w => by first | (simp [go_sem]; done) | fail) (fun w hs K hK => ?_); go_simp; refine hK _ ?_; clear hK K hs w; (try walk_nrm))
    refine r3_O M h0 hroom rfl (by rfl) rfl (by rfl) fun t1 bO h1 => ?_
    try walk_nrm
    refine r3_x M h1 rfl (by rfl) rfl fun t2 bx h2 => ?_
    try walk_nrm
    refine r3_y M h2 rfl (by rfl) rfl fun t3 bz h3 => ?_
    try walk_nrm
    refine r3_sx M h3 (by rw [h3.k.x]; exact hns) rfl (by rfl) rfl (by rfl) (by rfl) fun t4 h4 => ?_
    try walk_nrm
    refine r3_S M h4 rfl (by rfl) rfl (by rfl) fun t5 bS h5 => ?_
    try walk_nrm
    refine r3_sy M h5 (by rw [h5.k.x]; exact hns) rfl (by rfl) rfl (by rfl) (by rfl) fun t6 h6 => ?_
    try walk_nrm
    exact opsS_nil M ⟨by trivial, bO, bS, bx, bz, hfin _ _ _ _ _ h6, rfl⟩
  · (refine opsS_look M rfl (by rfl) (fun w => by first | (simp [go_sem]; done) | fail) (fun w hs K hK => ?_); go_simp; refine hK _ ?_; clear hK K hs w; (try walk_nrm))
    refine r3_O M h0 hroom rfl (by rfl) rfl (by rfl) fun t1 bO h1 => ?_
    try walk_nrm
    refine r3_y M h1 rfl (by rfl) rfl fun t2 bz h2 => ?_
    try walk_nrm
    refine r3_S M h2 rfl (by rfl) rfl (by rfl) fun t3 bS h3 => ?_
    try walk_nrm
    refine r3_x M h3 rfl (by rfl) rfl fun t4 bx h4 => ?_
    try walk_nrm
    refine r3_sx M h4 (by rw [h4.k.x]; exact hns) rfl (by rfl) rfl (by rfl) (by rfl) fun t5 h5 => ?_
    try walk_nrm
    refine r3_sy M h5 (by rw [h5.k.x]; exact hns) rfl (by rfl) rfl (by rfl) (by rfl) fun t6 h6 => ?_
    try walk_nrm
    exact opsS_nil M ⟨by trivial, bO, bS, bx, bz, hfin _ _ _ _ _ h6, rfl⟩
  · (refine opsS_look M rfl (by rfl) (fun w => by first | (simp [go_sem]; done) | fail) (fun w hs K hK => ?_); go_simp; refine hK _ ?_; clear hK K hs w; (try walk_nrm))
    refine r3_O M h0 hroom rfl (by rfl) rfl (by rfl) fun t1 bO h1 => ?_
    try walk_nrm
    refine r3_y M h1 rfl (by rfl) rfl fun t2 bz h2 => ?_
    try walk_nrm
    refine r3_x M h2 rfl (by rfl) rfl fun t3 bx h3 => ?_
    try walk_nrm
    refine r3_S M h3 rfl (by rfl) rfl (by rfl) fun t4 bS h4 => ?_
    try walk_nrm
    refine r3_sx M h4 (by rw [h4.k.x]; exact hns) rfl (by rfl) rfl (by rfl) (by rfl) fun t5 h5 => ?_
    try walk_nrm
    refine r3_sy M h5 (by rw [h5.k.x]; exact hns) rfl (by rfl) rfl (by rfl) (by rfl) fun t6 h6 => ?_
    try walk_nrm
    exact opsS_nil M ⟨by trivial, bO, bS, bx, bz, hfin _ _ _ _ _ h6, rfl⟩
  · (refine opsS_look M rfl (by rfl) (fun w => by first | (simp [go_sem]; done) | fail) (fun w hs K hK => ?_); go_simp; refine hK _ ?_; clear hK K hs w; (try walk_nrm))
    refine r3_O M h0 hroom rfl (by rfl) rfl (by rfl) fun t1 bO h1 => ?_
    try walk_nrm
    refine r3_y M h1 rfl (by rfl) rfl fun t2 bz h2 => ?_
    try walk_nrm
    refine r3_x M h2 rfl (by rfl) rfl fun t3 bx h3 => ?_
    try walk_nrm
    refine r3_sx M h3 (by rw [h3.k.x]; exact hns) rfl (by rfl) rfl (by rfl) (by rfl) fun t4 h4 => ?_
    try walk_nrm
    refine r3_S M h4 rfl (by rfl) rfl (by rfl) fun t5 bS h5 => ?_
    try walk_nrm
    refine r3_sy M h5 (by rw [h5.k.x]; exact hns) rfl (by rfl) rfl (by rfl) (by rfl) fun t6 h6 => ?_
    try walk_nrm
    exact opsS_nil M ⟨by trivial, bO, bS, bx, bz, hfin _ _ _ _ _ h6, rfl⟩
  · (refine opsS_look M rfl (by rfl) (fun w => by first | (simp [go_sem]; done) | fail) (fun w hs K hK => ?_); go_simp; refine hK _ ?_; clear hK K hs w; (try walk_nrm))
    refine r3_S M h0 rfl (by rfl) rfl (by rfl) fun t1 bS h1 => ?_
    try walk_nrm
    refine r3_O M h1 hroom rfl (by rfl) rfl (by rfl) fun t2 bO h2 => ?_
    try walk_nrm
    refine r3_x M h2 rfl (by rfl) rfl fun t3 bx h3 => ?_
    try walk_nrm
    refine r3_y M h3 rfl (by rfl) rfl fun t4 bz h4 => ?_
    try walk_nrm
    refine r3_sx M h4 (by rw [h4.k.x]; exact hns) rfl (by rfl) rfl (by rfl) (by rfl) fun t5 h5 => ?_
    try walk_nrm
    refine r3_sy M h5 (by rw [h5.k.x]; exact hns) rfl (by rfl) rfl (by rfl) (by rfl) fun t6 h6 => ?_
    try walk_nrm
    exact opsS_nil M ⟨by trivial, bO, bS, bx, bz, hfin _ _ _ _ _ h6, rfl⟩
  · (refine opsS_look M rfl (by rfl) (fun w => by first | (simp [go_sem]; done) | fail) (fun w hs K hK => ?_); go_simp; refine hK _ ?_; clear hK K hs w; (try walk_nrm))
    refine r3_S M h0 rfl (by rfl) rfl (by rfl) fun t1 bS h1 => ?_
    try walk_nrm
    refine r3_O M h1 hroom rfl (by rfl) rfl (by rfl) fun t2 bO h2 => ?_
    try walk_nrm
    refine r3_y M h2 rfl (by rfl) rfl fun t3 bz h3 => ?_
    try walk_nrm
    refine r3_x M h3 rfl (by rfl) rfl fun t4 bx h4 => ?_
    try walk_nrm
    refine r3_sx M h4 (by rw [h4.k.x]; exact hns) rfl (by rfl) rfl (by rfl) (by rfl) fun t5 h5 => ?_
    try walk_nrm
    refine r3_sy M h5 (by rw [h5.k.x]; exact hns) rfl (by rfl) rfl (by rfl) (by rfl) fun t6 h6 => ?_
    try walk_nrm
    exact opsS_nil M ⟨by trivial, bO, bS, bx, bz, hfin _ _ _ _ _ h6, rfl⟩
  · (refine opsS_look M rfl (by rfl) (fun w => by first | (simp [go_sem]; done) | fail) (fun w hs K hK => ?_); go_simp; refine hK _ ?_; clear hK K hs w; (try walk_nrm))
    refine r3_S M h0 rfl (by rfl) rfl (by rfl) fun t1 bS h1 => ?_
    try walk_nrm
    refine r3_x M h1 rfl (by rfl) rfl fun t2 bx h2 => ?_
    try walk_nrm
    refine r3_O M h2 hroom rfl (by rfl) rfl (by rfl) fun t3 bO h3 => ?_
    try walk_nrm
    refine r3_y M h3 rfl (by rfl) rfl fun t4 bz h4 => ?_
    try walk_nrm
    refine r3_sx M h4 (by rw [h4.k.x]; exact hns) rfl (by rfl) rfl (by rfl) (by rfl) fun t5 h5 => ?_
    try walk_nrm
    refine r3_sy M h5 (by rw [h5.k.x]; exact hns) rfl (by rfl) rfl (by rfl) (by rfl) fun t6 h6 => ?_
    try walk_nrm
    exact opsS_nil M ⟨by trivial, bO, bS, bx, bz, hfin _ _ _ _ _ h6, rfl⟩
  · (refine opsS_look M rfl (by rfl) (fun w => by first | (simp [go_sem]; done) | fail) (fun w hs K hK => ?_); go_simp; refine hK _ ?_; clear hK K hs w; (try walk_nrm))
    refine r3_S M h0 rfl (by rfl) rfl (by rfl) fun t1 bS h1 => ?_
    try walk_nrm
    refine r3_x M h1 rfl (by rfl) rfl fun t2 bx h2 => ?_
    try walk_nrm
    refine r3_y M h2 rfl (by rfl) rfl fun t3 bz h3 => ?_
    try walk_nrm
    refine r3_O M h3 hroom rfl (by rfl) rfl (by rfl) fun t4 bO h4 => ?_
    try walk_nrm
    refine r3_sx M h4 (by rw [h4.k.x]; exact hns) rfl (by rfl) rfl (by rfl) (by rfl) fun t5 h5 => ?_
    try walk_nrm
    refine r3_sy M h5 (by rw [h5.k.x]; exact hns) rfl (by rfl) rfl (by rfl) (by rfl) fun t6 h6 => ?_
    try walk_nrm
    exact opsS_nil M ⟨by trivial, bO, bS, bx, bz, hfin _ _ _ _ _ h6, rfl⟩
  · (refine opsS_look M rfl (by rfl) (fun w => by first | (simp [go_sem]; done) | fail) (fun w hs K hK => ?_); go_simp; refine hK _ ?_; clear hK K hs w; (try walk_nrm))
    refine r3_S M h0 rfl (by rfl) rfl (by rfl) fun t1 bS h1 => ?_
    try walk_nrm
    refine r3_y M h1 rfl (by rfl) rfl fun t2 bz h2 => ?_
    try walk_nrm
    refine r3_O M h2 hroom rfl (by rfl) rfl (by rfl) fun t3 bO h3 => ?_
    try walk_nrm
    refine r3_x M h3 rfl (by rfl) rfl fun t4 bx h4 => ?_
    try walk_nrm
    refine r3_sx M h4 (by rw [h4.k.x]; exact hns) rfl (by rfl) rfl (by rfl) (by rfl) fun t5 h5 => ?_
    try walk_nrm
    refine r3_sy M h5 (by rw [h5.k.x]; exact hns) rfl (by rfl) rfl (by rfl) (by rfl) fun t6 h6 => ?_
    try walk_nrm
    exact opsS_nil M ⟨by trivial, bO, bS, bx, bz, hfin _ _ _ _ _ h6, rfl⟩
  · (refine opsS_look M rfl (by rfl) (fun w => by first | (simp [go_sem]; done) | fail) (fun w hs K hK => ?_); go_simp; refine hK _ ?_; clear hK K hs w; (try walk_nrm))
    refine r3_S M h0 rfl (by rfl) rfl (by rfl) fun t1 bS h1 => ?_
    try walk_nrm
    refine r3_y M h1 rfl (by rfl) rfl fun t2 bz h2 => ?_
    try walk_nrm
    refine r3_x M h2 rfl (by rfl) rfl fun t3 bx h3 => ?_
    try walk_nrm
    refine r3_O M h3 hroom rfl (by rfl) rfl (by rfl) fun t4 bO h4 => ?_
    try walk_nrm
    refine r3_sx M h4 (by rw [h4.k.x]; exact hns) rfl (by rfl) rfl (by rfl) (by rfl) fun t5 h5 => ?_
    try walk_nrm
    refine r3_sy M h5 (by rw [h5.k.x]; exact hns) rfl (by rfl) rfl (by rfl) (by rfl) fun t6 h6 => ?_
    try walk_nrm
    exact opsS_nil M ⟨by trivial, bO, bS, bx, bz, hfin _ _ _ _ _ h6, rfl⟩
  · (refine opsS_look M rfl (by rfl) (fun w => by first | (simp [go_sem]; done) | fail) (fun w hs K hK => ?_); go_simp; refine hK _ ?_; clear hK K hs w; (try walk_nrm))
    refine r3_x M h0 rfl (by rfl) rfl fun t1 bx h1 => ?_
    try walk_nrm
    refine r3_O M h1 hroom rfl (by rfl) rfl (by rfl) fun t2 bO h2 => ?_
    try walk_nrm
    refine r3_S M h2 rfl (by rfl) rfl (by rfl) fun t3 bS h3 => ?_
    try walk_nrm
    refine r3_y M h3 rfl (by rfl) rfl fun t4 bz h4 => ?_
    try walk_nrm
    refine r3_sx M h4 (by rw [h4.k.x]; exact hns) rfl (by rfl) rfl (by rfl) (by rfl) fun t5 h5 => ?_
    try walk_nrm
    refine r3_sy M h5 (by rw [h5.k.x]; exact hns) rfl (by rfl) rfl (by rfl) (by rfl) fun t6 h6 => ?_
    try walk_nrm
    exact opsS_nil M ⟨by trivial, bO, bS, bx, bz, hfin _ _ _ _ _ h6, rfl⟩
  · (refine opsS_look M rfl (by rfl) (fun w => by first | (simp [go_sem]; done) | fail) (fun w hs K hK => ?_); go_simp; refine hK _ ?_; clear hK K hs w; (try walk_nrm))
    refine r3_x M h0 rfl (by rfl) rfl fun t1 bx h1 => ?_
    try walk_nrm
    refine r3_O M h1 hroom rfl (by rfl) rfl (by rfl) fun t2 bO h2 => ?_
    try walk_nrm
    refine r3_y M h2 rfl (by rfl) rfl fun t3 bz h3 => ?_
    try walk_nrm
    refine r3_S M h3 rfl (by rfl) rfl (by rfl) fun t4 bS h4 => ?_
    try walk_nrm
    refine r3_sx M h4 (by rw [h4.k.x]; exact hns) rfl (by rfl) rfl (by rfl) (by rfl) fun t5 h5 => ?_
    try walk_nrm
    refine r3_sy M h5 (by rw [h5.k.x]; exact hns) rfl (by rfl) rfl (by rfl) (by rfl) fun t6 h6 => ?_
    try walk_nrm
    exact opsS_nil M ⟨by trivial, bO, bS, bx, bz, hfin _ _ _ _ _ h6, rfl⟩
  · (refine opsS_look M rfl (by rfl) (fun w => by first | (simp [go_sem]; done) | fail) (fun w hs K hK => ?_); go_simp; refine hK _ ?_; clear hK K hs w; (try walk_nrm))
    refine r3_x M h0 rfl (by rfl) rfl fun t1 bx h1 => ?_
    try walk_nrm
    refine r3_O M h1 hroom rfl (by rfl) rfl (by rfl) fun t2 bO h2 => ?_
    try walk_nrm
    refine r3_y M h2 rfl (by rfl) rfl fun t3 bz h3 => ?_
    try walk_nrm
    refine r3_sx M h3 (by rw [h3.k.x]; exact hns) rfl (by rfl) rfl (by rfl) (by rfl) fun t4 h4 => ?_
    try walk_nrm
    refine r3_S M h4 rfl (by rfl) rfl (by rfl) fun t5 bS h5 => ?_
    try walk_nrm
    refine r3_sy M h5 (by rw [h5.k.x]; exact hns) rfl (by rfl) rfl (by rfl) (by rfl) fun t6 h6 => ?_
    try walk_nrm
    exact opsS_nil M ⟨by trivial, bO, bS, bx, bz, hfin _ _ _ _ _ h6, rfl⟩
  · (refine opsS_look M rfl (by rfl) (fun w => by first | (simp [go_sem]; done) | fail) (fun w hs K hK => ?_); go_simp; refine hK _ ?_; clear hK K hs w; (try walk_nrm))
    refine r3_x M h0 rfl (by rfl) rfl fun t1 bx h1 => ?_
    try walk_nrm
    refine r3_S M h1 rfl (by rfl) rfl (by rfl) fun t2 bS h2 => ?_
    try walk_nrm
    refine r3_O M h2 hroom rfl (by rfl) rfl (by rfl) fun t3 bO h3 => ?_
    try walk_nrm
    refine r3_y M h3 rfl (by rfl) rfl fun t4 bz h4 => ?_
    try walk_nrm
    refine r3_sx M h4 (by rw [h4.k.x]; exact hns) rfl (by rfl) rfl (by rfl) (by rfl) fun t5 h5 => ?_
    try walk_nrm
    refine r3_sy M h5 (by rw [h5.k.x]; exact hns) rfl (by rfl) rfl (by rfl) (by rfl) fun t6 h6 => ?_
    try walk_nrm
    exact opsS_nil M ⟨by trivial, bO, bS, bx, bz, hfin _ _ _ _ _ h6, rfl⟩
  · (refine opsS_look M rfl (by rfl) (fun w => by first | (simp [go_sem]; done) | fail) (fun w hs K hK => ?_); go_simp; refine hK _ ?_; clear hK K hs w; (try walk_nrm))
    refine r3_x M h0 rfl (by rfl) rfl fun t1 bx h1 => ?_
    try walk_nrm
    refine r3_S M h1 rfl (by rfl) rfl (by rfl) fun t2 bS h2 => ?_
    try walk_nrm
    refine r3_y M h2 rfl (by rfl) rfl fun t3 bz h3 => ?_
    try walk_nrm
    refine r3_O M h3 hroom rfl (by rfl) rfl (by rfl) fun t4 bO h4 => ?_
    try walk_nrm
    refine r3_sx M h4 (by rw [h4.k.x]; exact hns) rfl (by rfl) rfl (by rfl) (by rfl) fun t5 h5 => ?_
    try walk_nrm
    refine r3_sy M h5 (by rw [h5.k.x]; exact hns) rfl (by rfl) rfl (by rfl) (by rfl) fun t6 h6 => ?_
    try walk_nrm
    exact opsS_nil M ⟨by trivial, bO, bS, bx, bz, hfin _ _ _ _ _ h6, rfl⟩
  · (refine opsS_look M rfl (by rfl) (fun w => by first | (simp [go_sem]; done) | fail) (fun w hs K hK => ?_); go_simp; refine hK _ ?_; clear hK K hs w; (try walk_nrm))
    refine r3_x M h0 rfl (by rfl) rfl fun t1 bx h1 => ?_
    try walk_nrm
    refine r3_y M h1 rfl (by rfl) rfl fun t2 bz h2 => ?_
    try walk_nrm
    refine r3_O M h2 hroom rfl (by rfl) rfl (by rfl) fun t3 bO h3 => ?_
    try walk_nrm
    refine r3_S M h3 rfl (by rfl) rfl (by rfl) fun t4 bS h4 => ?_
    try walk_nrm
    refine r3_sx M h4 (by rw [h4.k.x]; exact hns) rfl (by rfl) rfl (by rfl) (by rfl) fun t5 h5 => ?_
    try walk_nrm
    refine r3_sy M h5 (by rw [h5.k.x]; exact hns) rfl (by rfl) rfl (by rfl) (by rfl) fun t6 h6 => ?_
    try walk_nrm
    exact opsS_nil M ⟨by trivial, bO, bS, bx, bz, hfin _ _ _ _ _ h6, rfl⟩
  · (refine opsS_look M rfl (by rfl) (fun w => by first | (simp [go_sem]; done) | fail) (fun w hs K hK => ?_); go_simp; refine hK _ ?_; clear hK K hs w; (try walk_nrm))
    refine r3_x M h0 rfl (by rfl) rfl fun t1 bx h1 => ?_
    try walk_nrm
    refine r3_y M h1 rfl (by rfl) rfl fun t2 bz h2 => ?_
    try walk_nrm
    refine r3_O M h2 hroom rfl (by rfl) rfl (by rfl) fun t3 bO h3 => ?_
    try walk_nrm
    refine r3_sx M h3 (by rw [h3.k.x]; exact hns) rfl (by rfl) rfl (by rfl) (by rfl) fun t4 h4 => ?_
    try walk_nrm
    refine r3_S M h4 rfl (by rfl) rfl (by rfl) fun t5 bS h5 => ?_
    try walk_nrm
    refine r3_sy M h5 (by rw [h5.k.x]; exact hns) rfl (by rfl) rfl (by rfl) (by rfl) fun t6 h6 => ?_
    try walk_nrm
    exact opsS_nil M ⟨by trivial, bO, bS, bx, bz, hfin _ _ _ _ _ h6, rfl⟩
  · (refine opsS_look M rfl (by rfl) (fun w => by first | (simp [go_sem]; done) | fail) (fun w hs K hK => ?_); go_simp; refine hK _ ?_; clear hK K hs w; (try walk_nrm))
    refine r3_x M h0 rfl (by rfl) rfl fun t1 bx h1 => ?_
    try walk_nrm
    refine r3_y M h1 rfl (by rfl) rfl fun t2 bz h2 => ?_
    try walk_nrm
    refine r3_S M h2 rfl (by rfl) rfl (by rfl) fun t3 bS h3 => ?_
    try walk_nrm
    refine r3_O M h3 hroom rfl (by rfl) rfl (by rfl) fun t4 bO h4 => ?_
    try walk_nrm
    refine r3_sx M h4 (by rw [h4.k.x]; exact hns) rfl (by rfl) rfl (by rfl) (by rfl) fun t5 h5 => ?_
    try walk_nrm
    refine r3_sy M h5 (by rw [h5.k.x]; exact hns) rfl (by rfl) rfl (by rfl) (by rfl) fun t6 h6 => ?_
    try walk_nrm
    exact opsS_nil M ⟨by trivial, bO, bS, bx, bz, hfin _ _ _ _ _ h6, rfl⟩
  · (refine opsS_look M rfl (by rfl) (fun w => by first | (simp [go_sem]; done) | fail) (fun w hs K hK => ?_); go_simp; refine hK _ ?_; clear hK K hs w; (try walk_nrm))
    refine r3_y M h0 rfl (by rfl) rfl fun t1 bz h1 => ?_
    try walk_nrm
    refine r3_O M h1 hroom rfl (by rfl) rfl (by rfl) fun t2 bO h2 => ?_
    try walk_nrm
    refine r3_S M h2 rfl (by rfl) rfl (by rfl) fun t3 bS h3 => ?_
    try walk_nrm
    refine r3_x M h3 rfl (by rfl) rfl fun t4 bx h4 => ?_
    try walk_nrm
    refine r3_sx M h4 (by rw [h4.k.x]; exact hns) rfl (by rfl) rfl (by rfl) (by rfl) fun t5 h5 => ?_
    try walk_nrm
    refine r3_sy M h5 (by rw [h5.k.x]; exact hns) rfl (by rfl) rfl (by rfl) (by rfl) fun t6 h6 => ?_
    try walk_nrm
    exact opsS_nil M ⟨by trivial, bO, bS, bx, bz, hfin _ _ _ _ _ h6, rfl⟩
  · (refine opsS_look M rfl (by rfl) (fun w => by first | (simp [go_sem]; done) | fail) (fun w hs K hK => ?_); go_simp; refine hK _ ?_; clear hK K hs w; (try walk_nrm))
    refine r3_y M h0 rfl (by rfl) rfl fun t1 bz h1 => ?_
    try walk_nrm
    refine r3_O M h1 hroom rfl (by rfl) rfl (by rfl) fun t2 bO h2 => ?_
    try walk_nrm
    refine r3_x M h2 rfl (by rfl) rfl fun t3 bx h3 => ?_
    try walk_nrm
    refine r3_S M h3 rfl (by rfl) rfl (by rfl) fun t4 bS h4 => ?_
    try walk_nrm
    refine r3_sx M h4 (by rw [h4.k.x]; exact hns) rfl (by rfl) rfl (by rfl) (by rfl) fun t5 h5 => ?_
    try walk_nrm
    refine r3_sy M h5 (by rw [h5.k.x]; exact hns) rfl (by rfl) rfl (by rfl) (by rfl) fun t6 h6 => ?_
    try walk_nrm
    exact opsS_nil M ⟨by trivial, bO, bS, bx, bz, hfin _ _ _ _ _ h6, rfl⟩
  · (refine opsS_look M rfl (by rfl) (fun w => by first | (simp [go_sem]; done) | fail) (fun w hs K hK => ?_); go_simp; refine hK _ ?_; clear hK K hs w; (try walk_nrm))
    refine r3_y M h0 rfl (by rfl) rfl fun t1 bz h1 => ?_
    try walk_nrm
    refine r3_O M h1 hroom rfl (by rfl) rfl (by rfl) fun t2 bO h2 => ?_
    try walk_nrm
    refine r3_x M h2 rfl (by rfl) rfl fun t3 bx h3 => ?_
    try walk_nrm
    refine r3_sx M h3 (by rw [h3.k.x]; exact hns) rfl (by rfl) rfl (by rfl) (by rfl) fun t4 h4 => ?_
    try walk_nrm
    refine r3_S M h4 rfl (by rfl) rfl (by rfl) fun t5 bS h5 => ?_
    try walk_nrm
    refine r3_sy M h5 (by rw [h5.k.x]; exact hns) rfl (by rfl) rfl (by rfl) (by rfl) fun t6 h6 => ?_
    try walk_nrm
    exact opsS_nil M ⟨by trivial, bO, bS, bx, bz, hfin _ _ _ _ _ h6, rfl⟩
  · (refine opsS_look M rfl (by rfl) (fun w => by first | (simp [go_sem]; done) | fail) (fun w hs K hK => ?_); go_simp; refine hK _ ?_; clear hK K hs w; (try walk_nrm))
    refine r3_y M h0 rfl (by rfl) rfl fun t1 bz h1 => ?_
    try walk_nrm
    refine r3_S M h1 rfl (by rfl) rfl (by rfl) fun t2 bS h2 => ?_
    try walk_nrm
    refine r3_O M h2 hroom rfl (by rfl) rfl (by rfl) fun t3 bO h3 => ?_
    try walk_nrm
    refine r3_x M h3 rfl (by rfl) rfl fun t4 bx h4 => ?_
    try walk_nrm
    refine r3_sx M h4 (by rw [h4.k.x]; exact hns) rfl (by rfl) rfl (by rfl) (by rfl) fun t5 h5 => ?_
    try walk_nrm
    refine r3_sy M h5 (by rw [h5.k.x]; exact hns) rfl (by rfl) rfl (by rfl) (by rfl) fun t6 h6 => ?_
    try walk_nrm
    exact opsS_nil M ⟨by trivial, bO, bS, bx, bz, hfin _ _ _ _ _ h6, rfl⟩
  · (refine opsS_look M rfl (by rfl) (fun w => by first | (simp [go_sem]; done) | fail) (fun w hs K hK => ?_); go_simp; refine hK _ ?_; clear hK K hs w; (try walk_nrm))
    refine r3_y M h0 rfl (by rfl) rfl fun t1 bz h1 => ?_
    try walk_nrm
    refine r3_S M h1 rfl (by rfl) rfl (by rfl) fun t2 bS h2 => ?_
    try walk_nrm
    refine r3_x M h2 rfl (by rfl) rfl fun t3 bx h3 => ?_
    try walk_nrm
    refine r3_O M h3 hroom rfl (by rfl) rfl (by rfl) fun t4 bO h4 => ?_
    try walk_nrm
    refine r3_sx M h4 (by rw [h4.k.x]; exact hns) rfl (by rfl) rfl (by rfl) (by rfl) fun t5 h5 => ?_
    try walk_nrm
    refine r3_sy M h5 (by rw [h5.k.x]; exact hns) rfl (by rfl) rfl (by rfl) (by rfl) fun t6 h6 => ?_
    try walk_nrm
    exact opsS_nil M ⟨by trivial, bO, bS, bx, bz, hfin _ _ _ _ _ h6, rfl⟩
  · (refine opsS_look M rfl (by rfl) (fun w => by first | (simp [go_sem]; done) | fail) (fun w hs K hK => ?_); go_simp; refine hK _ ?_; clear hK K hs w; (try walk_nrm))
    refine r3_y M h0 rfl (by rfl) rfl fun t1 bz h1 => ?_
    try walk_nrm
    refine r3_x M h1 rfl (by rfl) rfl fun t2 bx h2 => ?_
    try walk_nrm
    refine r3_O M h2 hroom rfl (by rfl) rfl (by rfl) fun t3 bO h3 => ?_
    try walk_nrm
    refine r3_S M h3 rfl (by rfl) rfl (by rfl) fun t4 bS h4 => ?_
    try walk_nrm
    refine r3_sx M h4 (by rw [h4.k.x]; exact hns) rfl (by rfl) rfl (by rfl) (by rfl) fun t5 h5 => ?_
    try walk_nrm
    refine r3_sy M h5 (by rw [h5.k.x]; exact hns) rfl (by rfl) rfl (by rfl) (by rfl) fun t6 h6 => ?_
    try walk_nrm
    exact opsS_nil M ⟨by trivial, bO, bS, bx, bz, hfin _ _ _ _ _ h6, rfl⟩
  · (refine opsS_look M rfl (by rfl) (fun w => by first | (simp [go_sem]; done) | fail) (fun w hs K hK => ?_); go_simp; refine hK _ ?_; clear hK K hs w; (try walk_nrm))
    refine r3_y M h0 rfl (by rfl) rfl fun t1 bz h1 => ?_
    try walk_nrm
    refine r3_x M h1 rfl (by rfl) rfl fun t2 bx h2 => ?_
    try walk_nrm
    refine r3_O M h2 hroom rfl (by rfl) rfl (by rfl) fun t3 bO h3 => ?_
    try walk_nrm
    refine r3_sx M h3 (by rw [h3.k.x]; exact hns) rfl (by rfl) rfl (by rfl) (by rfl) fun t4 h4 => ?_
    try walk_nrm
    refine r3_S M h4 rfl (by rfl) rfl (by rfl) fun t5 bS h5 => ?_
    try walk_nrm
    refine r3_sy M h5 (by rw [h5.k.x]; exact hns) rfl (by rfl) rfl (by rfl) (by rfl) fun t6 h6 => ?_
    try walk_nrm
    exact opsS_nil M ⟨by trivial, bO, bS, bx, bz, hfin _ _ _ _ _ h6, rfl⟩
  · (refine opsS_look M rfl (by rfl) (fun w => by first | (simp [go_sem]; done) | fail) (fun w hs K hK => ?_); go_simp; refine hK _ ?_; clear hK K hs w; (try walk_nrm))
    refine r3_y M h0 rfl (by rfl) rfl fun t1 bz h1 => ?_
    try walk_nrm
    refine r3_x M h1 rfl (by rfl) rfl fun t2 bx h2 => ?_
    try walk_nrm
    refine r3_S M h2 rfl (by rfl) rfl (by rfl) fun t3 bS h3 => ?_
    try walk_nrm
    refine r3_O M h3 hroom rfl (by rfl) rfl (by rfl) fun t4 bO h4 => ?_
    try walk_nrm
    refine r3_sx M h4 (by rw [h4.k.x]; exact hns) rfl (by rfl) rfl (by rfl) (by rfl) fun t5 h5 => ?_
    try walk_nrm
    refine r3_sy M h5 (by rw [h5.k.x]; exact hns) rfl (by rfl) rfl (by rfl) (by rfl) fun t6 h6 => ?_
    try walk_nrm
    exact opsS_nil M ⟨by trivial, bO, bS, bx, bz, hfin _ _ _ _ _ h6, rfl⟩
  · refine r3_S M h0 rfl (by rfl) rfl (by rfl) fun t1 bS h1 => ?_
    try walk_nrm
    (refine opsS_look M rfl (by rfl) (fun w => by first | (simp [go_sem]; done) | fail) (fun w hs K hK => ?_); go_simp; refine hK _ ?_; clear hK K hs w; (try walk_nrm))
    refine r3_O M h1 hroom rfl (by rfl) rfl (by rfl) fun t2 bO h2 => ?_
    try walk_nrm
    refine r3_x M h2 rfl (by rfl) rfl fun t3 bx h3 => ?_
    try walk_nrm
    refine r3_y M h3 rfl (by rfl) rfl fun t4 bz h4 => ?_
    try walk_nrm
    refine r3_sx M h4 (by rw [h4.k.x]; exact hns) rfl (by rfl) rfl (by rfl) (by rfl) fun t5 h5 => ?_
    try walk_nrm
    refine r3_sy M h5 (by rw [h5.k.x]; exact hns) rfl (by rfl) rfl (by rfl) (by rfl) fun t6 h6 => ?_
    try walk_nrm
    exact opsS_nil M ⟨by trivial, bO, bS, bx, bz, hfin _ _ _ _ _ h6, rfl⟩
  · refine r3_S M h0 rfl (by rfl) rfl (by rfl) fun t1 bS h1 => ?_
    try walk_nrm
    (refine opsS_look M rfl (by rfl) (fun w => by first | (simp [go_sem]; done) | fail) (fun w hs K hK => ?_); go_simp; refine hK _ ?_; clear hK K hs w; (try walk_nrm))
    refine r3_O M h1 hroom rfl (by rfl) rfl (by rfl) fun t2 bO h2 => ?_
    try walk_nrm
    refine r3_y M h2 rfl (by rfl) rfl fun t3 bz h3 => ?_
    try walk_nrm
    refine r3_x M h3 rfl (by rfl) rfl fun t4 bx h4 => ?_
    try walk_nrm
    refine r3_sx M h4 (by rw [h4.k.x]; exact hns) rfl (by rfl) rfl (by rfl) (by rfl) fun t5 h5 => ?_
    try walk_nrm
    refine r3_sy M h5 (by rw [h5.k.x]; exact hns) rfl (by rfl) rfl (by rfl) (by rfl) fun t6 h6 => ?_
    try walk_nrm
    exact opsS_nil M ⟨by trivial, bO, bS, bx, bz, hfin _ _ _ _ _ h6, rfl⟩
  · refine r3_S M h0 rfl (by rfl) rfl (by rfl) fun t1 bS h1 => ?_
    try walk_nrm
    (refine opsS_look M rfl (by rfl) (fun w => by first | (simp [go_sem]; done) | fail) (fun w hs K hK => ?_); go_simp; refine hK _ ?_; clear hK K hs w; (try walk_nrm))
    refine r3_x M h1 rfl (by rfl) rfl fun t2 bx h2 => ?_
    try walk_nrm
    refine r3_O M h2 hroom rfl (by rfl) rfl (by rfl) fun t3 bO h3 => ?_
    try walk_nrm
    refine r3_y M h3 rfl (by rfl) rfl fun t4 bz h4 => ?_
    try walk_nrm
    refine r3_sx M h4 (by rw [h4.k.x]; exact hns) rfl (by rfl) rfl (by rfl) (by rfl) fun t5 h5 => ?_
    try walk_nrm
    refine r3_sy M h5 (by rw [h5.k.x]; exact hns) rfl (by rfl) rfl (by rfl) (by rfl) fun t6 h6 => ?_
    try walk_nrm
    exact opsS_nil M ⟨by trivial, bO, bS, bx, bz, hfin _ _ _ _ _ h6, rfl⟩
  · refine r3_S M h0 rfl (by rfl) rfl (by rfl) fun t1 bS h1 => ?_
    try walk_nrm
    (refine opsS_look M rfl (by rfl) (fun w => by first | (simp [go_sem]; done) | fail) (fun w hs K hK => ?_); go_simp; refine hK _ ?_; clear hK K hs w; (try walk_nrm))
    refine r3_x M h1 rfl (by rfl) rfl fun t2 bx h2 => ?_
    try walk_nrm
    refine r3_y M h2 rfl (by rfl) rfl fun t3 bz h3 => ?_
    try walk_nrm
    refine r3_O M h3 hroom rfl (by rfl) rfl (by rfl) fun t4 bO h4 => ?_
    try walk_nrm
    refine r3_sx M h4 (by rw [h4.k.x]; exact hns) rfl (by rfl) rfl (by rfl) (by rfl) fun t5 h5 => ?_
    try walk_nrm
    refine r3_sy M h5 (by rw [h5.k.x]; exact hns) rfl (by rfl) rfl (by rfl) (by rfl) fun t6 h6 => ?_
    try walk_nrm
    exact opsS_nil M ⟨by trivial, bO, bS, bx, bz, hfin _ _ _ _ _ h6, rfl⟩
  · refine r3_S M h0 rfl (by rfl) rfl (by rfl) fun t1 bS h1 => ?_
    try walk_nrm
    (refine opsS_look M rfl (by rfl) (fun w => by first | (simp [go_sem]; done) | fail) (fun w hs K hK => ?_); go_simp; refine hK _ ?_; clear hK K hs w; (try walk_nrm))
    refine r3_y M h1 rfl (by rfl) rfl fun t2 bz h2 => ?_
    try walk_nrm
    refine r3_O M h2 hroom rfl (by rfl) rfl (by rfl) fun t3 bO h3 => ?_
    try walk_nrm
    refine r3_x M h3 rfl (by rfl) rfl fun t4 bx h4 => ?_
    try walk_nrm
    refine r3_sx M h4 (by rw [h4.k.x]; exact hns) rfl (by rfl) rfl (by rfl) (by rfl) fun t5 h5 => ?_
    try walk_nrm
    refine r3_sy M h5 (by rw [h5.k.x]; exact hns) rfl (by rfl) rfl (by rfl) (by rfl) fun t6 h6 => ?_
    try walk_nrm
    exact opsS_nil M ⟨by trivial, bO, bS, bx, bz, hfin _ _ _ _ _ h6, rfl⟩
  · refine r3_S M h0 rfl (by rfl) rfl (by rfl) fun t1 bS h1 => ?_
    try walk_nrm
    (refine opsS_look M rfl (by rfl) (fun w => by first | (simp [go_sem]; done) | fail) (fun w hs K hK => ?_); go_simp; refine hK _ ?_; clear hK K hs w; (try walk_nrm))
    refine r3_y M h1 rfl (by rfl) rfl fun t2 bz h2 => ?_
    try walk_nrm
    refine r3_x M h2 rfl (by rfl) rfl fun t3 bx h3 => ?_
    try walk_nrm
    refine r3_O M h3 hroom rfl (by rfl) rfl (by rfl) fun t4 bO h4 => ?_
    try walk_nrm
    refine r3_sx M h4 (by rw [h4.k.x]; exact hns) rfl (by rfl) rfl (by rfl) (by rfl) fun t5 h5 => ?_
    try walk_nrm
    refine r3_sy M h5 (by rw [h5.k.x]; exact hns) rfl (by rfl) rfl (by rfl) (by rfl) fun t6 h6 => ?_
    try walk_nrm
    exact opsS_nil M ⟨by trivial, bO, bS, bx, bz, hfin _ _ _ _ _ h6, rfl⟩
  · refine r3_S M h0 rfl (by rfl) rfl (by rfl) fun t1 bS h1 => ?_
    try walk_nrm
    refine r3_x M h1 rfl (by rfl) rfl fun t2 bx h2 => ?_
    try walk_nrm
    (refine opsS_look M rfl (by rfl) (fun w => by first | (simp [go_sem]; done) | fail) (fun w hs K hK => ?_); go_simp; refine hK _ ?_; clear hK K hs w; (try walk_nrm))
    refine r3_O M h2 hroom rfl (by rfl) rfl (by rfl) fun t3 bO h3 => ?_
    try walk_nrm
    refine r3_y M h3 rfl (by rfl) rfl fun t4 bz h4 => ?_
    try walk_nrm
    refine r3_sx M h4 (by rw [h4.k.x]; exact hns) rfl (by rfl) rfl (by rfl) (by rfl) fun t5 h5 => ?_
    try walk_nrm
    refine r3_sy M h5 (by rw [h5.k.x]; exact hns) rfl (by rfl) rfl (by rfl) (by rfl) fun t6 h6 => ?_
    try walk_nrm
    exact opsS_nil M ⟨by trivial, bO, bS, bx, bz, hfin _ _ _ _ _ h6, rfl⟩
  · refine r3_S M h0 rfl (by rfl) rfl (by rfl) fun t1 bS h1 => ?_
    try walk_nrm
    refine r3_x M h1 rfl (by rfl) rfl fun t2 bx h2 => ?_
    try walk_nrm
    (refine opsS_look M rfl (by rfl) (fun w => by first | (simp [go_sem]; done) | fail) (fun w hs K hK => ?_); go_simp; refine hK _ ?_; clear hK K hs w; (try walk_nrm))
    refine r3_y M h2 rfl (by rfl) rfl fun t3 bz h3 => ?_
    try walk_nrm
    refine r3_O M h3 hroom rfl (by rfl) rfl (by rfl) fun t4 bO h4 => ?_
    try walk_nrm
    refine r3_sx M h4 (by rw [h4.k.x]; exact hns) rfl (by rfl) rfl (by rfl) (by rfl) fun t5 h5 => ?_
    try walk_nrm
    refine r3_sy M h5 (by rw [h5.k.x]; exact hns) rfl (by rfl) rfl (by rfl) (by rfl) fun t6 h6 => ?_
    try walk_nrm
    exact opsS_nil M ⟨by trivial, bO, bS, bx, bz, hfin _ _ _ _ _ h6, rfl⟩
  · refine r3_S M h0 rfl (by rfl) rfl (by rfl) fun t1 bS h1 => ?_
    try walk_nrm
    refine r3_x M h1 rfl (by rfl) rfl fun t2 bx h2 => ?_
    try walk_nrm
    refine r3_y M h2 rfl (by rfl) rfl fun t3 bz h3 => ?_
    try walk_nrm
    (refine opsS_look M rfl (by rfl) (fun w => by first | (simp [go_sem]; done) | fail) (fun w hs K hK => ?_); go_simp; refine hK _ ?_; clear hK K hs w; (try walk_nrm))
    refine r3_O M h3 hroom rfl (by rfl) rfl (by rfl) fun t4 bO h4 => ?_
    try walk_nrm
    refine r3_sx M h4 (by rw [h4.k.x]; exact hns) rfl (by rfl) rfl (by rfl) (by rfl) fun t5 h5 => ?_
    try walk_nrm
    refine r3_sy M h5 (by rw [h5.k.x]; exact hns) rfl (by rfl) rfl (by rfl) (by rfl) fun t6 h6 => ?_
    try walk_nrm
    exact opsS_nil M ⟨by trivial, bO, bS, bx, bz, hfin _ _ _ _ _ h6, rfl⟩
  · refine r3_S M h0 rfl (by rfl) rfl (by rfl) fun t1 bS h1 => ?_
    try walk_nrm
    refine r3_y M h1 rfl (by rfl) rfl fun t2 bz h2 => ?_
    try walk_nrm
    (refine opsS_look M rfl (by rfl) (fun w => by first | (simp [go_sem]; done) | fail) (fun w hs K hK => ?_); go_simp; refine hK _ ?_; clear hK K hs w; (try walk_nrm))
    refine r3_O M h2 hroom rfl (by rfl) rfl (by rfl) fun t3 bO h3 => ?_
    try walk_nrm
    refine r3_x M h3 rfl (by rfl) rfl fun t4 bx h4 => ?_
    try walk_nrm
    refine r3_sx M h4 (by rw [h4.k.x]; exact hns) rfl (by rfl) rfl (by rfl) (by rfl) fun t5 h5 => ?_
    try walk_nrm
    refine r3_sy M h5 (by rw [h5.k.x]; exact hns) rfl (by rfl) rfl (by rfl) (by rfl) fun t6 h6 => ?_
    try walk_nrm
    exact opsS_nil M ⟨by trivial, bO, bS, bx, bz, hfin _ _ _ _ _ h6, rfl⟩
  · refine r3_S M h0 rfl (by rfl) rfl (by rfl) fun t1 bS h1 => ?_
    try walk_nrm
    refine r3_y M h1 rfl (by rfl) rfl fun t2 bz h2 => ?_
    try walk_nrm
    (refine opsS_look M rfl (by rfl) (fun w => by first | (simp [go_sem]; done) | fail) (fun w hs K hK => ?_); go_simp; refine hK _ ?_; clear hK K hs w; (try walk_nrm))
    refine r3_x M h2 rfl (by rfl) rfl fun t3 bx h3 => ?_
    try walk_nrm
    refine r3_O M h3 hroom rfl (by rfl) rfl (by rfl) fun t4 bO h4 => ?_
    try walk_nrm
    refine r3_sx M h4 (by rw [h4.k.x]; exact hns) rfl (by rfl) rfl (by rfl) (by rfl) fun t5 h5 => ?_
    try walk_nrm
    refine r3_sy M h5 (by rw [h5.k.x]; exact hns) rfl (by rfl) rfl (by rfl) (by rfl) fun t6 h6 => ?_
    try walk_nrm
    exact opsS_nil M ⟨by trivial, bO, bS, bx, bz, hfin _ _ _ _ _ h6, rfl⟩
  · refine r3_S M h0 rfl (by rfl) rfl (by rfl) fun t1 bS h1 => ?_
    try walk_nrm
    refine r3_y M h1 rfl (by rfl) rfl fun t2 bz h2 => ?_
    try walk_nrm
    refine r3_x M h2 rfl (by rfl) rfl fun t3 bx h3 => ?_
    try walk_nrm
    (refine opsS_look M rfl (by rfl) (fun w => by first | (simp [go_sem]; done) | fail) (fun w hs K hK => ?_); go_simp; refine hK _ ?_; clear hK K hs w; (try walk_nrm))
    refine r3_O M h3 hroom rfl (by rfl) rfl (by rfl) fun t4 bO h4 => ?_
    try walk_nrm
    refine r3_sx M h4 (by rw [h4.k.x]; exact hns) rfl (by rfl) rfl (by rfl) (by rfl) fun t5 h5 => ?_
    try walk_nrm
    refine r3_sy M h5 (by rw [h5.k.x]; exact hns) rfl (by rfl) rfl (by rfl) (by rfl) fun t6 h6 => ?_
    try walk_nrm
    exact opsS_nil M ⟨by trivial, bO, bS, bx, bz, hfin _ _ _ _ _ h6, rfl⟩
  · refine r3_x M h0 rfl (by rfl) rfl fun t1 bx h1 => ?_
    try walk_nrm
    (refine opsS_look M rfl (by rfl) (fun w => by first | (simp [go_sem]; done) | fail) (fun w hs K hK => ?_); go_simp; refine hK _ ?_; clear hK K hs w; (try walk_nrm))
    refine r3_O M h1 hroom rfl (by rfl) rfl (by rfl) fun t2 bO h2 => ?_
    try walk_nrm
    refine r3_S M h2 rfl (by rfl) rfl (by rfl) fun t3 bS h3 => ?_
    try walk_nrm
    refine r3_y M h3 rfl (by rfl) rfl fun t4 bz h4 => ?_
    try walk_nrm
    refine r3_sx M h4 (by rw [h4.k.x]; exact hns) rfl (by rfl) rfl (by rfl) (by rfl) fun t5 h5 => ?_
    try walk_nrm
    refine r3_sy M h5 (by rw [h5.k.x]; exact hns) rfl (by rfl) rfl (by rfl) (by rfl) fun t6 h6 => ?_
    try walk_nrm
    exact opsS_nil M ⟨by trivial, bO, bS, bx, bz, hfin _ _ _ _ _ h6, rfl⟩
  · refine r3_x M h0 rfl (by rfl) rfl fun t1 bx h1 => ?_
    try walk_nrm
    (refine opsS_look M rfl (by rfl) (fun w => by first | (simp [go_sem]; done) | fail) (fun w hs K hK => ?_); go_simp; refine hK _ ?_; clear hK K hs w; (try walk_nrm))
    refine r3_O M h1 hroom rfl (by rfl) rfl (by rfl) fun t2 bO h2 => ?_
    try walk_nrm
    refine r3_y M h2 rfl (by rfl) rfl fun t3 bz h3 => ?_
    try walk_nrm
    refine r3_S M h3 rfl (by rfl) rfl (by rfl) fun t4 bS h4 => ?_
    try walk_nrm
    refine r3_sx M h4 (by rw [h4.k.x]; exact hns) rfl (by rfl) rfl (by rfl) (by rfl) fun t5 h5 => ?_
    try walk_nrm
    refine r3_sy M h5 (by rw [h5.k.x]; exact hns) rfl (by rfl) rfl (by rfl) (by rfl) fun t6 h6 => ?_
    try walk_nrm
    exact opsS_nil M ⟨by trivial, bO, bS, bx, bz, hfin _ _ _ _ _ h6, rfl⟩
  · refine r3_x M h0 rfl (by rfl) rfl fun t1 bx h1 => ?_
    try walk_nrm
    (refine opsS_look M rfl (by rfl) (fun w => by first | (simp [go_sem]; done) | fail) (fun w hs K hK => ?_); go_simp; refine hK _ ?_; clear hK K hs w; (try walk_nrm))
    refine r3_O M h1 hroom rfl (by rfl) rfl (by rfl) fun t2 bO h2 => ?_
    try walk_nrm
    refine r3_y M h2 rfl (by rfl) rfl fun t3 bz h3 => ?_
    try walk_nrm
    refine r3_sx M h3 (by rw [h3.k.x]; exact hns) rfl (by rfl) rfl (by rfl) (by rfl) fun t4 h4 => ?_
    try walk_nrm
    refine r3_S M h4 rfl (by rfl) rfl (by rfl) fun t5 bS h5 => ?_
    try walk_nrm
    refine r3_sy M h5 (by rw [h5.k.x]; exact hns) rfl (by rfl) rfl (by rfl) (by rfl) fun t6 h6 => ?_
    try walk_nrm
    exact opsS_nil M ⟨by trivial, bO, bS, bx, bz, hfin _ _ _ _ _ h6, rfl⟩
  · refine r3_x M h0 rfl (by rfl) rfl fun t1 bx h1 => ?_
    try walk_nrm
    (refine opsS_look M rfl (by rfl) (fun w => by first | (simp [go_sem]; done) | fail) (fun w hs K hK => ?_); go_simp; refine hK _ ?_; clear hK K hs w; (try walk_nrm))
    refine r3_S M h1 rfl (by rfl) rfl (by rfl) fun t2 bS h2 => ?_
    try walk_nrm
    refine r3_O M h2 hroom rfl (by rfl) rfl (by rfl) fun t3 bO h3 => ?_
    try walk_nrm
    refine r3_y M h3 rfl (by rfl) rfl fun t4 bz h4 => ?_
    try walk_nrm
    refine r3_sx M h4 (by rw [h4.k.x]; exact hns) rfl (by rfl) rfl (by rfl) (by rfl) fun t5 h5 => ?_
    try walk_nrm
    refine r3_sy M h5 (by rw [h5.k.x]; exact hns) rfl (by rfl) rfl (by rfl) (by rfl) fun t6 h6 => ?_
    try walk_nrm
    exact opsS_nil M ⟨by trivial, bO, bS, bx, bz, hfin _ _ _ _ _ h6, rfl⟩
  · refine r3_x M h0 rfl (by rfl) rfl fun t1 bx h1 => ?_
    try walk_nrm
    (refine opsS_look M rfl (by rfl) (fun w => by first | (simp [go_sem]; done) | fail) (fun w hs K hK => ?_); go_simp; refine hK _ ?_; clear hK K hs w; (try walk_nrm))
    refine r3_S M h1 rfl (by rfl) rfl (by rfl) fun t2 bS h2 => ?_
    try walk_nrm
    refine r3_y M h2 rfl (by rfl) rfl fun t3 bz h3 => ?_
    try walk_nrm
    refine r3_O M h3 hroom rfl (by rfl) rfl (by rfl) fun t4 bO h4 => ?_
    try walk_nrm
    refine r3_sx M h4 (by rw [h4.k.x]; exact hns) rfl (by rfl) rfl (by rfl) (by rfl) fun t5 h5 => ?_
    try walk_nrm
    refine r3_sy M h5 (by rw [h5.k.x]; exact hns) rfl (by rfl) rfl (by rfl) (by rfl) fun t6 h6 => ?_
    try walk_nrm
    exact opsS_nil M ⟨by trivial, bO, bS, bx, bz, hfin _ _ _ _ _ h6, rfl⟩
  · refine r3_x M h0 rfl (by rfl) rfl fun t1 bx h1 => ?_
    try walk_nrm
    (refine opsS_look M rfl (by rfl) (fun w => by first | (simp [go_sem]; done) | fail) (fun w hs K hK => ?_); go_simp; refine hK _ ?_; clear hK K hs w; (try walk_nrm))
    refine r3_y M h1 rfl (by rfl) rfl fun t2 bz h2 => ?_
    try walk_nrm
    refine r3_O M h2 hroom rfl (by rfl) rfl (by rfl) fun t3 bO h3 => ?_
    try walk_nrm
    refine r3_S M h3 rfl (by rfl) rfl (by rfl) fun t4 bS h4 => ?_
    try walk_nrm
    refine r3_sx M h4 (by rw [h4.k.x]; exact hns) rfl (by rfl) rfl (by rfl) (by rfl) fun t5 h5 => ?_
    try walk_nrm
    refine r3_sy M h5 (by rw [h5.k.x]; exact hns) rfl (by rfl) rfl (by rfl) (by rfl) fun t6 h6 => ?_
    try walk_nrm
    exact opsS_nil M ⟨by trivial, bO, bS, bx, bz, hfin _ _ _ _ _ h6, rfl⟩
  · refine r3_x M h0 rfl (by rfl) rfl fun t1 bx h1 => ?_
    try walk_nrm
    (refine opsS_look M rfl (by rfl) (fun w => by first | (simp [go_sem]; done) | fail) (fun w hs K hK => ?_); go_simp; refine hK _ ?_; clear hK K hs w; (try walk_nrm))
    refine r3_y M h1 rfl (by rfl) rfl fun t2 bz h2 => ?_
    try walk_nrm
    refine r3_O M h2 hroom rfl (by rfl) rfl (by rfl) fun t3 bO h3 => ?_
    try walk_nrm
    refine r3_sx M h3 (by rw [h3.k.x]; exact hns) rfl (by rfl) rfl (by rfl) (by rfl) fun t4 h4 => ?_
    try walk_nrm
    refine r3_S M h4 rfl (by rfl) rfl (by rfl) fun t5 bS h5 => ?_
    try walk_nrm
    refine r3_sy M h5 (by rw [h5.k.x]; exact hns) rfl (by rfl) rfl (by rfl) (by rfl) fun t6 h6 => ?_
    try walk_nrm
    exact opsS_nil M ⟨by trivial, bO, bS, bx, bz, hfin _ _ _ _ _ h6, rfl⟩
  · refine r3_x M h0 rfl (by rfl) rfl fun t1 bx h1 => ?_
    try walk_nrm
    (refine opsS_look M rfl (by rfl) (fun w => by first | (simp [go_sem]; done) | fail) (fun w hs K hK => ?_); go_simp; refine hK _ ?_; clear hK K hs w; (try walk_nrm))
    refine r3_y M h1 rfl (by rfl) rfl fun t2 bz h2 => ?_
    try walk_nrm
    refine r3_S M h2 rfl (by rfl) rfl (by rfl) fun t3 bS h3 => ?_
    try walk_nrm
    refine r3_O M h3 hroom rfl (by rfl) rfl (by rfl) fun t4 bO h4 => ?_
    try walk_nrm
    refine r3_sx M h4 (by rw [h4.k.x]; exact hns) rfl (by rfl) rfl (by rfl) (by rfl) fun t5 h5 => ?_
    try walk_nrm
    refine r3_sy M h5 (by rw [h5.k.x]; exact hns) rfl (by rfl) rfl (by rfl) (by rfl) fun t6 h6 => ?_
    try walk_nrm
    exact opsS_nil M ⟨by trivial, bO, bS, bx, bz, hfin _ _ _ _ _ h6, rfl⟩
  · refine r3_x M h0 rfl (by rfl) rfl fun t1 bx h1 => ?_
    try walk_nrm
    refine r3_S M h1 rfl (by rfl) rfl (by rfl) fun t2 bS h2 => ?_
    try walk_nrm
    (refine opsS_look M rfl (by rfl) (fun w => by first | (simp [go_sem]; done) | fail) (fun w hs K hK => ?_); go_simp; refine hK _ ?_; clear hK K hs w; (try walk_nrm))
    refine r3_O M h2 hroom rfl (by rfl) rfl (by rfl) fun t3 bO h3 => ?_
    try walk_nrm
    refine r3_y M h3 rfl (by rfl) rfl fun t4 bz h4 => ?_
    try walk_nrm
    refine r3_sx M h4 (by rw [h4.k.x]; exact hns) rfl (by rfl) rfl (by rfl) (by rfl) fun t5 h5 => ?_
    try walk_nrm
    refine r3_sy M h5 (by rw [h5.k.x]; exact hns) rfl (by rfl) rfl (by rfl) (by rfl) fun t6 h6 => ?_
    try walk_nrm
    exact opsS_nil M ⟨by trivial, bO, bS, bx, bz, hfin _ _ _ _ _ h6, rfl⟩
  · refine r3_x M h0 rfl (by rfl) rfl fun t1 bx h1 => ?_
    try walk_nrm
    refine r3_S M h1 rfl (by rfl) rfl (by rfl) fun t2 bS h2 => ?_
    try walk_nrm
    (refine opsS_look M rfl (by rfl) (fun w => by first | (simp [go_sem]; done) | fail) (fun w hs K hK => ?_); go_simp; refine hK _ ?_; clear hK K hs w; (try walk_nrm))
    refine r3_y M h2 rfl (by rfl) rfl fun t3 bz h3 => ?_
    try walk_nrm
    refine r3_O M h3 hroom rfl (by rfl) rfl (by rfl) fun t4 bO h4 => ?_
    try walk_nrm
    refine r3_sx M h4 (by rw [h4.k.x]; exact hns) rfl (by rfl) rfl (by rfl) (by rfl) fun t5 h5 => ?_
    try walk_nrm
    refine r3_sy M h5 (by rw [h5.k.x]; exact hns) rfl (by rfl) rfl (by rfl) (by rfl) fun t6 h6 => ?_
    try walk_nrm
    exact opsS_nil M ⟨by trivial, bO, bS, bx, bz, hfin _ _ _ _ _ h6, rfl⟩
  · refine r3_x M h0 rfl (by rfl) rfl fun t1 bx h1 => ?_
    try walk_nrm
    refine r3_S M h1 rfl (by rfl) rfl (by rfl) fun t2 bS h2 => ?_
    try walk_nrm
    refine r3_y M h2 rfl (by rfl) rfl fun t3 bz h3 => ?_
    try walk_nrm
    (refine opsS_look M rfl (by rfl) (fun w => by first | (simp [go_sem]; done) | fail) (fun w hs K hK => ?_); go_simp; refine hK _ ?_; clear hK K hs w; (try walk_nrm))
    refine r3_O M h3 hroom rfl (by rfl) rfl (by rfl) fun t4 bO h4 => ?_
    try walk_nrm
    refine r3_sx M h4 (by rw [h4.k.x]; exact hns) rfl (by rfl) rfl (by rfl) (by rfl) fun t5 h5 => ?_
    try walk_nrm
    refine r3_sy M h5 (by rw [h5.k.x]; exact hns) rfl (by rfl) rfl (by rfl) (by rfl) fun t6 h6 => ?_
    try walk_nrm
    exact opsS_nil M ⟨by trivial, bO, bS, bx, bz, hfin _ _ _ _ _ h6, rfl⟩
  · refine r3_x M h0 rfl (by rfl) rfl fun t1 bx h1 => ?_
    try walk_nrm
    refine r3_y M h1 rfl (by rfl) rfl fun t2 bz h2 => ?_
    try walk_nrm
    (refine opsS_look M rfl (by rfl) (fun w => by first | (simp [go_sem]; done) | fail) (fun w hs K hK => ?_); go_simp; refine hK _ ?_; clear hK K hs w; (try walk_nrm))
    refine r3_O M h2 hroom rfl (by rfl) rfl (by rfl) fun t3 bO h3 => ?_
    try walk_nrm
    refine r3_S M h3 rfl (by rfl) rfl (by rfl) fun t4 bS h4 => ?_
    try walk_nrm
    refine r3_sx M h4 (by rw [h4.k.x]; exact hns) rfl (by rfl) rfl (by rfl) (by rfl) fun t5 h5 => ?_
    try walk_nrm
    refine r3_sy M h5 (by rw [h5.k.x]; exact hns) rfl (by rfl) rfl (by rfl) (by rfl) fun t6 h6 => ?_
    try walk_nrm
    exact opsS_nil M ⟨by trivial, bO, bS, bx, bz, hfin _ _ _ _ _ h6, rfl⟩
  · refine r3_x M h0 rfl (by rfl) rfl fun t1 bx h1 => ?_
    try walk_nrm
    refine r3_y M h1 rfl (by rfl) rfl fun t2 bz h2 => ?_
    try walk_nrm
    (refine opsS_look M rfl (by rfl) (fun w => by first | (simp [go_sem]; done) | fail) (fun w hs K hK => ?_); go_simp; refine hK _ ?_; clear hK K hs w; (try walk_nrm))
    refine r3_O M h2 hroom rfl (by rfl) rfl (by rfl) fun t3 bO h3 => ?_
    try walk_nrm
    refine r3_sx M h3 (by rw [h3.k.x]; exact hns) rfl (by rfl) rfl (by rfl) (by rfl) fun t4 h4 => ?_
    try walk_nrm
    refine r3_S M h4 rfl (by rfl) rfl (by rfl) fun t5 bS h5 => ?_
    try walk_nrm
    refine r3_sy M h5 (by rw [h5.k.x]; exact hns) rfl (by rfl) rfl (by rfl) (by rfl) fun t6 h6 => ?_
    try walk_nrm
    exact opsS_nil M ⟨by trivial, bO, bS, bx, bz, hfin _ _ _ _ _ h6, rfl⟩
  · refine r3_x M h0 rfl (by rfl) rfl fun t1 bx h1 => ?_
    try walk_nrm
    refine r3_y M h1 rfl (by rfl) rfl fun t2 bz h2 => ?_
    try walk_nrm
    (refine opsS_look M rfl (by rfl) (fun w => by first | (simp [go_sem]; done) | fail) (fun w hs K hK => ?_); go_simp; refine hK _ ?_; clear hK K hs w; (try walk_nrm))
    refine r3_S M h2 rfl (by rfl) rfl (by rfl) fun t3 bS h3 => ?_
    try walk_nrm
    refine r3_O M h3 hroom rfl (by rfl) rfl (by rfl) fun t4 bO h4 => ?_
    try walk_nrm
    refine r3_sx M h4 (by rw [h4.k.x]; exact hns) rfl (by rfl) rfl (by rfl) (by rfl) fun t5 h5 => ?_
    try walk_nrm
    refine r3_sy M h5 (by rw [h5.k.x]; exact hns) rfl (by rfl) rfl (by rfl) (by rfl) fun t6 h6 => ?_
    try walk_nrm
    exact opsS_nil M ⟨by trivial, bO, bS, bx, bz, hfin _ _ _ _ _ h6, rfl⟩
  · refine r3_x M h0 rfl (by rfl) rfl fun t1 bx h1 => ?_
    try walk_nrm
    refine r3_y M h1 rfl (by rfl) rfl fun t2 bz h2 => ?_
    try walk_nrm
    refine r3_S M h2 rfl (by rfl) rfl (by rfl) fun t3 bS h3 => ?_
    try walk_nrm
    (refine opsS_look M rfl (by rfl) (fun w => by first | (simp [go_sem]; done) | fail) (fun w hs K hK => ?_); go_simp; refine hK _ ?_; clear hK K hs w; (try walk_nrm))
    refine r3_O M h3 hroom rfl (by rfl) rfl (by rfl) fun t4 bO h4 => ?_
    try walk_nrm
    refine r3_sx M h4 (by rw [h4.k.x]; exact hns) rfl (by rfl) rfl (by rfl) (by rfl) fun t5 h5 => ?_
    try walk_nrm
    refine r3_sy M h5 (by rw [h5.k.x]; exact hns) rfl (by rfl) rfl (by rfl) (by rfl) fun t6 h6 => ?_
    try walk_nrm
    exact opsS_nil M ⟨by trivial, bO, bS, bx, bz, hfin _ _ _ _ _ h6, rfl⟩
  · refine r3_y M h0 rfl (by rfl) rfl fun t1 bz h1 => ?_
    try walk_nrm
    (refine opsS_look M rfl (by rfl) (fun w => by first | (simp [go_sem]; done) | fail) (fun w hs K hK => ?_); go_simp; refine hK _ ?_; clear hK K hs w; (try walk_nrm))
    refine r3_O M h1 hroom rfl (by rfl) rfl (by rfl) fun t2 bO h2 => ?_
    try walk_nrm
    refine r3_S M h2 rfl (by rfl) rfl (by rfl) fun t3 bS h3 => ?_
    try walk_nrm
    refine r3_x M h3 rfl (by rfl) rfl fun t4 bx h4 => ?_
    try walk_nrm
    refine r3_sx M h4 (by rw [h4.k.x]; exact hns) rfl (by rfl) rfl (by rfl) (by rfl) fun t5 h5 => ?_
    try walk_nrm
    refine r3_sy M h5 (by rw [h5.k.x]; exact hns) rfl (by rfl) rfl (by rfl) (by rfl) fun t6 h6 => ?_
    try walk_nrm
    exact opsS_nil M ⟨by trivial, bO, bS, bx, bz, hfin _ _ _ _ _ h6, rfl⟩
  · refine r3_y M h0 rfl (by rfl) rfl fun t1 bz h1 => ?_
    try walk_nrm
    (refine opsS_look M rfl (by rfl) (fun w => by first | (simp [go_sem]; done) | fail) (fun w hs K hK => ?_); go_simp; refine hK _ ?_; clear hK K hs w; (try walk_nrm))
    refine r3_O M h1 hroom rfl (by rfl) rfl (by rfl) fun t2 bO h2 => ?_
    try walk_nrm
    refine r3_x M h2 rfl (by rfl) rfl fun t3 bx h3 => ?_
    try walk_nrm
    refine r3_S M h3 rfl (by rfl) rfl (by rfl) fun t4 bS h4 => ?_
    try walk_nrm
    refine r3_sx M h4 (by rw [h4.k.x]; exact hns) rfl (by rfl) rfl (by rfl) (by rfl) fun t5 h5 => ?_
    try walk_nrm
    refine r3_sy M h5 (by rw [h5.k.x]; exact hns) rfl (by rfl) rfl (by rfl) (by rfl) fun t6 h6 => ?_
    try walk_nrm
    exact opsS_nil M ⟨by trivial, bO, bS, bx, bz, hfin _ _ _ _ _ h6, rfl⟩
  · refine r3_y M h0 rfl (by rfl) rfl fun t1 bz h1 => ?_
    try walk_nrm
    (refine opsS_look M rfl (by rfl) (fun w => by first | (simp [go_sem]; done) | fail) (fun w hs K hK => ?_); go_simp; refine hK _ ?_; clear hK K hs w; (try walk_nrm))
    refine r3_O M h1 hroom rfl (by rfl) rfl (by rfl) fun t2 bO h2 => ?_
    try walk_nrm
    refine r3_x M h2 rfl (by rfl) rfl fun t3 bx h3 => ?_
    try walk_nrm
    refine r3_sx M h3 (by rw [h3.k.x]; exact hns) rfl (by rfl) rfl (by rfl) (by rfl) fun t4 h4 => ?_
    try walk_nrm
    refine r3_S M h4 rfl (by rfl) rfl (by rfl) fun t5 bS h5 => ?_
    try walk_nrm
    refine r3_sy M h5 (by rw [h5.k.x]; exact hns) rfl (by rfl) rfl (by rfl) (by rfl) fun t6 h6 => ?_
    try walk_nrm
    exact opsS_nil M ⟨by trivial, bO, bS, bx, bz, hfin _ _ _ _ _ h6, rfl⟩
  · refine r3_y M h0 rfl (by rfl) rfl fun t1 bz h1 => ?_
    try walk_nrm
    (refine opsS_look M rfl (by rfl) (fun w => by first | (simp [go_sem]; done) | fail) (fun w hs K hK => ?_); go_simp; refine hK _ ?_; clear hK K hs w; (try walk_nrm))
    refine r3_S M h1 rfl (by rfl) rfl (by rfl) fun t2 bS h2 => ?_
    try walk_nrm
    refine r3_O M h2 hroom rfl (by rfl) rfl (by rfl) fun t3 bO h3 => ?_
    try walk_nrm
    refine r3_x M h3 rfl (by rfl) rfl fun t4 bx h4 => ?_
    try walk_nrm
    refine r3_sx M h4 (by rw [h4.k.x]; exact hns) rfl (by rfl) rfl (by rfl) (by rfl) fun t5 h5 => ?_
    try walk_nrm
    refine r3_sy M h5 (by rw [h5.k.x]; exact hns) rfl (by rfl) rfl (by rfl) (by rfl) fun t6 h6 => ?_
    try walk_nrm
    exact opsS_nil M ⟨by trivial, bO, bS, bx, bz, hfin _ _ _ _ _ h6, rfl⟩
  · refine r3_y M h0 rfl (by rfl) rfl fun t1 bz h1 => ?_
    try walk_nrm
    (refine opsS_look M rfl (by rfl) (fun w => by first | (simp [go_sem]; done) | fail) (fun w hs K hK => ?_); go_simp; refine hK _ ?_; clear hK K hs w; (try walk_nrm))
    refine r3_S M h1 rfl (by rfl) rfl (by rfl) fun t2 bS h2 => ?_
    try walk_nrm
    refine r3_x M h2 rfl (by rfl) rfl fun t3 bx h3 => ?_
    try walk_nrm
    refine r3_O M h3 hroom rfl (by rfl) rfl (by rfl) fun t4 bO h4 => ?_
    try walk_nrm
    refine r3_sx M h4 (by rw [h4.k.x]; exact hns) rfl (by rfl) rfl (by rfl) (by rfl) fun t5 h5 => ?_
    try walk_nrm
    refine r3_sy M h5 (by rw [h5.k.x]; exact hns) rfl (by rfl) rfl (by rfl) (by rfl) fun t6 h6 => ?_
    try walk_nrm
    exact opsS_nil M ⟨by trivial, bO, bS, bx, bz, hfin _ _ _ _ _ h6, rfl⟩
  · refine r3_y M h0 rfl (by rfl) rfl fun t1 bz h1 => ?_
    try walk_nrm
    (refine opsS_look M rfl (by rfl) (fun w => by first | (simp [go_sem]; done) | fail) (fun w hs K hK => ?_); go_simp; refine hK _ ?_; clear hK K hs w; (try walk_nrm))
    refine r3_x M h1 rfl (by rfl) rfl fun t2 bx h2 => ?_
    try walk_nrm
    refine r3_O M h2 hroom rfl (by rfl) rfl (by rfl) fun t3 bO h3 => ?_
    try walk_nrm
    refine r3_S M h3 rfl (by rfl) rfl (by rfl) fun t4 bS h4 => ?_
    try walk_nrm
    refine r3_sx M h4 (by rw [h4.k.x]; exact hns) rfl (by rfl) rfl (by rfl) (by rfl) fun t5 h5 => ?_
    try walk_nrm
    refine r3_sy M h5 (by rw [h5.k.x]; exact hns) rfl (by rfl) rfl (by rfl) (by rfl) fun t6 h6 => ?_
    try walk_nrm
    exact opsS_nil M ⟨by trivial, bO, bS, bx, bz, hfin _ _ _ _ _ h6, rfl⟩
  · refine r3_y M h0 rfl (by rfl) rfl fun t1 bz h1 => ?_
    try walk_nrm
    (refine opsS_look M rfl (by rfl) (fun w => by first | (simp [go_sem]; done) | fail) (fun w hs K hK => ?_); go_simp; refine hK _ ?_; clear hK K hs w; (try walk_nrm))
    refine r3_x M h1 rfl (by rfl) rfl fun t2 bx h2 => ?_
    try walk_nrm
    refine r3_O M h2 hroom rfl (by rfl) rfl (by rfl) fun t3 bO h3 => ?_
    try walk_nrm
    refine r3_sx M h3 (by rw [h3.k.x]; exact hns) rfl (by rfl) rfl (by rfl) (by rfl) fun t4 h4 => ?_
    try walk_nrm
    refine r3_S M h4 rfl (by rfl) rfl (by rfl) fun t5 bS h5 => ?_
    try walk_nrm
    refine r3_sy M h5 (by rw [h5.k.x]; exact hns) rfl (by rfl) rfl (by rfl) (by rfl) fun t6 h6 => ?_
    try walk_nrm
    exact opsS_nil M ⟨by trivial, bO, bS, bx, bz, hfin _ _ _ _ _ h6, rfl⟩
  · refine r3_y M h0 rfl (by rfl) rfl fun t1 bz h1 => ?_
    try walk_nrm
    (refine opsS_look M rfl (by rfl) (fun w => by first | (simp [go_sem]; done) | fail) (fun w hs K hK => ?_); go_simp; refine hK _ ?_; clear hK K hs w; (try walk_nrm))
    refine r3_x M h1 rfl (by rfl) rfl fun t2 bx h2 => ?_
    try walk_nrm
    refine r3_S M h2 rfl (by rfl) rfl (by rfl) fun t3 bS h3 => ?_
    try walk_nrm
    refine r3_O M h3 hroom rfl (by rfl) rfl (by rfl) fun t4 bO h4 => ?_
    try walk_nrm
    refine r3_sx M h4 (by rw [h4.k.x]; exact hns) rfl (by rfl) rfl (by rfl) (by rfl) fun t5 h5 => ?_
    try walk_nrm
    refine r3_sy M h5 (by rw [h5.k.x]; exact hns) rfl (by rfl) rfl (by rfl) (by rfl) fun t6 h6 => ?_
    try walk_nrm
    exact opsS_nil M ⟨by trivial, bO, bS, bx, bz, hfin _ _ _ _ _ h6, rfl⟩
  · refine r3_y M h0 rfl (by rfl) rfl fun t1 bz h1 => ?_
    try walk_nrm
    refine r3_S M h1 rfl (by rfl) rfl (by rfl) fun t2 bS h2 => ?_
    try walk_nrm
    (refine opsS_look M rfl (by rfl) (fun w => by first | (simp [go_sem]; done) | fail) (fun w hs K hK => ?_); go_simp; refine hK _ ?_; clear hK K hs w; (try walk_nrm))
    refine r3_O M h2 hroom rfl (by rfl) rfl (by rfl) fun t3 bO h3 => ?_
    try walk_nrm
    refine r3_x M h3 rfl (by rfl) rfl fun t4 bx h4 => ?_
    try walk_nrm
    refine r3_sx M h4 (by rw [h4.k.x]; exact hns) rfl (by rfl) rfl (by rfl) (by rfl) fun t5 h5 => ?_
    try walk_nrm
    refine r3_sy M h5 (by rw [h5.k.x]; exact hns) rfl (by rfl) rfl (by rfl) (by rfl) fun t6 h6 => ?_
    try walk_nrm
    exact opsS_nil M ⟨by trivial, bO, bS, bx, bz, hfin _ _ _ _ _ h6, rfl⟩
  · refine r3_y M h0 rfl (by rfl) rfl fun t1 bz h1 => ?_
    try walk_nrm
    refine r3_S M h1 rfl (by rfl) rfl (by rfl) fun t2 bS h2 => ?_
    try walk_nrm
    (refine opsS_look M rfl (by rfl) (fun w => by first | (simp [go_sem]; done) | fail) (fun w hs K hK => ?_); go_simp; refine hK _ ?_; clear hK K hs w; (try walk_nrm))
    refine r3_x M h2 rfl (by rfl) rfl fun t3 bx h3 => ?_
    try walk_nrm
    refine r3_O M h3 hroom rfl (by rfl) rfl (by rfl) fun t4 bO h4 => ?_
    try walk_nrm
    refine r3_sx M h4 (by rw [h4.k.x]; exact hns) rfl (by rfl) rfl (by rfl) (by rfl) fun t5 h5 => ?_
    try walk_nrm
    refine r3_sy M h5 (by rw [h5.k.x]; exact hns) rfl (by rfl) rfl (by rfl) (by rfl) fun t6 h6 => ?_
    try walk_nrm
    exact opsS_nil M ⟨by trivial, bO, bS, bx, bz, hfin _ _ _ _ _ h6, rfl⟩
  · refine r3_y M h0 rfl (by rfl) rfl fun t1 bz h1 => ?_
    try walk_nrm
    refine r3_S M h1 rfl (by rfl) rfl (by rfl) fun t2 bS h2 => ?_
    try walk_nrm
    refine r3_x M h2 rfl (by rfl) rfl fun t3 bx h3 => ?_
    try walk_nrm
    (refine opsS_look M rfl (by rfl) (fun w => by first | (simp [go_sem]; done) | fail) (fun w hs K hK => ?_); go_simp; refine hK _ ?_; clear hK K hs w; (try walk_nrm))
    refine r3_O M h3 hroom rfl (by rfl) rfl (by rfl) fun t4 bO h4 => ?_
    try walk_nrm
    refine r3_sx M h4 (by rw [h4.k.x]; exact hns) rfl (by rfl) rfl (by rfl) (by rfl) fun t5 h5 => ?_
    try walk_nrm
    refine r3_sy M h5 (by rw [h5.k.x]; exact hns) rfl (by rfl) rfl (by rfl) (by rfl) fun t6 h6 => ?_
    try walk_nrm
    exact opsS_nil M ⟨by trivial, bO, bS, bx, bz, hfin _ _ _ _ _ h6, rfl⟩
  · refine r3_y M h0 rfl (by rfl) rfl fun t1 bz h1 => ?_
    try walk_nrm
    refine r3_x M h1 rfl (by rfl) rfl fun t2 bx h2 => ?_
    try walk_nrm
    (refine opsS_look M rfl (by rfl) (fun w => by first | (simp [go_sem]; done) | fail) (fun w hs K hK => ?_); go_simp; refine hK _ ?_; clear hK K hs w; (try walk_nrm))
    refine r3_O M h2 hroom rfl (by rfl) rfl (by rfl) fun t3 bO h3 => ?_
    try walk_nrm
    refine r3_S M h3 rfl (by rfl) rfl (by rfl) fun t4 bS h4 => ?_
    try walk_nrm
    refine r3_sx M h4 (by rw [h4.k.x]; exact hns) rfl (by rfl) rfl (by rfl) (by rfl) fun t5 h5 => ?_
    try walk_nrm
    refine r3_sy M h5 (by rw [h5.k.x]; exact hns) rfl (by rfl) rfl (by rfl) (by rfl) fun t6 h6 => ?_
    try walk_nrm
    exact opsS_nil M ⟨by trivial, bO, bS, bx, bz, hfin _ _ _ _ _ h6, rfl⟩
  · refine r3_y M h0 rfl (by rfl) rfl fun t1 bz h1 => ?_
    try walk_nrm
    refine r3_x M h1 rfl (by rfl) rfl fun t2 bx h2 => ?_
    try walk_nrm
    (refine opsS_look M rfl (by rfl) (fun w => by first | (simp [go_sem]; done) | fail) (fun w hs K hK => ?_); go_simp; refine hK _ ?_; clear hK K hs w; (try walk_nrm))
    refine r3_O M h2 hroom rfl (by rfl) rfl (by rfl) fun t3 bO h3 => ?_
    try walk_nrm
    refine r3_sx M h3 (by rw [h3.k.x]; exact hns) rfl (by rfl) rfl (by rfl) (by rfl) fun t4 h4 => ?_
    try walk_nrm
    refine r3_S M h4 rfl (by rfl) rfl (by rfl) fun t5 bS h5 => ?_
    try walk_nrm
    refine r3_sy M h5 (by rw [h5.k.x]; exact hns) rfl (by rfl) rfl (by rfl) (by rfl) fun t6 h6 => ?_
    try walk_nrm
    exact opsS_nil M ⟨by trivial, bO, bS, bx, bz, hfin _ _ _ _ _ h6, rfl⟩
  · refine r3_y M h0 rfl (by rfl) rfl fun t1 bz h1 => ?_
    try walk_nrm
    refine r3_x M h1 rfl (by rfl) rfl fun t2 bx h2 => ?_
    try walk_nrm
    (refine opsS_look M rfl (by rfl) (fun w => by first | (simp [go_sem]; done) | fail) (fun w hs K hK => ?_); go_simp; refine hK _ ?_; clear hK K hs w; (try walk_nrm))
    refine r3_S M h2 rfl (by rfl) rfl (by rfl) fun t3 bS h3 => ?_
    try walk_nrm
    refine r3_O M h3 hroom rfl (by rfl) rfl (by rfl) fun t4 bO h4 => ?_
    try walk_nrm
    refine r3_sx M h4 (by rw [h4.k.x]; exact hns) rfl (by rfl) rfl (by rfl) (by rfl) fun t5 h5 => ?_
    try walk_nrm
    refine r3_sy M h5 (by rw [h5.k.x]; exact hns) rfl (by rfl) rfl (by rfl) (by rfl) fun t6 h6 => ?_
    try walk_nrm
    exact opsS_nil M ⟨by trivial, bO, bS, bx, bz, hfin _ _ _ _ _ h6, rfl⟩
  · refine r3_y M h0 rfl (by rfl) rfl fun t1 bz h1 => ?_
    try walk_nrm
    refine r3_x M h1 rfl (by rfl) rfl fun t2 bx h2 => ?_
    try walk_nrm
    refine r3_S M h2 rfl (by rfl) rfl (by rfl) fun t3 bS h3 => ?_
    try walk_nrm
    (refine opsS_look M rfl (by rfl) (fun w => by first | (simp [go_sem]; done) | fail) (fun w hs K hK => ?_); go_simp; refine hK _ ?_; clear hK K hs w; (try walk_nrm))
    refine r3_O M h3 hroom rfl (by rfl) rfl (by rfl) fun t4 bO h4 => ?_
    try walk_nrm
    refine r3_sx M h4 (by rw [h4.k.x]; exact hns) rfl (by rfl) rfl (by rfl) (by rfl) fun t5 h5 => ?_
    try walk_nrm
    refine r3_sy M h5 (by rw [h5.k.x]; exact hns) rfl (by rfl) rfl (by rfl) (by rfl) fun t6 h6 => ?_
    try walk_nrm
    exact opsS_nil M ⟨by trivial, bO, bS, bx, bz, hfin _ _ _ _ _ h6, rfl⟩
end

end Go.Proofs.Ytdmhgajamepgoaa.Q
