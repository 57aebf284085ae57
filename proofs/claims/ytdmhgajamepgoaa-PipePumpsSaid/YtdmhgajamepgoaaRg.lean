/-
  OWN TEXT. PIPE: RULES, (4): rows; calls of a function value; loops with a ghost; the worker's acts.
-/
import Derived.Test.YtdmhgajamepgoaaRf
import Derived.Laws.BitsLemmas
set_option linter.unusedVariables false
set_option linter.unusedSimpArgs false
set_option linter.unusedSectionVars false
namespace Go.Proofs.Ytdmhgajamepgoaa.Q
open Go Go.Conc

theorem w1 (n : Nat) (h : n < 9223372036854775807) : IntKind.i64.wrap ((n : Int) + 1) = (n : Int) + 1 := by rw [IntKind.wrap_i64]; omega
/-- A fact laid aside (simp does not see it). -/
structure Hid (p : Prop) : Prop where out : p
/-- A cell that may be read: a chunk's, or one of a block below. -/
def RD (B : World) (s : List Chunk) (b j : Nat) (u : Value) : Prop :=
  (∃ C ty own, (⟨b, .cells C ty, own⟩ : Chunk) ∈ s ∧ C[j]? = some u) ∨ (∃ C ty fr, B.heap[b]? = some (.cells C ty fr) ∧ C[j]? = some u)
/-- A slice that reads as L. -/
def RowAt (B : World) (s : List Chunk) (v : Value) (L : List Value) : Prop :=
  ∃ a cap, v = .slice a L.length cap ∧ ∀ j u, L[j]? = some u → ∃ b o, a = some ⟨b, o, none⟩ ∧ RD B s b (o + j) u

theorem RD.mono {B : World} {s s' : List Chunk} {b j : Nat} {u : Value} (h : RD B s b j u) (hs : ∀ c ∈ s, c ∈ s') : RD B s' b j u :=
  h.imp (fun ⟨C, ty, own, hc, hj⟩ => ⟨C, ty, own, hs _ hc, hj⟩) id
theorem RowAt.mono {B : World} {s s' : List Chunk} {v : Value} {L : List Value} (h : RowAt B s v L) (hs : ∀ c ∈ s, c ∈ s') : RowAt B s' v L := by
  obtain ⟨a, cap, hv, h⟩ := h
  exact ⟨a, cap, hv, fun j u hj => let ⟨b, o, e, hr⟩ := h j u hj; ⟨b, o, e, hr.mono hs⟩⟩
/-- Rows whose chunks, if any, are not one's own. -/
def RDs (B : World) (s : List Chunk) (b j : Nat) (u : Value) : Prop :=
  (∃ C ty, (⟨b, .cells C ty, false⟩ : Chunk) ∈ s ∧ C[j]? = some u) ∨ (∃ C ty fr, B.heap[b]? = some (.cells C ty fr) ∧ C[j]? = some u)
def RowS (B : World) (s : List Chunk) (v : Value) (L : List Value) : Prop :=
  ∃ a cap, v = .slice a L.length cap ∧ ∀ j u, L[j]? = some u → ∃ b o, a = some ⟨b, o, none⟩ ∧ RDs B s b (o + j) u
theorem RDs.rd {B : World} {s : List Chunk} {b j : Nat} {u : Value} (h : RDs B s b j u) : RD B s b j u := h.imp (fun ⟨C, ty, hc, hj⟩ => ⟨C, ty, false, hc, hj⟩) id
theorem RDs.mono {B : World} {s s' : List Chunk} {b j : Nat} {u : Value} (h : RDs B s b j u) (hs : ∀ c ∈ s, c.own = false → c ∈ s') : RDs B s' b j u := h.imp (fun ⟨C, ty, hc, hj⟩ => ⟨C, ty, hs _ hc rfl, hj⟩) id
theorem RowS.row {B : World} {s : List Chunk} {v : Value} {L : List Value} (h : RowS B s v L) : RowAt B s v L := by
  obtain ⟨a, cap, hv, h⟩ := h
  exact ⟨a, cap, hv, fun j u hj => let ⟨b, o, e, hr⟩ := h j u hj; ⟨b, o, e, hr.rd⟩⟩
theorem RowS.mono {B : World} {s s' : List Chunk} {v : Value} {L : List Value} (h : RowS B s v L) (hs : ∀ c ∈ s, c.own = false → c ∈ s') : RowS B s' v L := by
  obtain ⟨a, cap, hv, h⟩ := h
  exact ⟨a, cap, hv, fun j u hj => let ⟨b, o, e, hr⟩ := h j u hj; ⟨b, o, e, hr.imp (fun ⟨C, ty, hc, hj⟩ => ⟨C, ty, hs _ hc rfl, hj⟩) id⟩⟩

section
variable {X : Type} {P : Program} {main : Bool} {B : World} {Mv : MvT X} {strict : X → Prop} (M : Moves P main B strict Mv) {fn : FuncId} {Q : Exit → Act → Tau X → Prop} {a : Act} {t : Tau X}
include M

/-- One cell read, of a chunk or below. -/
theorem opsS_ldR {ops : Array Oper} {i : Nat} {rest : List Nat} {o : Oper} {b j : Nat} {u : Value} (hr : RD B t.sg b j u) (ho : ops[i]? = some o) (hw : Region.wanted o (yielded ops a.tmps) = true) (hns : ¬ strict t.x)
    (he : ∀ w : World, w.cell? ⟨b, j, none⟩ = some u → ∀ e ∈ (execOp a.eval o).events P w #[], ∃ j, e = ⟨.cell ⟨b, j, none⟩, false, false⟩)
    (h : ∀ w : World, w.cell? ⟨b, j, none⟩ = some u → ∀ K : Act → World → Prop, (∀ a', OpsS Mv fn ops rest Q a' t → K a' w) → uponK o a K ((execOp a.eval o).run P w)) : OpsS Mv fn ops (i :: rest) Q a t := by
  rcases hr with ⟨C, ty, own, hc, hj⟩ | ⟨C, ty, fr, hc, hj⟩
  · exact opsS_ld M hc hj ho hw hns he h
  · exact opsS_ldB M hc hj ho hw hns he h

/-- THROUGH A CALL OF A FUNCTION VALUE. -/
theorem opsS_callf {ops : Array Oper} {i : Nat} {rest : List Nat} {o : Oper} {x : Operand} {f : FuncId} {fu : Func} {args : Array Operand} {ats : Array TypeId} {caps vs : Array Value} {Post : Value → Tau X → Prop}
    (ho : ops[i]? = some o) (hw : Region.wanted o (yielded ops a.tmps) = true) (hop : o.op = .call { callee := .value x, args, argTypes := ats }) (hx : a.eval x = .func (.func f) #[] caps)
    (hf : P.funcs[f]? = some fu) (hname : (fu.name == "runtime.NumGoroutine") = false) (hb : fu.body.isNone = false)
    (hcall : CallsS Mv P f vs t Post) (hargs : args.map a.eval ++ caps = vs) (hnext : ∀ v t', Post v t' → OpsS Mv fn ops rest Q (a.put o.dst v) t') : OpsS Mv fn ops (i :: rest) Q a t := by
  intro b k cs hbf hk hc
  have h1 : ¬ fu.name = "runtime.NumGoroutine" := by simpa using hname
  have h2 : ¬ fu.body = none := by cases hx : fu.body <;> simp_all
  have hr : ∀ w, (execOp a.eval o).run P w = .ok (.enter f vs) w := fun w => by
    unfold execOp
    subst hargs
    simp [hop, resolve, Deferred.ofValue, invoke, callFunc, hf, h1, h2, hx]
  have he : ∀ w es, (execOp a.eval o).events P w es = es := fun w es => by
    unfold execOp
    subst hargs
    simp [hop, resolve, Deferred.ofValue, invoke, callFunc, hf, h1, h2, hx]
  have hl : ∀ w, listed P b.fn a o w = #[] := fun w => by unfold listed; rw [he]; exact seen_none P _
  refine J.quiet M rfl (fun w => by rw [stepG_enter ho hw hk (hr w), hl w]) ?_
  refine hcall _ cs fun v t' hp => ?_
  have hfin : (b.at a (.inRegion ops (i :: rest) :: k)).finish v = b.at (a.put o.dst v) (.inRegion ops rest :: k) := by rw [Frame.finish_at, ho]; rfl
  rw [hfin]
  exact hnext v t' hp b k cs hbf hk hc

/-- A LOOP WITH A GHOST: how many rounds are left at most. -/
theorem wpS_loopN {c : Code} (I : Nat → Act → Tau X → Prop) (n : Nat) (h₀ : I n a t)
    (round : ∀ n a t, I n a t → wpS Mv fn c (thenS (fun a' t' => ∃ n', n' < n ∧ I n' a' t') Q) a t) : wpS Mv fn (.loop c) Q a t := by
  intro b k cs hb hk hc
  have key : ∀ N n a t, n ≤ N → I n a t → J Mv t (G (b.at a (.code c :: .inLoop c :: k)) cs) := by
    intro N
    induction N with
    | zero =>
      intro n a t hm hI
      refine round n a t hI b (.inLoop c :: k) cs hb hk fun e a' t' q => ?_
      cases e with
      | normal => obtain ⟨n', hn, _⟩ := q; omega
      | exit id => exact (hc _ _ _ q).push (fun _ => rfl) (by simp)
      | ret => exact (hc _ _ _ q).push (fun _ => rfl) (by simp)
      | goto l => exact hc _ _ _ q
      | panic ch => exact hc _ _ _ q
      | outgrown => exact hc _ _ _ q
    | succ N ih =>
      intro n a t hm hI
      refine round n a t hI b (.inLoop c :: k) cs hb hk fun e a' t' q => ?_
      cases e with
      | normal => obtain ⟨n', hn, hI'⟩ := q; exact J.quiet M rfl (fun _ => stepG_inLoop) (ih n' a' t' (by omega) hI')
      | exit id => exact (hc _ _ _ q).push (fun _ => rfl) (by simp)
      | ret => exact (hc _ _ _ q).push (fun _ => rfl) (by simp)
      | goto l => exact hc _ _ _ q
      | panic ch => exact hc _ _ _ q
      | outgrown => exact hc _ _ _ q
  exact J.quiet M rfl (fun _ => stepG_loop) (key _ n a t (Nat.le_refl _) h₀)
end

/-! ### the worker's acts -/
section
variable {P : Program} {B : World} {fn : FuncId} {Q : Exit → Act → Tau WX → Prop} {a : Act} {t : Tau WX} {ops : Array Oper} {i : Nat} {rest : List Nat} {o : Oper}

theorem opsW_poll (z : Value) (hx : t.x.ph = .run false) (hd : t.d = 0) (ho : ops[i]? = some o) (hw : Region.wanted o (yielded ops a.tmps) = true)
    (hr : ∀ w, (execOp a.eval o).run P w = .ok (.comm #[rcase t.x.p.S z] false .select) w) (he : ∀ w, (execOp a.eval o).events P w #[] = #[])
    (h1 : OpsS (WMv P B) fn ops rest Q (a.put o.dst (.tuple #[goInt (-1), .bool false, z])) t)
    (h2 : t.x.p.whole = false → OpsS (WMv P B) fn ops rest Q (a.put o.dst (.tuple #[goInt 0, .bool false, z])) ⟨t.sg, t.d, ⟨t.x.p, t.x.s, .run true⟩⟩) : OpsS (WMv P B) fn ops (i :: rest) Q a t := by
  intro b k cs hb hk hq
  refine J.step (wmoves P B) (.act rfl (.poll z hx hd (fun w hs => ?_) ?_ (fun hwh => ?_)))
  · rw [stepG_comm ho hw hk (hr w)]
    unfold listed
    rw [he w, seen_none]
  · rw [served_G, ho]; exact h1 b k cs hb hk hq
  · rw [served_G, ho]; exact h2 hwh b k cs hb hk hq

theorem opsW_send (v zo z : Value) (hx : t.x.ph = .run false) (hd : t.d = 0) (hv : t.x.p.All[t.x.s]? = some v) (ho : ops[i]? = some o) (hw : Region.wanted o (yielded ops a.tmps) = true)
    (hr : ∀ w, (execOp a.eval o).run P w = .ok (.comm #[scase t.x.p.O v zo, rcase t.x.p.S z] true .select) w) (he : ∀ w, (execOp a.eval o).events P w #[] = #[])
    (h1 : OpsS (WMv P B) fn ops rest Q (a.put o.dst (.tuple #[goInt 0, .bool false, z])) ⟨t.sg, t.d, ⟨t.x.p, t.x.s + 1, .run false⟩⟩)
    (h2 : t.x.p.whole = false → OpsS (WMv P B) fn ops rest Q (a.put o.dst (.tuple #[goInt 1, .bool false, z])) ⟨t.sg, t.d, ⟨t.x.p, t.x.s, .run true⟩⟩) : OpsS (WMv P B) fn ops (i :: rest) Q a t := by
  intro b k cs hb hk hq
  refine J.step (wmoves P B) (.act rfl (.send v zo z hx hd hv (fun w hs => ?_) ?_ (fun hwh => ?_)))
  · rw [stepG_comm ho hw hk (hr w)]
    unfold listed
    rw [he w, seen_none]
  · rw [served_G, ho]; exact h1 b k cs hb hk hq
  · rw [served_G, ho]; exact h2 hwh b k cs hb hk hq
end

end Go.Proofs.Ytdmhgajamepgoaa.Q
