/-
  OWN TEXT. PIPE: RULES, (6): a region that draws its order: (a) of operations that only read: each may be taken first; (b) whatever its operations are: all its orders, one by one.
-/
import Derived.Test.YtdmhgajamepgoaaRg
import Derived.Conc.CompanyDraw
set_option linter.unusedVariables false
set_option linter.unusedSimpArgs false
set_option linter.unusedSectionVars false
namespace Go.Proofs.Ytdmhgajamepgoaa.Q
open Go Go.Conc

section
variable {X : Type} {P : Program} {main : Bool} {B : World} {Mv : MvT X} {strict : X → Prop} (M : Moves P main B strict Mv) {fn : FuncId} {ops : Array Oper} {Q : Exit → Act → Tau X → Prop} {md : Region.Mode} {t : Tau X}

include M in
/-- THE DRAW. -/
theorem wpS_region_draw {id : Nat} {a : Act} (hm : P.follows .mixedOrders = true) (h : ∀ n, OpsS Mv fn ops (Region.linearise .any ops n) Q a t) : wpS Mv fn (.region id ops true) Q a t := by
  intro b k cs hb hk hc
  refine J.own M ⟨rfl, fun w hs => ⟨_, _, #[], t.sg, stepG_region_draw, ⟨⟨hs.os, hs.out, hs.size, hs.low, hs.here, hs.above, hs.nodup⟩, Nat.le_refl _, fun _ _ _ => rfl, fun c hc => .inl ⟨c, hc, rfl, rfl⟩, by simp⟩, fun _ => by simp, ?_⟩⟩
  have := h (w.tape w.drawn (.order b.fn id)) b k cs hb hk hc
  simp only [Region.schedule, hm, Bool.true_or, if_true]
  exact this

/-! ### (a) -/
/-- Operation number i comes up and only reads; K is asked of the state in which it ends. -/
def OpR (P : Program) (B : World) (fn : FuncId) (ops : Array Oper) (sg : List Chunk) (i : Nat) (K : Act → Prop) (a : Act) : Prop :=
  match ops[i]? with
  | none => False
  | some o => if Region.wanted o (yielded ops a.tmps) then ∀ w, Sat B sg w → uponK o a (fun a' w' => (w' = w ∧ ∀ e ∈ listed P fn a o w, EvOk B sg w.heap.size w.heap.size e ∧ e.loc ≠ .mark .disable ∧ e.loc ≠ .mark .enable) ∧ K a') ((execOp a.eval o).run P w) else K (a.put o.dst undef)

theorem OpR_mono {sg : List Chunk} {i : Nat} {a : Act} {K K' : Act → Prop} (h : ∀ a, K a → K' a) (hh : OpR P B fn ops sg i K a) : OpR P B fn ops sg i K' a := by
  unfold OpR at *
  split
  · simp_all
  · rename_i o ho
    simp only [ho] at hh
    split
    · rename_i hw; simp only [hw, if_true] at hh; exact fun w₁ h₁ => uponK_mono (fun a' w' x => ⟨x.1, h _ x.2⟩) (hh w₁ h₁)
    · rename_i hw; simp only [hw] at hh; exact h _ hh

include M in
theorem opsS_of_opR (hns : ¬ strict t.x) {i : Nat} {rest : List Nat} {a : Act} (h : OpR P B fn ops t.sg i (fun a' => OpsS Mv fn ops rest Q a' t) a) : OpsS Mv fn ops (i :: rest) Q a t := by
  unfold OpR at h
  split at h
  · exact h.elim
  · rename_i o ho
    split at h
    · rename_i hw
      refine opsS_cons M ho hw fun w hs => ?_
      have key := h w hs
      revert key
      generalize he : listed P fn a o w = es
      cases (execOp a.eval o).run P w with
      | ok x w' =>
        cases x <;> first | (rintro ⟨⟨rfl, hev⟩, hn⟩; refine ⟨t.sg, guar_still hs fun e hm => (hev e hm).1, fun hx => absurd hx hns, ?_⟩; rw [deafBehind_still (fun e hm => (hev e hm).2)]; exact hn) | exact id
      | halt _ _ => exact id
    · rename_i hw; exact opsS_unwanted M ho (by simpa using hw) h

/-- In state a, in every world that fits, operation o leaves v in its temporary, does nothing else, and what it lists is allowed. -/
def YieldsR (P : Program) (B : World) (fn : FuncId) (ops : Array Oper) (sg : List Chunk) (o : Oper) (v : Value) (a : Act) : Prop :=
  (Region.wanted o (yielded ops a.tmps) = true ∧ ∀ w, Sat B sg w → (execOp a.eval o).run P w = .ok (.value v) w ∧ ∀ e ∈ listed P fn a o w, EvOk B sg w.heap.size w.heap.size e ∧ e.loc ≠ .mark .disable ∧ e.loc ≠ .mark .enable) ∨
  (Region.wanted o (yielded ops a.tmps) = false ∧ v = undef)
theorem YieldsR.of_same {sg : List Chunk} {o : Oper} {v : Value} {a a' : Act} (hy : YieldsR P B fn ops sg o v a) (he : execOp a'.eval o = execOp a.eval o)
    (hw : Region.wanted o (yielded ops a'.tmps) = Region.wanted o (yielded ops a.tmps)) : YieldsR P B fn ops sg o v a' := by
  unfold YieldsR listed at *
  rw [he, hw]
  exact hy

def AnyR (P : Program) (B : World) (fn : FuncId) (md : Region.Mode) (ops : Array Oper) (sg : List Chunk) (F : Act → Prop) : Nat → Array Bool → Act → Prop
  | 0, listed, a => Region.ready md ops listed = [] ∧ F a
  | fuel + 1, listed, a => (Region.ready md ops listed = [] → F a) ∧ ∀ i ∈ Region.ready md ops listed, OpR P B fn ops sg i (fun a' => AnyR P B fn md ops sg F fuel (listed.setIfInBounds i true) a') a

include M in
theorem anyR_sound (hns : ¬ strict t.x) : ∀ (fuel n : Nat) (listed : Array Bool) (a : Act), AnyR P B fn md ops t.sg (fun a => Q .normal a t) fuel listed a → OpsS Mv fn ops (Region.linearise.go md ops fuel n listed []) Q a t := by
  intro fuel
  induction fuel with
  | zero => intro n listed a h; simpa [Region.linearise.go] using opsS_nil M h.2
  | succ fuel ih =>
    intro n listed a h
    obtain ⟨h₀, h₁⟩ := h
    simp only [Region.linearise.go]
    change OpsS Mv fn ops (match (Region.ready md ops listed)[n % (Region.ready md ops listed).length]? with
      | some i => Region.linearise.go md ops fuel (n / (Region.ready md ops listed).length) (listed.setIfInBounds i true) [i]
      | none => [].reverse) Q a t
    cases hi : (Region.ready md ops listed)[n % (Region.ready md ops listed).length]? with
    | none =>
      have hnil : Region.ready md ops listed = [] := by
        cases hr : Region.ready md ops listed with
        | nil => rfl
        | cons x xs =>
          rw [hr] at hi
          have hlt : n % (x :: xs).length < (x :: xs).length := Nat.mod_lt _ (by simp)
          simp at hi
          simp at hlt
          omega
      simpa using opsS_nil M (h₀ hnil)
    | some i =>
      simp only []
      rw [linearise_go_acc, List.reverse_singleton, List.singleton_append]
      exact opsS_of_opR M hns (OpR_mono (fun a' x => ih _ _ a' x) (h₁ i (List.mem_of_getElem? hi)))

theorem YieldsR.opR {sg : List Chunk} {i : Nat} {o : Oper} {v : Value} {a : Act} (hi : ops[i]? = some o) (hy : YieldsR P B fn ops sg o v a) {K : Act → Prop} (h : K (a.put o.dst v)) : OpR P B fn ops sg i K a := by
  unfold OpR
  simp only [hi]
  rcases hy with ⟨hw, hv⟩ | ⟨hw, rfl⟩
  · simp only [hw, if_true]
    intro w hs
    rw [(hv w hs).1]
    exact ⟨⟨rfl, (hv w hs).2⟩, h⟩
  · simp only [hw, Bool.false_eq_true, if_false]; exact h

theorem OpR_putIf {sg : List Chunk} {j : Nat} {oi oj : Oper} {v : Value} (hj : ops[j]? = some oj) (hap : oi.apart ops oj = true)
    (hsi : ∀ cs b, oi.op ≠ .select cs b) (hsj : ∀ cs b, oj.op ≠ .select cs b) {K : Act → Prop} {a : Act}
    (hy : YieldsR P B fn ops sg oi v a) (h : OpR P B fn ops sg j K (a.put oi.dst v)) :
    OpR P B fn ops sg j (fun a' => YieldsR P B fn ops sg oi v a' ∧ K (a'.put oi.dst v)) a := by
  obtain ⟨h1, h2, h3⟩ := Oper.apart_spec hap
  have keep : ∀ (a : Act), YieldsR P B fn ops sg oi v a → ∀ u, YieldsR P B fn ops sg oi v (a.put oj.dst u) := fun a hy u =>
    hy.of_same (execOp_put oi hsi a oj.dst u h3) (wanted_put oi a oj.dst u h3)
  unfold OpR at *
  simp only [hj] at *
  rw [wanted_put oj a oi.dst v h1] at h
  split
  · rename_i hw
    simp only [hw, if_true] at h
    intro w₁ h₁
    have h := h w₁ h₁
    unfold listed at *
    rw [execOp_put oj hsj a oi.dst v h1] at h
    generalize (execOp a.eval oj).run P w₁ = r at *
    cases r with
    | ok n w' =>
      cases n <;> simp only [uponK] at h ⊢
      case value u => exact ⟨h.1, keep a hy u, by rw [← Act.put_comm a v u h2]; exact h.2⟩
      case skip => exact ⟨h.1, keep a hy _, by rw [← Act.put_comm a v undef h2]; exact h.2⟩
    | halt x w' => simp only [uponK] at h
  · rename_i hw
    simp only [hw] at h
    exact ⟨keep a hy _, by rw [← Act.put_comm a v undef h2]; exact h⟩

theorem anyR_first {sg : List Chunk} {F : Act → Prop} {i : Nat} {oi : Oper} {v : Value} (hi : ops[i]? = some oi)
    (hsel : ∀ (j : Nat) (o : Oper) cs b, ops[j]? = some o → o.op ≠ .select cs b) :
    ∀ (fuel : Nat) (listed : Array Bool) (a : Act),
      (∀ j oj, ops[j]? = some oj → j ≠ i → listed.getD j true = false → (∀ e ∈ oj.after, Region.binds md e = true → e.on ≠ i) → oi.apart ops oj = true) →
      i ∈ Region.ready md ops listed → YieldsR P B fn ops sg oi v a →
      AnyR P B fn md ops sg F fuel (listed.setIfInBounds i true) (a.put oi.dst v) → AnyR P B fn md ops sg F (fuel + 1) listed a := by
  intro fuel
  induction fuel with
  | zero =>
    intro listed a _ hr hy H
    refine ⟨fun h => (by rw [h] at hr; cases hr), fun j hj => ?_⟩
    by_cases hji : j = i
    · subst hji; exact hy.opR hi H
    · have := ready_mono hj hji
      rw [H.1] at this
      cases this
  | succ fuel ih =>
    intro listed a hfree hr hy H
    refine ⟨fun h => (by rw [h] at hr; cases hr), fun j hj => ?_⟩
    by_cases hji : j = i
    · subst hji; exact hy.opR hi H
    · have h1 := H.2 j (ready_mono hj hji)
      obtain ⟨hjun, oj, hoj, hall⟩ := mem_ready.1 hj
      have hnot : ∀ e ∈ oj.after, Region.binds md e = true → e.on ≠ i := fun e he hb heq => by
        have h1 := hall e he hb
        have h0 := (mem_ready.1 hr).1
        rw [heq] at h1
        rcases Nat.lt_or_ge i listed.size with h' | h'
        · simp [h'] at h0 h1; rw [h0] at h1; cases h1
        · simp [Array.getElem?_eq_none h'] at h1
      have h2 := OpR_putIf hoj (hfree j oj hoj hji hjun hnot) (fun cs b => hsel i oi cs b hi) (fun cs b => hsel j oj cs b hoj) hy h1
      have hfree' : ∀ k ok, ops[k]? = some ok → k ≠ i → (listed.setIfInBounds j true).getD k true = false →
          (∀ e ∈ ok.after, Region.binds md e = true → e.on ≠ i) → oi.apart ops ok = true := fun k ok hk hki hun hno => by
        refine hfree k ok hk hki ?_ hno
        by_cases hjk : j = k
        · subst hjk; exact hjun
        · rw [getD_set_ne true hjk] at hun; exact hun
      refine OpR_mono (fun a' h3 => ih (listed.setIfInBounds j true) a' hfree' (ready_mono hr (Ne.symm hji)) h3.1 ?_) h2
      rw [Array.setIfInBounds_comm _ _ hji]
      exact h3.2

/-- Take number i first. -/
theorem anyR_take {sg : List Chunk} {F : Act → Prop} {i : Nat} {oi : Oper} {v : Value} {fuel : Nat} {listed : Array Bool} {a : Act} (hi : ops[i]? = some oi)
    (hs : Region.noSelect ops = true) (hf : Region.free md ops listed i = true) (hr : (Region.ready md ops listed).contains i = true)
    (hy : YieldsR P B fn ops sg oi v a) (h : AnyR P B fn md ops sg F fuel (listed.setIfInBounds i true) (a.put oi.dst v)) : AnyR P B fn md ops sg F (fuel + 1) listed a :=
  anyR_first hi (Region.noSelect_spec hs) fuel listed a (Region.free_spec hi hf) (by simpa using hr) hy h
theorem anyR_done {sg : List Chunk} {F : Act → Prop} {listed : Array Bool} {a : Act} (hr : Region.ready md ops listed = []) (h : F a) : ∀ fuel, AnyR P B fn md ops sg F fuel listed a
  | 0 => ⟨hr, h⟩
  | _ + 1 => ⟨fun _ => h, fun i hi => by rw [hr] at hi; cases hi⟩
include M in
/-- THE BEGINNING. -/
theorem wpS_region_read {id : Nat} {a : Act} (hns : ¬ strict t.x) (hm : P.follows .mixedOrders = true) (h : AnyR P B fn .any ops t.sg (fun a => Q .normal a t) ops.size (Array.replicate ops.size false) a) : wpS Mv fn (.region id ops true) Q a t :=
  wpS_region_draw M hm fun n => anyR_sound M hns ops.size n _ a h

/-! ### (b) -/
def allOrders (md : Region.Mode) (ops : Array Oper) : Nat → Array Bool → List (List Nat)
  | 0, _ => [[]]
  | fuel + 1, listed => match Region.ready md ops listed with
    | [] => [[]]
    | rs => rs.flatMap fun i => (allOrders md ops fuel (listed.setIfInBounds i true)).map (i :: ·)
theorem mem_allOrders : ∀ (fuel n : Nat) (listed : Array Bool), Region.linearise.go md ops fuel n listed [] ∈ allOrders md ops fuel listed := by
  intro fuel
  induction fuel with
  | zero => intro n listed; simp [Region.linearise.go, allOrders]
  | succ fuel ih =>
    intro n listed
    simp only [Region.linearise.go]
    change (match (Region.ready md ops listed)[n % (Region.ready md ops listed).length]? with
      | some i => Region.linearise.go md ops fuel (n / (Region.ready md ops listed).length) (listed.setIfInBounds i true) [i]
      | none => [].reverse) ∈ _
    cases hr : Region.ready md ops listed with
    | nil => simp [allOrders, hr]
    | cons x xs =>
      have hlt : n % (x :: xs).length < (x :: xs).length := Nat.mod_lt _ (by simp)
      obtain ⟨i, hi⟩ : ∃ i, (x :: xs)[n % (x :: xs).length]? = some i := ⟨_, List.getElem?_eq_getElem hlt⟩
      rw [hi]
      simp only [allOrders, hr]
      rw [linearise_go_acc, List.reverse_singleton, List.singleton_append]
      exact List.mem_flatMap.2 ⟨i, List.mem_of_getElem? hi, List.mem_map.2 ⟨_, ih _ _, rfl⟩⟩
include M in
theorem wpS_region_all {id : Nat} {a : Act} (L : List (List Nat)) (hm : P.follows .mixedOrders = true) (hL : allOrders .any ops ops.size (Array.replicate ops.size false) = L) (h : ∀ l ∈ L, OpsS Mv fn ops l Q a t) : wpS Mv fn (.region id ops true) Q a t :=
  wpS_region_draw M hm fun n => h _ (hL ▸ mem_allOrders ops.size n _)
end

end Go.Proofs.Ytdmhgajamepgoaa.Q
