/-
  OWN TEXT. PIPE: WORK: the worker's function, up to its deferred close.
-/
import Derived.Test.YtdmhgajamepgoaaRg
set_option linter.unusedVariables false
set_option linter.unusedSimpArgs false
set_option linter.unusedSectionVars false
namespace Go.Proofs.Ytdmhgajamepgoaa.Q
open Go Go.Conc

section
variable {X : Type} {P : Program} {main : Bool} {B : World} {Mv : MvT X} {strict : X → Prop} (M : Moves P main B strict Mv) {fn : FuncId} {Q : Exit → Act → Tau X → Prop} {a : Act} {t : Tau X}
include M
/-- A 'defer' of anything. -/
theorem opsS_deferK {ops : Array Oper} {i : Nat} {rest : List Nat} {o : Oper} (d : Deferred) (ho : ops[i]? = some o) (hw : Region.wanted o (yielded ops a.tmps) = true)
    (hr : ∀ w, (execOp a.eval o).run P w = .ok (.defer d) w) (he : ∀ w, (execOp a.eval o).events P w #[] = #[])
    (h : OpsS Mv fn ops rest Q (Act.put ⟨a.tmps, d :: a.defers⟩ o.dst undef) t) : OpsS Mv fn ops (i :: rest) Q a t :=
  fun b k cs hbf hk hc => J.quiet M rfl (fun w => by
    have hfin : (b.at ⟨a.tmps, d :: a.defers⟩ (.inRegion ops (i :: rest) :: k)).finish undef = b.at (Act.put ⟨a.tmps, d :: a.defers⟩ o.dst undef) (.inRegion ops rest :: k) := by rw [Frame.finish_at, ho]; rfl
    have hk' : (b.kind == CallKind.early) = false := by simpa using hk
    rw [stepG_oper ho hw, ← hfin]
    simp [stepG.apply, hr w, he w, G, Frame.at, hk', GStep.after, seen_none]) (h b k cs hbf hk hc)
end

/-! ### what the chunks give -/
section
variable {S : Type} (out : S → Int → List Int) (nx : S → Int → S)
def allOut : S → List Int → List Int
  | _, [] => []
  | σ, n :: L => out σ n ++ allOut (nx σ n) L
theorem allOut_app (σ : S) : ∀ (L L' : List Int), allOut out nx σ (L ++ L') = allOut out nx σ L ++ allOut out nx (L.foldl nx σ) L' := by
  intro L
  induction L generalizing σ with
  | nil => intro L'; rfl
  | cons n L ih => intro L'; simp [allOut, ih]
end

/-- WHAT IS ASKED OF WHO WORKS ON A CHUNK. -/
structure Cb (B : World) (F : FuncId) (caps : Array Value) {S : Type} (I : S → List Chunk → Prop) (out : S → Int → List Int) (nx : S → Int → S) (Dom : S → Int → Prop) : Prop where
  mono : ∀ σ s s', (∀ c ∈ s, c.own = true → c ∈ s') → I σ s → I σ s'
  body : ∃ fu, Try.prog.funcs[F]? = some fu ∧ (fu.name == "runtime.NumGoroutine") = false ∧ fu.body.isNone = false
  call : ∀ σ n (t : Tau WX), Dom σ n → I σ t.sg → ¬ wstrict t.x → CallsS (WMv Try.prog B) Try.prog F (#[.int .i64 n] ++ caps) t fun v t' =>
    RowAt B t'.sg v ((out σ n).map iv) ∧ I (nx σ n) t'.sg ∧ (∀ c ∈ t.sg, c.own = false → c ∈ t'.sg) ∧ t'.d = t.d ∧ t'.x = t.x

def DomAll {S : Type} (nx : S → Int → S) (Dom : S → Int → Prop) : S → List Int → Prop
  | _, [] => True
  | σ, n :: L => Dom σ n ∧ DomAll nx Dom (nx σ n) L

/-- What the worker's memory is like behind s sendings. -/
def FinOf {S : Type} (I : S → List Chunk → Prop) (out : S → Int → List Int) (nx : S → Int → S) (σ₀ : S) (L : List Int) (wh : Bool) (s : Nat) (sw : List Chunk) : Prop :=
  ∃ pre suf, L = pre ++ suf ∧ s ≤ (allOut out nx σ₀ pre).length ∧ I (pre.foldl nx σ₀) sw ∧ (wh = true → suf = [])

theorem work_any {B : World} {F : FuncId} {caps : Array Value} {S : Type} {I : S → List Chunk → Prop} {out : S → Int → List Int} {nx : S → Int → S} {Dom : S → Int → Prop} (hcb : Cb B F caps I out nx Dom)
    {σ₀ : S} {L : List Int} {p : PRec} (hall : p.All = (allOut out nx σ₀ L).map iv) (hdom : DomAll nx Dom σ₀ L) (hlen : L.length < 9223372036854775807) (hlen2 : (allOut out nx σ₀ L).length < 9223372036854775807) {sg : List Chunk} {row : Value} (hrow : RowS B sg row (L.map iv)) (hI : I σ₀ sg) :
    wpS (WMv Try.prog B) 27 (Try.f27.body.getD .skip) (fun e a t => (e = .normal ∨ e = .ret) ∧ a.defers = [{ target := .builtin .close #[85] 0 #[false], args := #[.chan (some p.O)] }] ∧
      ∃ s stp, t.x = ⟨p, s, .run stp⟩ ∧ t.d = 0 ∧ (stp = true ∨ s = p.All.length) ∧ FinOf I out nx σ₀ L p.whole s t.sg ∧ (∀ c ∈ sg, c.own = false → c ∈ t.sg))
      { tmps := #[row, .func (.func F) #[] caps, .chan (some p.O), .chan (some p.S)] ++ Array.replicate 36 undef, defers := [] } ⟨sg, 0, ⟨p, 0, .run false⟩⟩ := by
  have M := wmoves Try.prog B
  show wpS (WMv Try.prog B) 27 (Code.scope _) _ _ _
  refine wpS_scope M ?_
  simp only [List.size_toArray, List.length_cons, List.length_nil, Nat.reduceAdd, Nat.reduceSub, Array.replicate_succ, Array.replicate_zero, List.push_toArray, List.append_toArray, List.nil_append, List.cons_append]
  refine wpS_seq M ?_
  refine wpS_region M ?_
  simp only [List.size_toArray, List.length_cons, List.length_nil, Nat.reduceAdd, Nat.zero_add, List.range, List.range.loop]
  (refine opsS_look M rfl (by rfl) (fun w => by first | (simp [go_sem]; done) | fail) (fun w hs K hK => ?_); go_simp; refine hK _ ?_; clear hK K hs w; (try walk_nrm))
  refine opsS_deferK M { target := .builtin .close #[85] 0 #[false], args := #[.chan (some p.O)] } rfl (by rfl) (fun w => ?_) (fun w => ?_) ?_
  · simp [go_sem]
  · simp [go_sem]
  try walk_nrm
  refine opsS_nil M ?_
  try simp only [thenS, inBlockS]
  refine wpS_seq M ?_
  refine wpS_label M ?_
  try simp only [thenS]
  refine wpS_seq M ?_
  obtain ⟨ra, cap, rfl, hrr⟩ := hrow
  simp only [List.length_map]
  refine wpS_region M ?_
  simp only [List.size_toArray, List.length_cons, List.length_nil, Nat.reduceAdd, Nat.zero_add, List.range, List.range.loop]
  (refine opsS_look M rfl (by rfl) (fun w => by first | (simp [go_sem]; done) | fail) (fun w hs K hK => ?_); go_simp; refine hK _ ?_; clear hK K hs w; (try walk_nrm))
  (refine opsS_look M rfl (by rfl) (fun w => by first | (simp [go_sem]; done) | fail) (fun w hs K hK => ?_); go_simp; refine hK _ ?_; clear hK K hs w; (try walk_nrm))
  (refine opsS_look M rfl (by rfl) (fun w => by first | (simp [go_sem]; done) | fail) (fun w hs K hK => ?_); go_simp; refine hK _ ?_; clear hK K hs w; (try walk_nrm))
  refine opsS_nil M ?_
  try simp only [thenS, inBlockS]
  refine wpS_block M ?_
  refine wpS_loopN M (I := fun n a t => ∃ pre suf, L = pre ++ suf ∧ suf.length = n ∧ (∃ u4 u5 u6 u7 u8 u9 u10 u11 u16 u17 u18 u19 u20 u21 u22 u23 u24 u25 u26 u27 u28 u29 u30 u31 u32 u33 u34 u35 u36 u37 u38 u39, a = ⟨#[.slice ra L.length cap, .func (.func F) #[] caps, .chan (some p.O), .chan (some p.S), u4, u5, u6, u7, u8, u9, u10, u11, .chan (some p.O), .slice ra L.length cap, .int .i64 L.length, .int .i64 pre.length, u16, u17, u18, u19, u20, u21, u22, u23, u24, u25, u26, u27, u28, u29, u30, u31, u32, u33, u34, u35, u36, u37, u38, u39], [{ target := .builtin .close #[85] 0 #[false], args := #[.chan (some p.O)] }]⟩) ∧
    t.x = ⟨p, (allOut out nx σ₀ pre).length, .run false⟩ ∧ t.d = 0 ∧ I (pre.foldl nx σ₀) t.sg ∧ DomAll nx Dom (pre.foldl nx σ₀) suf ∧ (∀ c ∈ sg, c.own = false → c ∈ t.sg)) L.length ⟨[], L, rfl, rfl, ⟨_, _, _, _, _, _, _, _, _, _, _, _, _, _, _, _, _, _, _, _, _, _, _, _, _, _, _, _, _, _, _, _, by rfl⟩, rfl, rfl, hI, hdom, fun c h _ => h⟩ ?_
  rintro n a t ⟨pre, suf, hL, hn, ⟨u4, u5, u6, u7, u8, u9, u10, u11, u16, u17, u18, u19, u20, u21, u22, u23, u24, u25, u26, u27, u28, u29, u30, u31, u32, u33, u34, u35, u36, u37, u38, u39, rfl⟩, hx, hd, hI, hdom, hown⟩
  have hns : ¬ wstrict t.x := by simp [hx, wstrict, WPh.released]
  replace hL := Hid.mk hL
  replace hn := Hid.mk hn
  refine wpS_seq M ?_
  refine wpS_region M ?_
  simp only [List.size_toArray, List.length_cons, List.length_nil, Nat.reduceAdd, Nat.zero_add, List.range, List.range.loop]
  cases suf with
  | nil =>
    have hll : pre.length = L.length := by rw [hL.out]; simp
    have hlt : ¬ ((pre.length : Int) < (L.length : Int)) := by omega
    (refine opsS_look M rfl (by rfl) (fun w => by first | (simp [go_sem]; done) | fail) (fun w hs K hK => ?_); go_simp; refine hK _ ?_; clear hK K hs w; (try walk_nrm))
    refine opsS_nil M ?_
    try simp only [thenS, inBlockS]
    refine wpS_seq M ?_
    refine wpS_cond M (v := false) (by rfl) ?_
    simp only [if_true, if_false, Bool.false_eq_true]
    refine wpS_exit M ?_
    try simp only [thenS, inBlockS, if_true, if_false, eq_self, reduceIte, Nat.reduceEqDiff, OfNat.ofNat_ne_ofNat, OfNat.ofNat_ne_zero, OfNat.zero_ne_ofNat, Nat.zero_ne_one, Nat.one_ne_zero, OfNat.ofNat_ne_one, OfNat.one_ne_ofNat]
    refine ⟨.inl rfl, rfl, _, _, hx, hd, .inr ?_, ⟨pre, [], hL.out, by simp, hI, fun _ => rfl⟩, hown⟩
    rw [hall, hL.out]; simp
  | cons x suf =>
    have hll : pre.length < L.length := by rw [hL.out]; simp
    have hlt : (pre.length : Int) < (L.length : Int) := by omega
    (refine opsS_look M rfl (by rfl) (fun w => by first | (simp [go_sem]; done) | fail) (fun w hs K hK => ?_); go_simp; refine hK _ ?_; clear hK K hs w; (try walk_nrm))
    refine opsS_nil M ?_
    try simp only [thenS, inBlockS]
    refine wpS_seq M ?_
    refine wpS_cond M (v := true) (by rfl) ?_
    simp only [if_true, if_false, Bool.false_eq_true]
    refine wpS_skip M ?_
    try simp only [thenS, inBlockS]
    refine wpS_seq M ?_
    refine wpS_block M ?_
    refine wpS_seq M ?_
    refine wpS_region M ?_
    simp only [List.size_toArray, List.length_cons, List.length_nil, Nat.reduceAdd, Nat.zero_add, List.range, List.range.loop]
    obtain ⟨b, o, rfl, hrd⟩ := hrr pre.length (iv x) (by simp [hL.out])
    have hrd' := (hrd.mono hown).rd
    have hll' : pre.length < (L.map iv).length := by simpa using hll
    (refine opsS_look M rfl (by rfl) (fun w => by first | (simp [go_sem, hll]; done) | fail) (fun w hs K hK => ?_); go_simp; refine hK _ ?_; clear hK K hs w; (try walk_nrm))
    refine opsS_ldR M hrd' rfl (by rfl) hns (fun w hcell e he => by simp [go_sem, hcell] at he; exact ⟨_, he⟩) (fun w hcell K hK => ?_)
    go_simp
    refine hK _ ?_
    clear hK K hcell w
    try walk_nrm
    (refine opsS_look M rfl (by rfl) (fun w => by first | (simp [go_sem]; done) | fail) (fun w hs K hK => ?_); go_simp; refine hK _ ?_; clear hK K hs w; (try walk_nrm))
    refine opsS_nil M ?_
    try simp only [thenS, inBlockS]
    refine wpS_seq M ?_
    refine wpS_seq M ?_
    refine wpS_region M ?_
    simp only [List.size_toArray, List.length_cons, List.length_nil, Nat.reduceAdd, Nat.zero_add, List.range, List.range.loop]
    (refine opsS_look M rfl (by rfl) (fun w => by first | (simp [go_sem]; done) | fail) (fun w hs K hK => ?_); go_simp; refine hK _ ?_; clear hK K hs w; (try walk_nrm))
    refine opsS_nil M ?_
    try simp only [thenS, inBlockS]
    refine wpS_seq M ?_
    refine wpS_region M ?_
    simp only [List.size_toArray, List.length_cons, List.length_nil, Nat.reduceAdd, Nat.zero_add, List.range, List.range.loop]
    have hxp : t.x.p = p := by rw [hx]
    refine opsW_poll (.agg #[]) (by rw [hx]) hd rfl (by rfl) (fun w => ?_) (fun w => ?_) ?_ ?_
    · go_simp
      rfl
    · simp [go_sem]
    · try walk_nrm
      (refine opsS_look M rfl (by rfl) (fun w => by first | (simp [go_sem]; done) | fail) (fun w hs K hK => ?_); go_simp; refine hK _ ?_; clear hK K hs w; (try walk_nrm))
      (refine opsS_look M rfl (by rfl) (fun w => by first | (simp [go_sem]; done) | fail) (fun w hs K hK => ?_); go_simp; refine hK _ ?_; clear hK K hs w; (try walk_nrm))
      refine opsS_nil M ?_
      try simp only [thenS, inBlockS]
      refine wpS_block M ?_
      refine wpS_cond M (v := false) (by rfl) ?_
      simp only [if_true, if_false, Bool.false_eq_true]
      refine wpS_skip M ?_
      try simp only [thenS, inBlockS]
      refine wpS_seq M ?_
      refine wpS_region M ?_
      simp only [List.size_toArray, List.length_cons, List.length_nil, Nat.reduceAdd, Nat.zero_add, List.range, List.range.loop]
      (refine opsS_look M rfl (by rfl) (fun w => by first | (simp [go_sem]; done) | fail) (fun w hs K hK => ?_); go_simp; refine hK _ ?_; clear hK K hs w; (try walk_nrm))
      (refine opsS_look M rfl (by rfl) (fun w => by first | (simp [go_sem]; done) | fail) (fun w hs K hK => ?_); go_simp; refine hK _ ?_; clear hK K hs w; (try walk_nrm))
      obtain ⟨fu, hf1, hf2, hf3⟩ := hcb.body
      refine opsS_callf M rfl (by rfl) rfl rfl hf1 hf2 hf3 (hcb.call (pre.foldl nx σ₀) x t hdom.1 hI hns) (by (try walk_nrm) <;> rfl) ?_
      rintro v t1 ⟨⟨ra', cap', rfl, hr'⟩, hI1, hown1, hd1, hx1⟩
      try walk_nrm
      replace hns : ¬ wstrict t1.x := by rw [hx1]; exact hns
      replace hown1 : ∀ c ∈ sg, c.own = false → c ∈ t1.sg := fun c h1 h2 => hown1 c (hown c h1 h2) h2
      obtain ⟨sg1, d1, x1⟩ := t1
      simp only at hd1 hx1 hI1 hr' hown1
      rw [hd] at hd1
      rw [hx] at hx1
      subst hd1 hx1
      simp only [List.length_map]
      generalize hys : out (pre.foldl nx σ₀) x = ys at *
      replace hys := Hid.mk hys
      have hys' : Hid (ys.length < 9223372036854775807) := ⟨by
        rw [hL.out, allOut_app] at hlen2
        simp [allOut, hys.out] at hlen2
        omega⟩
      (refine opsS_look M rfl (by rfl) (fun w => by first | (simp [go_sem]; done) | fail) (fun w hs K hK => ?_); go_simp; refine hK _ ?_; clear hK K hs w; (try walk_nrm))
      (refine opsS_look M rfl (by rfl) (fun w => by first | (simp [go_sem]; done) | fail) (fun w hs K hK => ?_); go_simp; refine hK _ ?_; clear hK K hs w; (try walk_nrm))
      refine opsS_nil M ?_
      try simp only [thenS, inBlockS]
      refine wpS_block M ?_
      refine wpS_loopN M (I := fun m a t => ∃ j, Hid (j + m = ys.length) ∧ (∃ u4 u5 u6 u7 u8 u9 u10 u11 u16 u17 u18 u19 u20 u21 u22 u23 u24 u28 u29 u30 u31 u32 u33 u34 u35 u36 u37 u38 u39, a = ⟨#[.slice (some ⟨b, o, none⟩) L.length cap, .func (.func F) #[] caps, .chan (some p.O), .chan (some p.S), u4, u5, u6, u7, u8, u9, u10, u11, .chan (some p.O), .slice (some ⟨b, o, none⟩) L.length cap, .int .i64 L.length, .int .i64 pre.length, u16, u17, u18, u19, u20, u21, u22, u23, u24, .slice ra' ys.length cap', .int .i64 ys.length, .int .i64 j, u28, u29, u30, u31, u32, u33, u34, u35, u36, u37, u38, u39], [{ target := .builtin .close #[85] 0 #[false], args := #[.chan (some p.O)] }]⟩) ∧
        t = ⟨sg1, 0, ⟨p, (allOut out nx σ₀ pre).length + j, .run false⟩⟩) ys.length ⟨0, ⟨by omega⟩, ⟨_, _, _, _, _, _, _, _, _, _, _, _, _, _, _, _, _, _, _, _, _, _, _, _, _, _, _, _, _, by rfl⟩, rfl⟩ ?_
      rintro m a t ⟨j, hj, ⟨u4, u5, u6, u7, u8, u9, u10, u11, u16, u17, u18, u19, u20, u21, u22, u23, u24, u28, u29, u30, u31, u32, u33, u34, u35, u36, u37, u38, u39, rfl⟩, rfl⟩
      refine wpS_seq M ?_
      refine wpS_region M ?_
      simp only [List.size_toArray, List.length_cons, List.length_nil, Nat.reduceAdd, Nat.zero_add, List.range, List.range.loop]
      cases m with
      | zero =>
        have hlt2 : ¬ ((j : Int) < (ys.length : Int)) := by have := hj.out; omega
        have hw1 := w1 pre.length (by omega)
        (refine opsS_look M rfl (by rfl) (fun w => by first | (simp [go_sem]; done) | fail) (fun w hs K hK => ?_); go_simp; refine hK _ ?_; clear hK K hs w; (try walk_nrm))
        refine opsS_nil M ?_
        try simp only [thenS, inBlockS]
        refine wpS_seq M ?_
        refine wpS_cond M (v := false) (by rfl) ?_
        simp only [if_true, if_false, Bool.false_eq_true]
        refine wpS_exit M ?_
        try simp only [thenS, inBlockS, if_true, if_false, eq_self, reduceIte, Nat.reduceEqDiff, OfNat.ofNat_ne_ofNat, OfNat.ofNat_ne_zero, OfNat.zero_ne_ofNat, Nat.zero_ne_one, Nat.one_ne_zero, OfNat.ofNat_ne_one, OfNat.one_ne_ofNat]
        refine wpS_region M ?_
        simp only [List.size_toArray, List.length_cons, List.length_nil, Nat.reduceAdd, Nat.zero_add, List.range, List.range.loop]
        (refine opsS_look M rfl (by rfl) (fun w => by first | (simp [go_sem]; done) | fail) (fun w hs K hK => ?_); go_simp; refine hK _ ?_; clear hK K hs w; (try walk_nrm))
        (refine opsS_look M rfl (by rfl) (fun w => by first | (simp [go_sem]; done) | fail) (fun w hs K hK => ?_); go_simp; refine hK _ ?_; clear hK K hs w; (try walk_nrm))
        refine opsS_nil M ?_
        try simp only [thenS, inBlockS]
        refine ⟨suf.length, by have := hn.out; simp at this; omega, pre ++ [x], suf, by rw [hL.out]; simp, rfl, ⟨_, _, _, _, _, _, _, _, _, _, _, _, _, _, _, _, _, _, _, _, _, _, _, _, _, _, _, _, _, _, _, _, by simp only [List.length_append, List.length_cons, List.length_nil, Int.natCast_add, Nat.zero_add, Int.natCast_one, Int.cast_ofNat_Int]; rfl⟩, ?_, by trivial, ?_, ?_, hown1⟩
        · have : j = ys.length := by have := hj.out; omega
          rw [allOut_app, this]
          simp [allOut, hys.out]
        · simpa using hI1
        · simpa using hdom.2
      | succ m =>
        have hlt2 : (j : Int) < (ys.length : Int) := by have := hj.out; omega
        have hlt3 : j < ys.length := by have := hj.out; omega
        have hw1 := w1 j (by have := hys'.out; omega)
        (refine opsS_look M rfl (by rfl) (fun w => by first | (simp [go_sem]; done) | fail) (fun w hs K hK => ?_); go_simp; refine hK _ ?_; clear hK K hs w; (try walk_nrm))
        refine opsS_nil M ?_
        try simp only [thenS, inBlockS]
        refine wpS_seq M ?_
        refine wpS_cond M (v := true) (by rfl) ?_
        simp only [if_true, if_false, Bool.false_eq_true]
        refine wpS_skip M ?_
        try simp only [thenS, inBlockS]
        refine wpS_seq M ?_
        refine wpS_block M ?_
        refine wpS_seq M ?_
        refine wpS_region M ?_
        simp only [List.size_toArray, List.length_cons, List.length_nil, Nat.reduceAdd, Nat.zero_add, List.range, List.range.loop]
        obtain ⟨y, hy⟩ : ∃ y, ys[j]? = some y := ⟨ys[j], by simp [hlt3]⟩
        obtain ⟨b', o', rfl, hrd2⟩ := hr' j (iv y) (by simp [hy])
        (refine opsS_look M rfl (by rfl) (fun w => by first | (simp [go_sem, hlt3]; done) | fail) (fun w hs K hK => ?_); go_simp; refine hK _ ?_; clear hK K hs w; (try walk_nrm))
        refine opsS_ldR M hrd2 rfl (by rfl) hns (fun w hcell e he => by simp [go_sem, hcell] at he; exact ⟨_, he⟩) (fun w hcell K hK => ?_)
        go_simp
        refine hK _ ?_
        clear hK K hcell w
        try walk_nrm
        (refine opsS_look M rfl (by rfl) (fun w => by first | (simp [go_sem]; done) | fail) (fun w hs K hK => ?_); go_simp; refine hK _ ?_; clear hK K hs w; (try walk_nrm))
        refine opsS_nil M ?_
        try simp only [thenS, inBlockS]
        refine wpS_seq M ?_
        refine wpS_seq M ?_
        refine wpS_seq M ?_
        refine wpS_region M ?_
        simp only [List.size_toArray, List.length_cons, List.length_nil, Nat.reduceAdd, Nat.zero_add, List.range, List.range.loop]
        (refine opsS_look M rfl (by rfl) (fun w => by first | (simp [go_sem]; done) | fail) (fun w hs K hK => ?_); go_simp; refine hK _ ?_; clear hK K hs w; (try walk_nrm))
        refine opsS_nil M ?_
        try simp only [thenS, inBlockS]
        refine wpS_region M ?_
        simp only [List.size_toArray, List.length_cons, List.length_nil, Nat.reduceAdd, Nat.zero_add, List.range, List.range.loop]
        (refine opsS_look M rfl (by rfl) (fun w => by first | (simp [go_sem]; done) | fail) (fun w hs K hK => ?_); go_simp; refine hK _ ?_; clear hK K hs w; (try walk_nrm))
        refine opsS_nil M ?_
        try simp only [thenS, inBlockS]
        refine wpS_region M ?_
        simp only [List.size_toArray, List.length_cons, List.length_nil, Nat.reduceAdd, Nat.zero_add, List.range, List.range.loop]
        (refine opsS_look M rfl (by rfl) (fun w => by first | (simp [go_sem]; done) | fail) (fun w hs K hK => ?_); go_simp; refine hK _ ?_; clear hK K hs w; (try walk_nrm))
        refine opsS_nil M ?_
        try simp only [thenS, inBlockS]
        refine wpS_seq M ?_
        refine wpS_region M ?_
        simp only [List.size_toArray, List.length_cons, List.length_nil, Nat.reduceAdd, Nat.zero_add, List.range, List.range.loop]
        refine opsW_send (iv y) (.int .i64 0) (.agg #[]) rfl rfl ?_ rfl (by rfl) (fun w => ?_) (fun w => ?_) ?_ ?_
        · rw [hall, hL.out, allOut_app]
          simp only [allOut, hys.out, List.map_append]
          rw [List.getElem?_append_right (by simp), List.getElem?_append_left (by simp; omega)]
          simp [hy]
        · go_simp
          exact ⟨rfl, rfl⟩
        · simp [go_sem]
        · try walk_nrm
          (refine opsS_look M rfl (by rfl) (fun w => by first | (simp [go_sem]; done) | fail) (fun w hs K hK => ?_); go_simp; refine hK _ ?_; clear hK K hs w; (try walk_nrm))
          (refine opsS_look M rfl (by rfl) (fun w => by first | (simp [go_sem]; done) | fail) (fun w hs K hK => ?_); go_simp; refine hK _ ?_; clear hK K hs w; (try walk_nrm))
          (refine opsS_look M rfl (by rfl) (fun w => by first | (simp [go_sem]; done) | fail) (fun w hs K hK => ?_); go_simp; refine hK _ ?_; clear hK K hs w; (try walk_nrm))
          refine opsS_nil M ?_
          try simp only [thenS, inBlockS]
          refine wpS_block M ?_
          refine wpS_cond M (v := true) (by rfl) ?_
          simp only [if_true, if_false, Bool.false_eq_true]
          refine wpS_skip M ?_
          try simp only [thenS, inBlockS]
          refine wpS_region M ?_
          simp only [List.size_toArray, List.length_cons, List.length_nil, Nat.reduceAdd, Nat.zero_add, List.range, List.range.loop]
          (refine opsS_look M rfl (by rfl) (fun w => by first | (simp [go_sem]; done) | fail) (fun w hs K hK => ?_); go_simp; refine hK _ ?_; clear hK K hs w; (try walk_nrm))
          (refine opsS_look M rfl (by rfl) (fun w => by first | (simp [go_sem]; done) | fail) (fun w hs K hK => ?_); go_simp; refine hK _ ?_; clear hK K hs w; (try walk_nrm))
          refine opsS_nil M ?_
          try simp only [thenS, inBlockS]
          refine ⟨m, by omega, j + 1, ⟨by have := hj.out; omega⟩, ⟨_, _, _, _, _, _, _, _, _, _, _, _, _, _, _, _, _, _, _, _, _, _, _, _, _, _, _, _, _, by simp only [Int.natCast_add, Int.natCast_one, Int.cast_ofNat_Int]; rfl⟩, rfl⟩
        · intro hwh
          try walk_nrm
          (refine opsS_look M rfl (by rfl) (fun w => by first | (simp [go_sem]; done) | fail) (fun w hs K hK => ?_); go_simp; refine hK _ ?_; clear hK K hs w; (try walk_nrm))
          (refine opsS_look M rfl (by rfl) (fun w => by first | (simp [go_sem]; done) | fail) (fun w hs K hK => ?_); go_simp; refine hK _ ?_; clear hK K hs w; (try walk_nrm))
          (refine opsS_look M rfl (by rfl) (fun w => by first | (simp [go_sem]; done) | fail) (fun w hs K hK => ?_); go_simp; refine hK _ ?_; clear hK K hs w; (try walk_nrm))
          refine opsS_nil M ?_
          try simp only [thenS, inBlockS]
          refine wpS_block M ?_
          refine wpS_cond M (v := false) (by rfl) ?_
          simp only [if_true, if_false, Bool.false_eq_true]
          refine wpS_cond M (v := true) (by rfl) ?_
          simp only [if_true, if_false, Bool.false_eq_true]
          refine wpS_exit M ?_
          try simp only [thenS, inBlockS, if_true, if_false, eq_self, reduceIte, Nat.reduceEqDiff, OfNat.ofNat_ne_ofNat, OfNat.ofNat_ne_zero, OfNat.zero_ne_ofNat, Nat.zero_ne_one, Nat.one_ne_zero, OfNat.ofNat_ne_one, OfNat.one_ne_ofNat]
          refine ⟨.inl rfl, rfl, (allOut out nx σ₀ pre).length + j, true, rfl, rfl, .inl rfl, ⟨pre ++ [x], suf, by rw [hL.out]; simp, ?_, by simpa using hI1, fun e => by simp only [] at hwh; rw [hwh] at e; cases e⟩, hown1⟩
          rw [allOut_app]
          simp [allOut, hys.out]
          omega
    · intro hwh
      rw [hxp] at hwh
      try walk_nrm
      (refine opsS_look M rfl (by rfl) (fun w => by first | (simp [go_sem]; done) | fail) (fun w hs K hK => ?_); go_simp; refine hK _ ?_; clear hK K hs w; (try walk_nrm))
      (refine opsS_look M rfl (by rfl) (fun w => by first | (simp [go_sem]; done) | fail) (fun w hs K hK => ?_); go_simp; refine hK _ ?_; clear hK K hs w; (try walk_nrm))
      refine opsS_nil M ?_
      try simp only [thenS, inBlockS]
      refine wpS_block M ?_
      refine wpS_cond M (v := true) (by rfl) ?_
      simp only [if_true, if_false, Bool.false_eq_true]
      refine wpS_exit M ?_
      try simp only [thenS, inBlockS, if_true, if_false, eq_self, reduceIte, Nat.reduceEqDiff, OfNat.ofNat_ne_ofNat, OfNat.ofNat_ne_zero, OfNat.zero_ne_ofNat, Nat.zero_ne_one, Nat.one_ne_zero, OfNat.ofNat_ne_one, OfNat.one_ne_ofNat]
      refine ⟨.inl rfl, rfl, (allOut out nx σ₀ pre).length, true, by rw [hx], hd, .inl rfl, ⟨pre, x :: suf, hL.out, Nat.le_refl _, hI, fun e => by rw [hwh] at e; cases e⟩, hown⟩

end Go.Proofs.Ytdmhgajamepgoaa.Q
