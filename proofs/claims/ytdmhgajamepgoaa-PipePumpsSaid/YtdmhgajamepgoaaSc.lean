/-
  OWN TEXT. PIPE: the law PipePumps: plain facts; the outermost frame's way out with a deferred call; its tail walked.
-/
import Derived.Test.YtdmhgajamepgoaaSa
import Derived.Test.YtdmhgajamepgoaaSb
set_option linter.unusedVariables false
set_option linter.unusedSimpArgs false
set_option linter.unusedSectionVars false
namespace Go.Proofs.Ytdmhgajamepgoaa.Q
open Go Go.Conc

/-! ### plain -/
def nums (k : Nat) : List Int := (List.range k).map fun (i : Nat) => (i : Int)
theorem nums_len (k : Nat) : (nums k).length = k := by simp [nums]
theorem nums_get {k i : Nat} (h : i < k) : (nums k)[i]? = some (i : Int) := by simp [nums, h]
theorem nums_take {k m : Nat} (h : m ≤ k) : (nums k).take m = nums m := by
  simp only [nums, ← List.map_take, List.take_range, Nat.min_eq_left h]
theorem nums_push (k : Nat) : nums k ++ [(k : Int)] = nums (k + 1) := by simp [nums, List.range_succ]
theorem nums_pre {k : Nat} {pre suf : List Int} (h : nums k = pre ++ suf) : pre.length ≤ k ∧ pre = nums pre.length ∧ (suf = [] → pre.length = k) := by
  have hl : k = pre.length + suf.length := by rw [← List.length_append, ← h, nums_len]
  refine ⟨by omega, ?_, fun e => by rw [e] at hl; simpa using hl.symm⟩
  have : (nums k).take pre.length = pre := by rw [h]; simp
  rw [nums_take (by omega)] at this
  exact this.symm
theorem domP (K : Nat) : ∀ (L σ : List Int), (∀ x ∈ L, 0 ≤ x ∧ x.toNat < K) → σ.length + L.length ≤ 1000 → DomAll (fun wl n => wl ++ [n]) (fun (wl : List Int) n => 0 ≤ n ∧ n.toNat < K ∧ wl.length ≤ 1000) σ L := by
  intro L
  induction L with
  | nil => intro σ _ _; trivial
  | cons x L ih =>
    intro σ h hl
    simp only [List.length_cons] at hl
    exact ⟨⟨(h x (List.mem_cons_self ..)).1, (h x (List.mem_cons_self ..)).2, by omega⟩, ih _ (fun y hy => h y (List.mem_cons_of_mem _ hy)) (by simp; omega)⟩
theorem mem_nums {k : Nat} {x : Int} (h : x ∈ nums k) : 0 ≤ x ∧ x.toNat < k := by
  simp only [nums, List.mem_map, List.mem_range] at h
  obtain ⟨i, hi, rfl⟩ := h
  exact ⟨by omega, by simpa using hi⟩
theorem foldP : ∀ (L σ : List Int), L.foldl (fun wl n => wl ++ [n]) σ = σ ++ L := by
  intro L
  induction L with
  | nil => intro σ; simp
  | cons x L ih => intro σ; simp [ih]
theorem allP (LL : List (List Int)) : ∀ (L σ : List Int), allOut (fun (_ : List Int) n => LL.getD n.toNat []) (fun wl n => wl ++ [n]) σ L = (L.map fun n => LL.getD n.toNat []).flatten := by
  intro L
  induction L with
  | nil => intro σ; rfl
  | cons x L ih => intro σ; simp only [allOut, List.map_cons, List.flatten_cons, ih]
theorem map_nums {LL : List (List Int)} {m : Nat} (h : m ≤ LL.length) : (nums m).map (fun n => LL.getD n.toNat []) = LL.take m := by
  apply List.ext_getElem?
  intro i
  simp only [nums, List.map_map, List.getElem?_map]
  by_cases hi : i < m
  · rw [List.getElem?_range hi, List.getElem?_take_of_lt hi]
    simp [List.getD_eq_getElem?_getD, List.getElem?_eq_getElem (show i < LL.length by omega)]
  · rw [List.getElem?_eq_none (by simp; omega), List.getElem?_eq_none (by simp; omega)]
    rfl
theorem allN {LL : List (List Int)} {m : Nat} (h : m ≤ LL.length) (σ : List Int) : allOut (fun (_ : List Int) n => LL.getD n.toNat []) (fun wl n => wl ++ [n]) σ (nums m) = (LL.take m).flatten := by rw [allP, map_nums h]
theorem finP {LL : List (List Int)} {I : List Int → List Chunk → Prop} {wh : Bool} {s : Nat} {sw : List Chunk} (h : FinOf I (fun (_ : List Int) n => LL.getD n.toNat []) (fun wl n => wl ++ [n]) [] (nums LL.length) wh s sw) :
    ∃ m, m ≤ LL.length ∧ s ≤ ((LL.take m).flatten).length ∧ I (nums m) sw ∧ (wh = true → m = LL.length) := by
  obtain ⟨pre, suf, h0, h1, h2, h3⟩ := h
  obtain ⟨e1, e2, e3⟩ := nums_pre h0
  refine ⟨pre.length, e1, ?_, ?_, fun e => e3 (h3 e)⟩
  · rw [e2, allN e1] at h1
    exact h1
  · rw [foldP, List.nil_append, e2] at h2
    exact h2
theorem reach {LL : List (List Int)} {m s mo : Nat} (h1 : s ≤ ((LL.take m).flatten).length) (h2 : (LL.flatten.take mo).length ≤ s) (h3 : decide (LL.flatten.length < mo) = true → m = LL.length) (i : Nat) (hi : i < LL.length) (hn : ((LL.take i).flatten).length < mo) : i < m := by
  rcases Nat.lt_or_ge i m with h | h
  · exact h
  · exfalso
    have hmono : ((LL.take m).flatten).length ≤ ((LL.take i).flatten).length := by
      have : LL.take m = (LL.take i).take m := by rw [List.take_take, Nat.min_eq_left h]
      rw [this]
      conv => rhs; rw [← List.take_append_drop m (LL.take i), List.flatten_append, List.length_append]
      omega
    rw [List.length_take] at h2
    by_cases hc : LL.flatten.length < mo
    · have := h3 (decide_eq_true hc); omega
    · omega
theorem flat_take_le {LL : List (List Int)} (i : Nat) (hl : ∀ l ∈ LL, l.length ≤ 40) (hlen : LL.length ≤ 40) : ((LL.take i).flatten).length ≤ 1600 := by
  have h1 := flat_len (LL.take i) fun x hx => hl x (List.mem_of_mem_take hx)
  have h3 : (LL.take i).length ≤ LL.length := by rw [List.length_take]; omega
  omega
theorem flat_len_push {LL : List (List Int)} {i : Nat} {l : List Int} (h : LL[i]? = some l) : ((LL.take i).flatten).length + l.length = ((LL.take (i + 1)).flatten).length := by rw [← flat_push h, List.length_append]

theorem mkFd {C : (Nat → Value) → Array Value} {tm : Array Value} {ds : List Deferred} (h : tm = C (fun i => tm.getD i undef)) : ∃ f, (⟨tm, ds⟩ : Act) = ⟨C f, ds⟩ := ⟨_, by rw [← h]⟩

/-! ### the way out -/
def LeaveOut (P : Program) (W : World) (Post : Value → World → Prop) (f : FuncId) (a : Act) (t : Tau CX) : Prop := ∀ todo, J (CMv P W Post) t (G { (base f).at a todo with mode := .returning } [])
section
variable {P : Program} {W : World} {Post : Value → World → Prop} {f : FuncId}
theorem leaveOut_done {fn : Func} {a : Act} {t : Tau CX} {v : Value} (hf : P.funcs[f]? = some fn) (hi : P.inits.idxOf? f = none) (hx : t.x = .alone) (hd : t.d = 0) (hdf : a.defers = []) (hr : ResultsC P fn a.tmps v) (hp : ∀ w, Sat W t.sg w → Post v w) : LeaveOut P W Post f a t :=
  fun _ => J.step (cmoves P W Post) (.act rfl (.fin hx hd fun w hw => ⟨v, #[], stepG_end_main rfl hdf hf hi (hr w).1 (hr w).2, by simp, hp w hw⟩))
theorem leaveOut_defer {g : FuncId} {gn : Func} {a : Act} {t : Tau CX} {args : Array Value} {ds : List Deferred} {c : Code} {Post' : Tau CX → Prop} (hd : a.defers = dcall g args :: ds) (hf : P.funcs[g]? = some gn)
    (hname : (gn.name == "runtime.NumGoroutine") = false) (hb : gn.body = some c) (h : DCallsS (CMv P W Post) P g args t Post') (hn : ∀ t', Post' t' → LeaveOut P W Post f ⟨a.tmps, ds⟩ t') : LeaveOut P W Post f a t := by
  intro todo
  refine J.quiet (cmoves P W Post) rfl (fun w => stepG_unwind_enter hd hf hname hb) ?_
  rw [← enter_atD args hf hb]
  exact h _ _ rfl fun t' hl => hn t' hl todo
theorem j_of_lawD {fn : Func} {c : Code} {args : Array Value} (hf : P.funcs[f]? = some fn) (hb : fn.body = some c)
    (h : wpS (CMv P W Post) f c (bodyPostS (LeaveOut P W Post f)) { tmps := args ++ Array.replicate (fn.ntmps - args.size) undef, defers := [] } ⟨[], 0, .alone⟩) :
    J (CMv P W Post) ⟨[], 0, .alone⟩ (G (Frame.enter P f args .normal) []) := by
  rw [enter_at args hf hb]
  refine h (base f) [] [] rfl (by simp [base]) fun e a' t' q => ?_
  cases e with
  | normal => exact J.quiet (cmoves P W Post) rfl (fun _ => stepG_end) (q [])
  | ret => exact fun todo => q todo
  | exit id => exact q.elim
  | goto l => exact q.elim
  | panic ch => exact q.elim
  | outgrown => exact q.elim
end

noncomputable def code5 : Code := Try.f5.body.getD .skip
/-- The chunks, as the law finds them. -/
def Rows0 (W : World) (vs : List Value) (LL : List (List Int)) : Prop := ∀ (i : Nat) (l : List Int), LL[i]? = some l → ∃ v, vs[i]? = some v ∧ RowS W [] v (l.map iv)

set_option maxRecDepth 100000 in
set_option maxHeartbeats 4000000 in
theorem tail_walk {W : World} {Post : Value → World → Prop} {QQ : Exit → Act → Tau CX → Prop} {ds : List Deferred} {t : Tau CX} {d3 bx : Nat} {ra ga : Option Addr} {rc gc m mo : Nat} {vs : List Value} {LL : List (List Int)}
    (hd3 : (⟨d3, .cells #[.slice ra LL.length rc] 45, true⟩ : Chunk) ∈ t.sg) (hbx : (⟨bx, .cells #[.slice ga m gc] 28, true⟩ : Chunk) ∈ t.sg) (hw : OwnRow t.sg (.slice ga m gc) (nums m))
    (hrow : RowS W [] (.slice ra LL.length rc) vs) (h2 : Rows0 W vs LL) (hlen : LL.length ≤ 40) (hl : ∀ l ∈ LL, l.length ≤ 40) (hm : m ≤ LL.length) (hmo : mo ≤ 32767)
    (hfin : ∀ i, i < LL.length → ((LL.take i).flatten).length < mo → i < m) (u : Nat → Value) (hq : ∀ a, a.defers = ds → a.tmps.getD 6 undef = .bool true → QQ .ret a t) :
    wpS (CMv Try.prog W Post) 5 (seqR (seqR (seqR (seqR (seqR (seqR (seqR (seqR (seqR (seqR (seqR (seqR (seqR code5))))))))))))) QQ ⟨#[u 0, u 1, .int .i16 mo, .pointer (some ⟨d3, 0, none⟩), u 4, u 5, u 6, u 7, u 8, u 9, .pointer (some ⟨bx, 0, none⟩), u 11, u 12, u 13, u 14, u 15, u 16, u 17, u 18, u 19, u 20, u 21, u 22, u 23, u 24, u 25, u 26, u 27, u 28, u 29, u 30, u 31, u 32, u 33, u 34, u 35, u 36, u 37, u 38, u 39, u 40, u 41, u 42, u 43, u 44, u 45, u 46, u 47, u 48, u 49, u 50, u 51, u 52, u 53, u 54, u 55, u 56, u 57, u 58, u 59, u 60, u 61, u 62, u 63, u 64, u 65, u 66, u 67, u 68, u 69, u 70, u 71, u 72, u 73, u 74, u 75, u 76, u 77, u 78, u 79, u 80, u 81, u 82, u 83, u 84, u 85, u 86, u 87, u 88, u 89, u 90, u 91, u 92, u 93, u 94, u 95, u 96, u 97, u 98, u 99, u 100, u 101, u 102, u 103, u 104, u 105, u 106, u 107, u 108, u 109, u 110, u 111, u 112, u 113, u 114, u 115, u 116, u 117, u 118, u 119, u 120, u 121, u 122, u 123, u 124, u 125, u 126], ds⟩ t := by
  have M := cmoves Try.prog W Post
  have hns : ¬ cstrict t.x := fun h => h
  show wpS _ 5 (Code.seq _ _) _ _ _
  refine wpS_seq M ?_
  refine wpS_seq M ?_
  refine wpS_region M ?_
  simp only [List.size_toArray, List.length_cons, List.length_nil, Nat.reduceAdd, Nat.zero_add, List.range, List.range.loop]
  refine opsS_ld M (j := 0) hbx (by first | rfl | simp | assumption) rfl (by rfl) hns (fun w hcell e he => by simp [go_sem, hcell] at he; exact ⟨_, he⟩) (fun w hcell K hK => ?_)
  go_simp
  refine hK _ ?_
  clear hK K hcell w
  try walk_nrm
  (refine opsS_look M rfl (by rfl) (fun w => by first | (simp [go_sem]; done) | fail) (fun w hs K hK => ?_); go_simp; refine hK _ ?_; clear hK K hs w; (try walk_nrm))
  (refine opsS_look M rfl (by rfl) (fun w => by first | (simp [go_sem]; done) | fail) (fun w hs K hK => ?_); go_simp; refine hK _ ?_; clear hK K hs w; (try walk_nrm))
  refine opsS_nil M ?_
  try simp only [thenS, inBlockS]
  refine wpS_block M ?_
  refine wpS_loopN M (I := fun N a t' => ∃ i, i + N = m ∧ (∃ u : Nat → Value, a = ⟨#[u 0, u 1, .int .i16 mo, .pointer (some ⟨d3, 0, none⟩), u 4, u 5, u 6, u 7, u 8, u 9, .pointer (some ⟨bx, 0, none⟩), u 11, u 12, u 13, u 14, u 15, u 16, u 17, u 18, u 19, u 20, u 21, u 22, u 23, u 24, u 25, u 26, u 27, u 28, u 29, u 30, u 31, u 32, u 33, u 34, u 35, u 36, u 37, u 38, u 39, u 40, u 41, u 42, u 43, u 44, u 45, u 46, u 47, u 48, u 49, u 50, u 51, u 52, u 53, u 54, u 55, u 56, u 57, u 58, u 59, u 60, u 61, u 62, u 63, u 64, u 65, u 66, u 67, u 68, u 69, u 70, u 71, u 72, u 73, u 74, u 75, u 76, u 77, u 78, u 79, u 80, u 81, u 82, u 83, u 84, u 85, u 86, u 87, u 88, u 89, u 90, u 91, u 92, .slice ga m gc, .int .i64 m, .int .i64 i, u 96, u 97, u 98, u 99, u 100, u 101, u 102, u 103, u 104, u 105, u 106, u 107, u 108, u 109, u 110, u 111, u 112, u 113, u 114, u 115, u 116, u 117, u 118, u 119, u 120, u 121, u 122, u 123, u 124, u 125, u 126], ds⟩) ∧ t' = t) m ⟨0, by omega, mkFd (by kernel_rfl), rfl⟩ ?_
  rintro N a t' ⟨i, hi, ⟨u, rfl⟩, rfl⟩
  replace hi := Hid.mk hi
  refine wpS_seq M ?_
  refine wpS_region M ?_
  simp only [List.size_toArray, List.length_cons, List.length_nil, Nat.reduceAdd, Nat.zero_add, List.range, List.range.loop]
  cases N with
  | succ N =>
    have hlt : (i : Int) < (m : Int) := by have := hi.out; omega
    have hltn : i < m := by have := hi.out; omega
    (refine opsS_look M rfl (by rfl) (fun w => by first | (simp [go_sem]; done) | fail) (fun w hs K hK => ?_); go_simp; refine hK _ ?_; clear hK K hs w; (try walk_nrm))
    clear hlt
    refine opsS_nil M ?_
    try simp only [thenS, inBlockS]
    refine wpS_seq M ?_
    refine wpS_cond M (v := true) (by rfl) ?_
    simp only [if_true, if_false, Bool.false_eq_true]
    refine wpS_skip M ?_
    try simp only [thenS, inBlockS]
    refine wpS_seq M ?_
    refine wpS_block M ?_
    obtain ⟨b', o', rfl, hrd⟩ := (hw.row (B := W)).get i (iv i) (by rw [List.getElem?_map, nums_get hltn]; rfl)
    refine wpS_seq M ?_
    refine wpS_region M ?_
    simp only [List.size_toArray, List.length_cons, List.length_nil, Nat.reduceAdd, Nat.zero_add, List.range, List.range.loop]
    (refine opsS_look M rfl (by rfl) (fun w => by first | (simp [go_sem]; done) | fail) (fun w hs K hK => ?_); go_simp; refine hK _ ?_; clear hK K hs w; (try walk_nrm))
    (refine opsS_look M rfl (by rfl) (fun w => by first | (simp [go_sem, hltn]; done) | fail) (fun w hs K hK => ?_); go_simp; refine hK _ ?_; clear hK K hs w; (try walk_nrm))
    refine opsS_ldR M hrd rfl (by rfl) hns (fun w hcell e he => by simp [go_sem, hcell] at he; exact ⟨_, he⟩) (fun w hcell K hK => ?_)
    go_simp
    refine hK _ ?_
    clear hK K hcell w
    try walk_nrm
    simp only [iv]
    (refine opsS_look M rfl (by rfl) (fun w => by first | (simp [go_sem]; done) | fail) (fun w hs K hK => ?_); go_simp; refine hK _ ?_; clear hK K hs w; (try walk_nrm))
    (refine opsS_look M rfl (by rfl) (fun w => by first | (simp [go_sem]; done) | fail) (fun w hs K hK => ?_); go_simp; refine hK _ ?_; clear hK K hs w; (try walk_nrm))
    refine opsS_nil M ?_
    try simp only [thenS, inBlockS]
    refine wpS_seq M ?_
    refine wpS_region M ?_
    simp only [List.size_toArray, List.length_cons, List.length_nil, Nat.reduceAdd, Nat.zero_add, List.range, List.range.loop]
    repeat (first | (refine opsS_look M rfl (by rfl) (fun w => by first | (simp [go_sem]; done) | fail) (fun w hs K hK => ?_); go_simp; refine hK _ ?_; clear hK K hs w; (try walk_nrm)) | (refine opsS_unwanted M rfl (by rfl) ?_; (try walk_nrm)))
    refine opsS_nil M ?_
    try simp only [thenS, inBlockS]
    refine wpS_cond M (v := false) (by rfl) ?_
    simp only [if_true, if_false, Bool.false_eq_true]
    refine wpS_skip M ?_
    try simp only [thenS, inBlockS]
    have hw1 := w1 i (by omega)
    refine wpS_region M ?_
    simp only [List.size_toArray, List.length_cons, List.length_nil, Nat.reduceAdd, Nat.zero_add, List.range, List.range.loop]
    (refine opsS_look M rfl (by rfl) (fun w => by first | (simp [go_sem]; done) | fail) (fun w hs K hK => ?_); go_simp; refine hK _ ?_; clear hK K hs w; (try walk_nrm))
    (refine opsS_look M rfl (by rfl) (fun w => by first | (simp [go_sem]; done) | fail) (fun w hs K hK => ?_); go_simp; refine hK _ ?_; clear hK K hs w; (try walk_nrm))
    refine opsS_nil M ?_
    try simp only [thenS, inBlockS]
    exact ⟨N, by omega, i + 1, by have := hi.out; omega, by simp only [Int.natCast_add, Int.natCast_one, Int.cast_ofNat_Int]; exact mkFd (by kernel_rfl), by trivial⟩
  | zero =>
    have hlt : ¬ ((i : Int) < (m : Int)) := by have := hi.out; omega
    (refine opsS_look M rfl (by rfl) (fun w => by first | (simp [go_sem]; done) | fail) (fun w hs K hK => ?_); go_simp; refine hK _ ?_; clear hK K hs w; (try walk_nrm))
    clear hlt hi
    refine opsS_nil M ?_
    try simp only [thenS, inBlockS]
    refine wpS_seq M ?_
    refine wpS_cond M (v := false) (by rfl) ?_
    simp only [if_true, if_false, Bool.false_eq_true]
    refine wpS_exit M ?_
    try simp only [thenS, inBlockS, if_true, if_false, eq_self, reduceIte, Nat.reduceEqDiff, OfNat.ofNat_ne_ofNat, OfNat.ofNat_ne_zero, OfNat.zero_ne_ofNat, Nat.zero_ne_one, Nat.one_ne_zero, OfNat.ofNat_ne_one, OfNat.one_ne_ofNat]
    refine wpS_seq M ?_
    refine wpS_region M ?_
    simp only [List.size_toArray, List.length_cons, List.length_nil, Nat.reduceAdd, Nat.zero_add, List.range, List.range.loop]
    (refine opsS_look M rfl (by rfl) (fun w => by first | (simp [go_sem]; done) | fail) (fun w hs K hK => ?_); go_simp; refine hK _ ?_; clear hK K hs w; (try walk_nrm))
    refine opsS_nil M ?_
    try simp only [thenS, inBlockS]
    refine wpS_seq M ?_
    refine wpS_mono (Q := fun e a t2 => e = .normal ∧ ∃ i : Nat, i ≤ m ∧ (∃ u : Nat → Value, a = ⟨#[u 0, u 1, u 2, u 3, u 4, u 5, u 6, u 7, u 8, u 9, .pointer (some ⟨bx, 0, none⟩), u 11, u 12, u 13, u 14, u 15, u 16, u 17, .int .i64 i, u 19, u 20, u 21, u 22, u 23, u 24, u 25, u 26, u 27, u 28, u 29, u 30, u 31, u 32, u 33, u 34, u 35, u 36, u 37, u 38, u 39, u 40, u 41, u 42, u 43, u 44, u 45, u 46, u 47, u 48, u 49, u 50, u 51, u 52, u 53, u 54, u 55, u 56, u 57, u 58, u 59, u 60, u 61, u 62, u 63, u 64, u 65, u 66, u 67, u 68, u 69, u 70, u 71, u 72, u 73, u 74, u 75, u 76, u 77, u 78, u 79, u 80, u 81, u 82, u 83, u 84, u 85, u 86, u 87, u 88, u 89, u 90, u 91, u 92, u 93, u 94, u 95, u 96, u 97, u 98, u 99, u 100, u 101, u 102, u 103, u 104, u 105, u 106, u 107, u 108, u 109, u 110, u 111, u 112, u 113, u 114, u 115, u 116, u 117, u 118, u 119, u 120, u 121, u 122, u 123, u 124, u 125, u 126], ds⟩) ∧ t2 = t') ?_ ?_
    · refine wpS_seq M ?_
      refine wpS_region M ?_
      simp only [List.size_toArray, List.length_cons, List.length_nil, Nat.reduceAdd, Nat.zero_add, List.range, List.range.loop]
      (refine opsS_look M rfl (by rfl) (fun w => by first | (simp [go_sem]; done) | fail) (fun w hs K hK => ?_); go_simp; refine hK _ ?_; clear hK K hs w; (try walk_nrm))
      refine opsS_nil M ?_
      try simp only [thenS, inBlockS]
      refine wpS_block M ?_
      have hwm : IntKind.i64.wrap (mo : Int) = (mo : Int) := by rw [IntKind.wrap_i64]; omega
      refine wpS_loopN M (I := fun N a t2 => ∃ i n : Nat, i + N = LL.length ∧ n = ((LL.take i).flatten).length ∧ i ≤ m ∧ (∃ u : Nat → Value, a = ⟨#[u 0, u 1, .int .i16 mo, .pointer (some ⟨d3, 0, none⟩), u 4, u 5, u 6, u 7, u 8, u 9, .pointer (some ⟨bx, 0, none⟩), u 11, u 12, u 13, u 14, u 15, u 16, u 17, .int .i64 i, .int .i64 n, u 20, u 21, u 22, u 23, u 24, u 25, u 26, u 27, u 28, u 29, u 30, u 31, u 32, u 33, u 34, u 35, u 36, u 37, u 38, u 39, u 40, u 41, u 42, u 43, u 44, u 45, u 46, u 47, u 48, u 49, u 50, u 51, u 52, u 53, u 54, u 55, u 56, u 57, u 58, u 59, u 60, u 61, u 62, u 63, u 64, u 65, u 66, u 67, u 68, u 69, u 70, u 71, u 72, u 73, u 74, u 75, u 76, u 77, u 78, u 79, u 80, u 81, u 82, u 83, u 84, u 85, u 86, u 87, u 88, u 89, u 90, u 91, u 92, u 93, u 94, u 95, u 96, u 97, u 98, u 99, u 100, u 101, u 102, u 103, u 104, u 105, u 106, u 107, u 108, u 109, u 110, u 111, u 112, u 113, u 114, u 115, u 116, u 117, u 118, u 119, u 120, u 121, u 122, u 123, u 124, u 125, u 126], ds⟩) ∧ t2 = t') LL.length ⟨0, 0, by omega, by simp, Nat.zero_le _, mkFd (by kernel_rfl), rfl⟩ ?_
      rintro N a t2 ⟨i, n, hi, hn, him, ⟨u, rfl⟩, rfl⟩
      replace hi := Hid.mk hi
      replace hn := Hid.mk hn
      replace him := Hid.mk him
      refine wpS_seq M ?_
      refine wpS_seq M ?_
      refine wpS_region M ?_
      simp only [List.size_toArray, List.length_cons, List.length_nil, Nat.reduceAdd, Nat.zero_add, List.range, List.range.loop]
      cases N with
      | zero =>
        have hlt : ¬ ((i : Int) < (LL.length : Int)) := by have := hi.out; omega
        (refine opsS_look M rfl (by rfl) (fun w => by first | (simp [go_sem]; done) | fail) (fun w hs K hK => ?_); go_simp; refine hK _ ?_; clear hK K hs w; (try walk_nrm))
        refine opsS_ld M (j := 0) hd3 (by first | rfl | simp | assumption) rfl (by rfl) hns (fun w hcell e he => by simp [go_sem, hcell] at he; exact ⟨_, he⟩) (fun w hcell K hK => ?_)
        go_simp
        refine hK _ ?_
        clear hK K hcell w
        try walk_nrm
        repeat (first | (refine opsS_look M rfl (by rfl) (fun w => by first | (simp [go_sem]; done) | fail) (fun w hs K hK => ?_); go_simp; refine hK _ ?_; clear hK K hs w; (try walk_nrm)) | (refine opsS_unwanted M rfl (by rfl) ?_; (try walk_nrm)))
        refine opsS_nil M ?_
        try simp only [thenS, inBlockS]
        refine wpS_cond M (v := false) (by rfl) ?_
        simp only [if_true, if_false, Bool.false_eq_true]
        refine wpS_exit M ?_
        try simp only [thenS, inBlockS, if_true, if_false, eq_self, reduceIte, Nat.reduceEqDiff, OfNat.ofNat_ne_ofNat, OfNat.ofNat_ne_zero, OfNat.zero_ne_ofNat, Nat.zero_ne_one, Nat.one_ne_zero, OfNat.ofNat_ne_one, OfNat.one_ne_ofNat]
        exact ⟨by trivial, i, him.out, mkFd (by kernel_rfl), by trivial⟩
      | succ N =>
        have hlt : (i : Int) < (LL.length : Int) := by have := hi.out; omega
        have hltn : i < LL.length := by have := hi.out; omega
        by_cases hnm : (n : Int) < (mo : Int)
        · have hi2 : i < m := hfin i hltn (by have := hn.out; omega)
          replace hi2 := Hid.mk hi2
          (refine opsS_look M rfl (by rfl) (fun w => by first | (simp [go_sem]; done) | fail) (fun w hs K hK => ?_); go_simp; refine hK _ ?_; clear hK K hs w; (try walk_nrm))
          refine opsS_ld M (j := 0) hd3 (by first | rfl | simp | assumption) rfl (by rfl) hns (fun w hcell e he => by simp [go_sem, hcell] at he; exact ⟨_, he⟩) (fun w hcell K hK => ?_)
          go_simp
          refine hK _ ?_
          clear hK K hcell w
          try walk_nrm
          repeat (first | (refine opsS_look M rfl (by rfl) (fun w => by first | (simp [go_sem]; done) | fail) (fun w hs K hK => ?_); go_simp; refine hK _ ?_; clear hK K hs w; (try walk_nrm)) | (refine opsS_unwanted M rfl (by rfl) ?_; (try walk_nrm)))
          refine opsS_nil M ?_
          try simp only [thenS, inBlockS]
          clear hlt hnm
          refine wpS_cond M (v := true) (by rfl) ?_
          simp only [if_true, if_false, Bool.false_eq_true]
          refine wpS_skip M ?_
          try simp only [thenS, inBlockS]
          obtain ⟨l, hli⟩ : ∃ l, LL[i]? = some l := ⟨LL[i], List.getElem?_eq_getElem hltn⟩
          obtain ⟨v, hv, hxv⟩ := h2 i l hli
          obtain ⟨b', o', rfl, hrd⟩ := (hrow.row.mono (s' := t2.sg) (by simp)).get i v hv
          obtain ⟨la, lc, rfl, -⟩ := hxv
          simp only [List.length_map] at hrd
          have hpush := flat_len_push hli
          have hb1 := flat_take_le (i + 1) hl hlen
          obtain ⟨n2, hn2⟩ : ∃ n2, n2 = ((LL.take (i + 1)).flatten).length := ⟨_, rfl⟩
          have hadd : IntKind.i64.wrap ((n : Int) + (l.length : Int)) = (n2 : Int) := by
            rw [IntKind.wrap_i64]
            have := hn.out
            omega
          clear hpush hb1
          replace hn2 := Hid.mk hn2
          refine wpS_seq M ?_
          refine wpS_block M ?_
          refine wpS_region M ?_
          simp only [List.size_toArray, List.length_cons, List.length_nil, Nat.reduceAdd, Nat.zero_add, List.range, List.range.loop]
          (refine opsS_look M rfl (by rfl) (fun w => by first | (simp [go_sem]; done) | fail) (fun w hs K hK => ?_); go_simp; refine hK _ ?_; clear hK K hs w; (try walk_nrm))
          refine opsS_ld M (j := 0) hd3 (by first | rfl | simp | assumption) rfl (by rfl) hns (fun w hcell e he => by simp [go_sem, hcell] at he; exact ⟨_, he⟩) (fun w hcell K hK => ?_)
          go_simp
          refine hK _ ?_
          clear hK K hcell w
          try walk_nrm
          (refine opsS_look M rfl (by rfl) (fun w => by first | (simp [go_sem]; done) | fail) (fun w hs K hK => ?_); go_simp; refine hK _ ?_; clear hK K hs w; (try walk_nrm))
          (refine opsS_look M rfl (by rfl) (fun w => by first | (simp [go_sem, hltn]; done) | fail) (fun w hs K hK => ?_); go_simp; refine hK _ ?_; clear hK K hs w; (try walk_nrm))
          refine opsS_ldR M hrd rfl (by rfl) hns (fun w hcell e he => by simp [go_sem, hcell] at he; exact ⟨_, he⟩) (fun w hcell K hK => ?_)
          go_simp
          refine hK _ ?_
          clear hK K hcell w
          try walk_nrm
          (refine opsS_look M rfl (by rfl) (fun w => by first | (simp [go_sem]; done) | fail) (fun w hs K hK => ?_); go_simp; refine hK _ ?_; clear hK K hs w; (try walk_nrm))
          (refine opsS_look M rfl (by rfl) (fun w => by first | (simp [go_sem]; done) | fail) (fun w hs K hK => ?_); go_simp; refine hK _ ?_; clear hK K hs w; (try walk_nrm))
          (refine opsS_look M rfl (by rfl) (fun w => by first | (simp [go_sem]; done) | fail) (fun w hs K hK => ?_); go_simp; refine hK _ ?_; clear hK K hs w; (try walk_nrm))
          refine opsS_nil M ?_
          try simp only [thenS, inBlockS]
          have hw1 := w1 i (by omega)
          refine wpS_region M ?_
          simp only [List.size_toArray, List.length_cons, List.length_nil, Nat.reduceAdd, Nat.zero_add, List.range, List.range.loop]
          (refine opsS_look M rfl (by rfl) (fun w => by first | (simp [go_sem]; done) | fail) (fun w hs K hK => ?_); go_simp; refine hK _ ?_; clear hK K hs w; (try walk_nrm))
          (refine opsS_look M rfl (by rfl) (fun w => by first | (simp [go_sem]; done) | fail) (fun w hs K hK => ?_); go_simp; refine hK _ ?_; clear hK K hs w; (try walk_nrm))
          (refine opsS_look M rfl (by rfl) (fun w => by first | (simp [go_sem]; done) | fail) (fun w hs K hK => ?_); go_simp; refine hK _ ?_; clear hK K hs w; (try walk_nrm))
          refine opsS_nil M ?_
          try simp only [thenS, inBlockS]
          exact ⟨N, by omega, i + 1, n2, by have := hi.out; omega, hn2.out, hi2.out, by simp only [Int.natCast_add, Int.natCast_one, Int.cast_ofNat_Int]; exact mkFd (by kernel_rfl), by trivial⟩
        · (refine opsS_look M rfl (by rfl) (fun w => by first | (simp [go_sem]; done) | fail) (fun w hs K hK => ?_); go_simp; refine hK _ ?_; clear hK K hs w; (try walk_nrm))
          refine opsS_ld M (j := 0) hd3 (by first | rfl | simp | assumption) rfl (by rfl) hns (fun w hcell e he => by simp [go_sem, hcell] at he; exact ⟨_, he⟩) (fun w hcell K hK => ?_)
          go_simp
          refine hK _ ?_
          clear hK K hcell w
          try walk_nrm
          repeat (first | (refine opsS_look M rfl (by rfl) (fun w => by first | (simp [go_sem]; done) | fail) (fun w hs K hK => ?_); go_simp; refine hK _ ?_; clear hK K hs w; (try walk_nrm)) | (refine opsS_unwanted M rfl (by rfl) ?_; (try walk_nrm)))
          refine opsS_nil M ?_
          try simp only [thenS, inBlockS]
          refine wpS_cond M (v := false) (by rfl) ?_
          simp only [if_true, if_false, Bool.false_eq_true]
          refine wpS_exit M ?_
          try simp only [thenS, inBlockS, if_true, if_false, eq_self, reduceIte, Nat.reduceEqDiff, OfNat.ofNat_ne_ofNat, OfNat.ofNat_ne_zero, OfNat.zero_ne_ofNat, Nat.zero_ne_one, Nat.one_ne_zero, OfNat.ofNat_ne_one, OfNat.one_ne_ofNat]
          exact ⟨by trivial, i, him.out, mkFd (by kernel_rfl), by trivial⟩
    · rintro e a t2 ⟨rfl, i, him, ⟨u, rfl⟩, rfl⟩
      simp only [thenS]
      refine wpS_seq M ?_
      refine wpS_region M ?_
      simp only [List.size_toArray, List.length_cons, List.length_nil, Nat.reduceAdd, Nat.zero_add, List.range, List.range.loop]
      refine opsS_ld M (j := 0) hbx (by first | rfl | simp | assumption) rfl (by rfl) hns (fun w hcell e he => by simp [go_sem, hcell] at he; exact ⟨_, he⟩) (fun w hcell K hK => ?_)
      go_simp
      refine hK _ ?_
      clear hK K hcell w
      try walk_nrm
      have hge : (i : Int) ≤ (m : Int) := by omega
      (refine opsS_look M rfl (by rfl) (fun w => by first | (simp [go_sem]; done) | fail) (fun w hs K hK => ?_); go_simp; refine hK _ ?_; clear hK K hs w; (try walk_nrm))
      (refine opsS_look M rfl (by rfl) (fun w => by first | (simp [go_sem]; done) | fail) (fun w hs K hK => ?_); go_simp; refine hK _ ?_; clear hK K hs w; (try walk_nrm))
      (refine opsS_look M rfl (by rfl) (fun w => by first | (simp [go_sem]; done) | fail) (fun w hs K hK => ?_); go_simp; refine hK _ ?_; clear hK K hs w; (try walk_nrm))
      (refine opsS_look M rfl (by rfl) (fun w => by first | (simp [go_sem]; done) | fail) (fun w hs K hK => ?_); go_simp; refine hK _ ?_; clear hK K hs w; (try walk_nrm))
      refine opsS_nil M ?_
      try simp only [thenS, inBlockS]
      refine wpS_ret M ?_
      exact hq _ rfl rfl

end Go.Proofs.Ytdmhgajamepgoaa.Q
