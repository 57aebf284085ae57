/-
  OWN TEXT. PIPE: the law PipeOrder walked.
-/
import Derived.Test.YtdmhgajamepgoaaRw
set_option linter.unusedVariables false
set_option linter.unusedSimpArgs false
set_option linter.unusedSectionVars false
namespace Go.Proofs.Ytdmhgajamepgoaa.Q
open Go Go.Conc

theorem u28 : Try.prog.underlying 28 = some (.slice 3) := by rfl
theorem run_hi (ra : Option Addr) (len rc k : Nat) (h : k ≤ rc) (w : World) : (Instr.sliceAt 28 (.slice ra len rc) none (some (.int .i64 k)) none).run Try.prog w = .ok (.slice ra k rc) w ∧ ∀ es, (Instr.sliceAt 28 (.slice ra len rc) none (some (.int .i64 k)) none).events Try.prog w es = es := by
  obtain ⟨i, hi, hz, hsz, hby⟩ := i3
  have h0 : (0 : Int) ≤ (k : Int) := by omega
  have h1 : (k : Int) ≤ (rc : Int) := by omega
  have e : (if rc = 0 then ra else ra.map (·.add (0 * 1))) = ra := by
    split
    · rfl
    · cases ra <;> simp [Addr.add]
  have e' : (if rc = 0 then ra else Option.map (fun x => x.add 0) ra) = ra := by simpa using e
  constructor
  · simp [Instr.sliceAt, Instr.slice, Instr.sliceBounds, Instr.sliceBound, run_underlying u28, asIntOf, h0, h1, h, sizeOf, typeInfo, hi, hsz, e']
  · intro es
    simp [Instr.sliceAt, Instr.slice, Instr.sliceBounds, Instr.sliceBound, run_underlying u28, asIntOf, h0, h1, h, sizeOf, typeInfo, hi, hsz]

theorem wr (r : Nat) (h : r ≤ 255) : IntKind.i64.wrap (r : Int) = (r : Int) := by rw [IntKind.wrap_i64]; omega
theorem wr1 (r n : Nat) (h : r ≤ 255) (hn : n = r + 1) : IntKind.i64.wrap (1 + (r : Int)) = (n : Int) := by rw [IntKind.wrap_i64]; omega

theorem min_lt (P : Program) (w : World) (ts : Array TypeId) (t : TypeId) (k l : Nat) : (Builtin.min_ ts t #[.int .i64 k, .int .i64 l]).run P w = .ok (.int .i64 ((min k l : Nat) : Int)) w := by
  by_cases h : (l : Int) < (k : Int)
  · have e : min k l = l := by omega
    simp [Builtin.min_, Builtin.min2, e, h]
  · have e : min k l = k := by omega
    simp [Builtin.min_, Builtin.min2, e, h]
theorem QC.keep {s s' : List Chunk} {q c room : Nat} {L : List Int} {cl : Bool} (h : QC s q c room L cl) (hk : ∀ ch ∈ s, ch.own = true → ch.b = q ∨ ch.b = c → ch ∈ s') : QC s' q c room L cl :=
  ⟨hk _ h.q rfl (.inl rfl), let ⟨sn, rn, hc⟩ := h.c; ⟨sn, rn, hk _ hc rfl (.inr rfl)⟩⟩
theorem RowAt.take {B : World} {s : List Chunk} {ra : Option Addr} {len rc : Nat} {l : List Int} (h : RowAt B s (.slice ra len rc) (l.map iv)) {k : Nat} (n : Nat) (hk : k = (l.take n).length) : RowAt B s (.slice ra k rc) ((l.take n).map iv) := by
  obtain ⟨a, cap, hv, hr⟩ := h
  injection hv with h1 h2 h3
  refine ⟨a, cap, by rw [h1, h3, hk, List.length_map], fun j u hj => hr j u ?_⟩
  rw [List.map_take, List.getElem?_take] at hj
  split at hj
  · exact hj
  · cases hj
theorem mkF {C : (Nat → Value) → Array Value} {tm : Array Value} (h : tm = C (fun i => tm.getD i undef)) : ∃ f, (⟨tm, []⟩ : Act) = ⟨C f, []⟩ := ⟨_, by rw [← h]⟩
theorem RowAt.get {B : World} {s : List Chunk} {ra : Option Addr} {len rc : Nat} {L : List Value} (h : RowAt B s (.slice ra len rc) L) : ∀ j u, L[j]? = some u → ∃ b o, ra = some ⟨b, o, none⟩ ∧ RD B s b (o + j) u := by
  obtain ⟨a, cap, hv, hr⟩ := h
  injection hv with h1 h2 h3
  subst h1
  exact hr

set_option maxRecDepth 100000 in
set_option maxHeartbeats 8000000 in
theorem order_walk {W : World} {Post : Value → World → Prop} (r : Nat) (hr : r ≤ 255) (l : List Int) (ra : Option Addr) (rc : Nat) (hrow : RowS W [] (.slice ra l.length rc) (l.map iv)) (hcap : l.length ≤ rc) :
    wpS (CMv Try.prog W Post) 4 (Try.f4.body.getD .skip) (lawEnd Try.f4) ⟨#[.int .u8 r, .slice ra l.length rc] ++ Array.replicate (Try.f4.ntmps - 2) undef, []⟩ ⟨[], 0, .alone⟩ := by
  have M := cmoves Try.prog W Post
  have hns : ∀ x : CX, ¬ cstrict x := fun x h => h
  have hp : ∀ (a : Act) (t : Tau CX), t.x = .alone → t.d = 0 → a.defers = [] → a.tmps.getD 4 undef = .bool true → lawEnd Try.f4 .ret a t := fun a t h1 h2 h3 h4 => ⟨h1, h2, h3, h4 ▸ resultsC_tmp (by rfl) _⟩
  generalize lawEnd Try.f4 = QQ at hp ⊢
  show wpS _ 4 (Code.seq _ _) _ _ _
  simp only [Try.ntmps4, Nat.reduceSub, Array.replicate_succ, Array.replicate_zero, List.push_toArray, List.append_toArray, List.nil_append, List.cons_append]
  refine wpS_seq M ?_
  refine wpS_region M ?_
  simp only [List.size_toArray, List.length_cons, List.length_nil, Nat.reduceAdd, Nat.zero_add, List.range, List.range.loop]
  (refine opsS_look M rfl (by rfl) (fun w => by first | (simp [go_sem]; done) | fail) (fun w hs K hK => ?_); go_simp; refine hK _ ?_; clear hK K hs w; (try walk_nrm))
  refine opsS_nil M ?_
  try simp only [thenS, inBlockS]
  refine wpS_seq M ?_
  refine wpS_seq M ?_
  refine wpS_region M ?_
  simp only [List.size_toArray, List.length_cons, List.length_nil, Nat.reduceAdd, Nat.zero_add, List.range, List.range.loop]
  refine opsS_callv M rfl (by rfl) rfl Try.func7 (by rfl) (by rfl) (speaks_any rfl rfl) (by (try walk_nrm) <;> rfl) ?_
  rintro v t1 ⟨rfl, k1⟩
  have hx1 : t1.x = .alone := k1.x
  have hd1 : t1.d = 0 := k1.d
  try walk_nrm
  by_cases h200 : (200 : Int) < (l.length : Int)
  · repeat (first | (refine opsS_look M rfl (by rfl) (fun w => by first | (simp [go_sem]; done) | fail) (fun w hs K hK => ?_); go_simp; refine hK _ ?_; clear hK K hs w; (try walk_nrm)) | (refine opsS_unwanted M rfl (by rfl) ?_; (try walk_nrm)))
    refine opsS_nil M ?_
    try simp only [thenS, inBlockS]
    refine wpS_cond M (v := true) (by rfl) ?_
    simp only [if_true, if_false, Bool.false_eq_true]
    refine wpS_seq M ?_
    refine wpS_region M ?_
    simp only [List.size_toArray, List.length_cons, List.length_nil, Nat.reduceAdd, Nat.zero_add, List.range, List.range.loop]
    refine opsS_callv M rfl (by rfl) rfl Try.func7 (by rfl) (by rfl) (speaks_any hx1 hd1) (by (try walk_nrm) <;> rfl) ?_
    rintro v t2 ⟨rfl, k2⟩
    try walk_nrm
    (refine opsS_look M rfl (by rfl) (fun w => by first | (simp [go_sem]; done) | fail) (fun w hs K hK => ?_); go_simp; refine hK _ ?_; clear hK K hs w; (try walk_nrm))
    refine opsS_nil M ?_
    try simp only [thenS, inBlockS]
    refine wpS_ret M ?_
    exact hp _ _ (by rw [k2.x, hx1]) (by rw [k2.d, hd1]) rfl rfl
  · repeat (first | (refine opsS_look M rfl (by rfl) (fun w => by first | (simp [go_sem]; done) | fail) (fun w hs K hK => ?_); go_simp; refine hK _ ?_; clear hK K hs w; (try walk_nrm)) | (refine opsS_unwanted M rfl (by rfl) ?_; (try walk_nrm)))
    refine opsS_nil M ?_
    try simp only [thenS, inBlockS]
    refine wpS_cond M (v := false) (by rfl) ?_
    simp only [if_true, if_false, Bool.false_eq_true]
    refine wpS_skip M ?_
    try simp only [thenS, inBlockS]
    have hlen : l.length ≤ 200 := by omega
    obtain ⟨n, hn⟩ : ∃ n, n = r + 1 := ⟨_, rfl⟩
    have hw1 := wr r hr
    have hw2 := wr1 r n hr hn
    replace hn := Hid.mk hn
    refine wpS_seq M ?_
    refine wpS_region M ?_
    simp only [List.size_toArray, List.length_cons, List.length_nil, Nat.reduceAdd, Nat.zero_add, List.range, List.range.loop]
    (refine opsS_look M rfl (by rfl) (fun w => by first | (simp [go_sem]; done) | fail) (fun w hs K hK => ?_); go_simp; refine hK _ ?_; clear hK K hs w; (try walk_nrm))
    (refine opsS_look M rfl (by rfl) (fun w => by first | (simp [go_sem]; done) | fail) (fun w hs K hK => ?_); go_simp; refine hK _ ?_; clear hK K hs w; (try walk_nrm))
    (refine opsS_look M rfl (by rfl) (fun w => by first | (simp [go_sem]; done) | fail) (fun w hs K hK => ?_); go_simp; refine hK _ ?_; clear hK K hs w; (try walk_nrm))
    (refine opsS_look M rfl (by rfl) (fun w => by first | (simp [go_sem]; done) | fail) (fun w hs K hK => ?_); go_simp; refine hK _ ?_; clear hK K hs w; (try walk_nrm))
    refine opsS_nil M ?_
    try simp only [thenS, inBlockS]
    clear hw2
    refine wpS_seq M ?_
    refine wpS_region M ?_
    simp only [List.size_toArray, List.length_cons, List.length_nil, Nat.reduceAdd, Nat.zero_add, List.range, List.range.loop]
    (refine opsS_look M rfl (by rfl) (fun w => by first | (simp [go_sem]; done) | fail) (fun w hs K hK => ?_); go_simp; refine hK _ ?_; clear hK K hs w; (try walk_nrm))
    refine opsS_callv M rfl (by rfl) rfl Try.func8 (by rfl) (by rfl) (new_any M n (by have := hn.out; omega) (by have := hn.out; omega) t1) (by (try walk_nrm) <;> rfl) ?_
    rintro v t2 ⟨q, c, rfl, k2, hQ, f2, g2, g2'⟩
    try walk_nrm
    (refine opsS_look M rfl (by rfl) (fun w => by first | (simp [go_sem]; done) | fail) (fun w hs K hK => ?_); go_simp; refine hK _ ?_; clear hK K hs w; (try walk_nrm))
    (refine opsS_look M rfl (by rfl) (fun w => by first | (simp [go_sem]; done) | fail) (fun w hs K hK => ?_); go_simp; refine hK _ ?_; clear hK K hs w; (try walk_nrm))
    (refine opsS_look M rfl (by rfl) (fun w => by first | (simp [go_sem]; done) | fail) (fun w hs K hK => ?_); go_simp; refine hK _ ?_; clear hK K hs w; (try walk_nrm))
    refine opsS_new M (.cells #[.pointer none] 24) rfl (by rfl) (fun w hs => by simp [go_sem]) (fun w hs K hK => ?_)
    go_simp
    refine hK _ fun t3 k3 hbq f3 g3 => ?_
    clear hK K
    generalize w.heap.size = bq at *
    clear hs w
    try walk_nrm
    replace hQ : QC t3.sg q c n [] false := ⟨k3.all hQ.q, let ⟨sn, rn, h⟩ := hQ.c; ⟨sn, rn, k3.all h⟩⟩
    refine opsS_facts M fun w0 hs0 => ?_
    have hbn : bq ≠ q ∧ bq ≠ c := by
      obtain ⟨sn, rn, hcc⟩ := hQ.c
      have hqq := hQ.q
      constructor
      · intro e
        have := hs0.uniq hbq hqq e
        injection this with _ h _
        injection h with h _
        simp at h
      · exact (chan_ne hs0 hbq hcc).symm
    clear hs0 w0
    have hns3 := hns t3.x
    refine opsS_st M (j := 0) (.pointer (some ⟨q, 0, none⟩)) hbq rfl rfl (by rfl) (hns _) (fun w hcell hfr e he => by simp [go_sem, hcell, hfr, ev_ptr, storedEv] at he; exact ⟨_, _, _, he⟩) (fun w hcell hfr K hK => ?_)
    go_simp
    refine hK _ fun t4 k4 hbq4 => ?_
    clear hK K hcell hfr w
    simp only [List.setIfInBounds_toArray, List.set_cons_zero] at hbq4
    try walk_nrm
    replace hQ : QC t4.sg q c n [] false := ⟨k4.sg _ hQ.q (by simp [hbn.1.symm]), let ⟨sn, rn, h⟩ := hQ.c; ⟨sn, rn, k4.sg _ h (by simp [hbn.2.symm])⟩⟩
    have hx4 : t4.x = .alone := by rw [k4.x, k3.x, k2.x, hx1]
    have hd4 : t4.d = 0 := by rw [k4.d, k3.d, k2.d, hd1]
    clear hbq k4 k3 k2
    (refine opsS_look M rfl (by rfl) (fun w => by first | (simp [go_sem]; done) | fail) (fun w hs K hK => ?_); go_simp; refine hK _ ?_; clear hK K hs w; (try walk_nrm))
    refine opsS_nil M ?_
    try simp only [thenS, inBlockS]
    refine wpS_seq M ?_
    refine wpS_seq M ?_
    refine wpS_region M ?_
    simp only [List.size_toArray, List.length_cons, List.length_nil, Nat.reduceAdd, Nat.zero_add, List.range, List.range.loop]
    have hns := hns t4.x
    refine opsS_ld M (j := 0) hbq4 (by first | rfl | simp | assumption) rfl (by rfl) hns (fun w hcell e he => by simp [go_sem, hcell] at he; exact ⟨_, he⟩) (fun w hcell K hK => ?_)
    go_simp
    refine hK _ ?_
    clear hK K hcell w
    try walk_nrm
    refine opsS_look M rfl (by rfl) (fun w => by simp [go_sem, ptr_eqlE, ptr_eql0E]) (fun w hs K hK => ?_)
    have hpe := fun a => ptr_eql a w
    have hpn := ptr_eql0 w
    go_simp
    refine hK _ ?_
    clear hpe hpn hK K hs w
    try walk_nrm
    repeat (first | (refine opsS_look M rfl (by rfl) (fun w => by first | (simp [go_sem]; done) | fail) (fun w hs K hK => ?_); go_simp; refine hK _ ?_; clear hK K hs w; (try walk_nrm)) | (refine opsS_unwanted M rfl (by rfl) ?_; (try walk_nrm)))
    refine opsS_nil M ?_
    try simp only [thenS, inBlockS]
    refine wpS_cond M (v := false) (by rfl) ?_
    simp only [if_true, if_false, Bool.false_eq_true]
    refine wpS_skip M ?_
    try simp only [thenS, inBlockS]
    refine wpS_seq M ?_
    refine wpS_region M ?_
    simp only [List.size_toArray, List.length_cons, List.length_nil, Nat.reduceAdd, Nat.zero_add, List.range, List.range.loop]
    (refine opsS_look M rfl (by rfl) (fun w => by first | (simp [go_sem]; done) | fail) (fun w hs K hK => ?_); go_simp; refine hK _ ?_; clear hK K hs w; (try walk_nrm))
    refine opsS_pure M (v := .func (.func 16) #[] #[.pointer (some ⟨bq, 0, none⟩)]) rfl (by rfl) (fun w => by unfold execOp; simp [Instr.makeFunc, Act.eval]) (fun w => by unfold execOp; simp [Instr.makeFunc]) ?_
    try walk_nrm
    (refine opsS_look M rfl (by rfl) (fun w => by first | (simp [go_sem]; done) | fail) (fun w hs K hK => ?_); go_simp; refine hK _ ?_; clear hK K hs w; (try walk_nrm))
    (refine opsS_look M rfl (by rfl) (fun w => by first | (simp [go_sem]; done) | fail) (fun w hs K hK => ?_); go_simp; refine hK _ ?_; clear hK K hs w; (try walk_nrm))
    clear hw1
    obtain ⟨k16, hk16⟩ : ∃ k : Nat, k = r % 16 := ⟨_, rfl⟩
    have htm : ((r : Int).tmod 16) = (k16 : Int) := by rw [Int.tmod_eq_emod_of_nonneg (by omega)]; omega
    have hk15 : k16 ≤ 15 := by omega
    replace hk16 := Hid.mk hk16
    (refine opsS_look M rfl (by rfl) (fun w => by first | (simp [go_sem]; done) | fail) (fun w hs K hK => ?_); go_simp; refine hK _ ?_; clear hK K hs w; (try walk_nrm))
    clear htm
    obtain ⟨m, hm⟩ : ∃ m, m = k16 + 1 := ⟨_, rfl⟩
    have hw3 := wr1 k16 m (by omega) hm
    replace hm := Hid.mk (And.intro hk15 hm)
    clear hk15 hk16
    (refine opsS_look M rfl (by rfl) (fun w => by first | (simp [go_sem]; done) | fail) (fun w hs K hK => ?_); go_simp; refine hK _ ?_; clear hK K hs w; (try walk_nrm))
    (refine opsS_look M rfl (by rfl) (fun w => by first | (simp [go_sem]; done) | fail) (fun w hs K hK => ?_); go_simp; refine hK _ ?_; clear hK K hs w; (try walk_nrm))
    (refine opsS_look M rfl (by rfl) (fun w => by first | (simp [go_sem]; done) | fail) (fun w hs K hK => ?_); go_simp; refine hK _ ?_; clear hK K hs w; (try walk_nrm))
    clear hw3
    have hout : (allOut (oOut n) (oNx n) [] l).take l.length = l.take n := by
      rw [allO n l [] (by simp), List.take_take]
      simp only [List.length_nil, Nat.sub_zero]
      rw [Nat.min_comm, ← List.take_take, List.take_of_length_le (Nat.le_refl l.length)]
    have hoL : (allOut (oOut n) (oNx n) [] l).length ≤ 1000000000000 := by
      rw [allO n l [] (by simp)]
      simp
      omega
    obtain ⟨sn0, rn0, hcc4⟩ := hQ.c
    have hqq4 := hQ.q
    refine opsS_facts M fun w0 hs0 => ?_
    have hcq := chan_ne hs0 hqq4 hcc4
    clear hs0 w0
    have hdo : ∀ (L σ : List Int), DomAll (oNx n) (fun _ _ => True) σ L := by
      intro L
      induction L with
      | nil => intro σ; simp [DomAll]
      | cons x L ih => intro σ; simp [DomAll, ih]
    refine opsS_callv M rfl (by rfl) rfl Try.func15 (by rfl) (by rfl) (pump_any (Post := Post) (cbO (B := W) bq q c n) (σ₀ := []) (L := l) (hdo _ _) (by omega) hoL hx4 hd4
      (ra := ra) (rl := l.length) (rc := rc) (W := [⟨bq, .cells #[.pointer (some ⟨q, 0, none⟩)] 24, true⟩, ⟨q, qO false c, true⟩, ⟨c, .chan n (#[] : Array Value) false sn0 rn0 false, true⟩]) (RW := []) (FR := []) (by simp)
      (fun ch hc => by simp only [List.mem_cons, List.not_mem_nil, or_false] at hc; rcases hc with rfl | rfl | rfl <;> assumption) (by simp) (by simp [hbn, hcq.symm]) ⟨by simp, ⟨by simp, sn0, rn0, by simp⟩⟩
      (hrow.mono (by simp)) m l.length (by have := hm.out; omega) (by have := hm.out; omega) (by omega)) (by (try walk_nrm) <;> rfl) ?_
    rintro v t5 ⟨gv, rfl, hrow5, hx5, hd5, s5, sw, hs5, hfin, hsw, -⟩
    have hoO : allOut (fun (l : List Int) (n' : Int) => if l.length < n then [n'] else []) (fun l n' => putL n l false n') [] l = allOut (oOut n) (oNx n) [] l := rfl
    rw [hoO, hout] at hrow5 hs5
    clear hoO hout hoL hdo
    have hI5 := finO hfin hs5
    clear hfin hs5
    have hbq5 := (hsw _ hI5.1).1
    have hQ5 : QC t5.sg q c n (l.take n) false := hI5.2.keep fun ch h _ _ => (hsw _ h).1
    clear hI5 hsw
    obtain ⟨k, hk⟩ : ∃ k, k = (l.take n).length := ⟨_, rfl⟩
    obtain ⟨ga, gc, rfl⟩ := hrow5.slice
    rw [← hk]
    have hgot := hrow5.row (B := W)
    rw [← hk] at hgot
    have hwant := RowAt.take ((hrow.row.mono (s' := t5.sg) (by simp))) n hk
    clear hrow5 hQ hqq4 hcc4 hcq hbq4
    replace hk := Hid.mk hk
    try walk_nrm
    (refine opsS_look M rfl (by rfl) (fun w => by first | (simp [go_sem]; done) | fail) (fun w hs K hK => ?_); go_simp; refine hK _ ?_; clear hK K hs w; (try walk_nrm))
    (refine opsS_look M rfl (by rfl) (fun w => by first | (simp [go_sem]; done) | fail) (fun w hs K hK => ?_); go_simp; refine hK _ ?_; clear hK K hs w; (try walk_nrm))
    (refine opsS_look M rfl (by rfl) (fun w => by first | (simp [go_sem]; done) | fail) (fun w hs K hK => ?_); go_simp; refine hK _ ?_; clear hK K hs w; (try walk_nrm))
    (refine opsS_look M rfl (by rfl) (fun w => by first | (simp [go_sem]; done) | fail) (fun w hs K hK => ?_); go_simp; refine hK _ ?_; clear hK K hs w; (try walk_nrm))
    (refine opsS_look M rfl (by rfl) (fun w => by first | (simp [go_sem]; done) | fail) (fun w hs K hK => ?_); go_simp; refine hK _ ?_; clear hK K hs w; (try walk_nrm))
    refine opsS_nil M ?_
    try simp only [thenS, inBlockS]
    refine wpS_seq M ?_
    refine wpS_region M ?_
    simp only [List.size_toArray, List.length_cons, List.length_nil, Nat.reduceAdd, Nat.zero_add, List.range, List.range.loop]
    (refine opsS_look M rfl (by rfl) (fun w => by first | (simp [go_sem]; done) | fail) (fun w hs K hK => ?_); go_simp; refine hK _ ?_; clear hK K hs w; (try walk_nrm))
    (refine opsS_look M rfl (by rfl) (fun w => by first | (simp [go_sem]; done) | fail) (fun w hs K hK => ?_); go_simp; refine hK _ ?_; clear hK K hs w; (try walk_nrm))
    (refine opsS_look M rfl (by rfl) (fun w => by first | (simp [go_sem]; done) | fail) (fun w hs K hK => ?_); go_simp; refine hK _ ?_; clear hK K hs w; (try walk_nrm))
    (refine opsS_look M rfl (by rfl) (fun w => by first | (simp [go_sem]; done) | fail) (fun w hs K hK => ?_); go_simp; refine hK _ ?_; clear hK K hs w; (try walk_nrm))
    have hkm : k = min n l.length := by have := hk.out; simpa using this
    have hkr : k ≤ rc := by omega
    refine opsS_pure M (v := .int .i64 k) rfl (by rfl) (fun w => run_eq_of (fun K hK => ?_)) (fun w => by simp [go_sem, ev_min]) ?_
    · by_cases hlt : (l.length : Int) < (n : Int)
      · have e : (k : Int) = (l.length : Int) := by omega
        rw [e] at hK
        clear e hkm hkr
        go_simp
        exact hK
      · have e : (k : Int) = (n : Int) := by omega
        rw [e] at hK
        clear e hkm hkr
        go_simp
        exact hK
    try walk_nrm
    refine opsS_pure M (v := .slice ra k rc) rfl (by rfl) (fun w => by have := (run_hi ra l.length rc k hkr w).1; unfold execOp; simp [Act.eval, this]) (fun w => by have := (run_hi ra l.length rc k hkr w).2; unfold execOp; simp [Act.eval, this]) ?_
    try walk_nrm
    replace hkr := Hid.mk (And.intro hkr hkm)
    clear hkm
    (refine opsS_look M rfl (by rfl) (fun w => by first | (simp [go_sem]; done) | fail) (fun w hs K hK => ?_); go_simp; refine hK _ ?_; clear hK K hs w; (try walk_nrm))
    refine opsS_nil M ?_
    try simp only [thenS, inBlockS]
    refine wpS_seq M ?_
    refine wpS_seq M ?_
    refine wpS_region M ?_
    simp only [List.size_toArray, List.length_cons, List.length_nil, Nat.reduceAdd, Nat.zero_add, List.range, List.range.loop]
    (refine opsS_look M rfl (by rfl) (fun w => by first | (simp [go_sem]; done) | fail) (fun w hs K hK => ?_); go_simp; refine hK _ ?_; clear hK K hs w; (try walk_nrm))
    (refine opsS_look M rfl (by rfl) (fun w => by first | (simp [go_sem]; done) | fail) (fun w hs K hK => ?_); go_simp; refine hK _ ?_; clear hK K hs w; (try walk_nrm))
    (refine opsS_look M rfl (by rfl) (fun w => by first | (simp [go_sem]; done) | fail) (fun w hs K hK => ?_); go_simp; refine hK _ ?_; clear hK K hs w; (try walk_nrm))
    (refine opsS_look M rfl (by rfl) (fun w => by first | (simp [go_sem]; done) | fail) (fun w hs K hK => ?_); go_simp; refine hK _ ?_; clear hK K hs w; (try walk_nrm))
    (refine opsS_look M rfl (by rfl) (fun w => by first | (simp [go_sem]; done) | fail) (fun w hs K hK => ?_); go_simp; refine hK _ ?_; clear hK K hs w; (try walk_nrm))
    have hns : ¬ cstrict t5.x := fun h => h
    have hbnd : (l.take n).length < 9223372036854775807 := by rw [List.length_take]; omega
    refine opsS_callv M rfl (by rfl) rfl Try.func17 (by rfl) (by rfl) (same_any M hns hgot hwant hbnd hbnd) (by (try walk_nrm) <;> rfl) ?_
    rintro v t6 ⟨hv, rfl⟩
    replace hv : v = .bool true := by rw [hv]; simp
    subst hv
    clear hbnd hgot hwant
    try walk_nrm
    (refine opsS_look M rfl (by rfl) (fun w => by first | (simp [go_sem]; done) | fail) (fun w hs K hK => ?_); go_simp; refine hK _ ?_; clear hK K hs w; (try walk_nrm))
    (refine opsS_look M rfl (by rfl) (fun w => by first | (simp [go_sem]; done) | fail) (fun w hs K hK => ?_); go_simp; refine hK _ ?_; clear hK K hs w; (try walk_nrm))
    (refine opsS_look M rfl (by rfl) (fun w => by first | (simp [go_sem]; done) | fail) (fun w hs K hK => ?_); go_simp; refine hK _ ?_; clear hK K hs w; (try walk_nrm))
    refine opsS_ld M (j := 0) hbq5 (by first | rfl | simp | assumption) rfl (by rfl) hns (fun w hcell e he => by simp [go_sem, hcell] at he; exact ⟨_, he⟩) (fun w hcell K hK => ?_)
    go_simp
    refine hK _ ?_
    clear hK K hcell w
    try walk_nrm
    refine opsS_callv M rfl (by rfl) rfl Try.func14 (by rfl) (by rfl) (len_any M hns hQ5) (by (try walk_nrm) <;> rfl) ?_
    rintro v t7 ⟨rfl, rfl⟩
    rw [← hk.out]
    try walk_nrm
    repeat (first | (refine opsS_look M rfl (by rfl) (fun w => by first | (simp [go_sem]; done) | fail) (fun w hs K hK => ?_); go_simp; refine hK _ ?_; clear hK K hs w; (try walk_nrm)) | (refine opsS_unwanted M rfl (by rfl) ?_; (try walk_nrm)))
    refine opsS_nil M ?_
    try simp only [thenS, inBlockS]
    refine wpS_cond M (v := false) (by rfl) ?_
    simp only [if_true, if_false, Bool.false_eq_true]
    refine wpS_skip M ?_
    try simp only [thenS, inBlockS]
    refine wpS_seq M ?_
    refine wpS_mono (Q := fun e a t' => e = .normal ∧ (∃ u : Nat → Value, a = ⟨#[u 0, u 1, u 2, u 3, u 4, u 5, .pointer (some ⟨bq, 0, none⟩), u 7, u 8, u 9, .slice ra k rc, u 11, u 12, u 13, u 14, u 15, u 16, u 17, u 18, u 19, u 20, u 21, u 22, u 23, u 24, u 25, u 26, u 27, u 28, u 29, u 30, u 31, u 32, u 33, u 34, u 35, u 36, u 37, u 38, u 39, u 40, u 41, u 42, u 43, u 44, u 45, u 46, u 47, u 48, u 49, u 50, u 51, u 52, u 53, u 54, u 55, u 56, u 57, u 58, u 59, u 60, u 61, u 62, u 63, u 64, u 65, u 66, u 67, u 68, u 69, u 70, u 71, u 72, u 73, u 74, u 75, u 76, u 77, u 78, u 79, u 80, u 81, u 82, u 83, u 84, u 85, u 86, u 87, u 88, u 89, u 90, u 91, u 92, u 93, u 94, u 95, u 96, u 97, u 98, u 99, u 100, u 101, u 102, u 103, u 104, u 105, u 106, u 107, u 108, u 109, u 110, u 111, u 112, u 113, u 114, u 115, u 116, u 117, u 118], []⟩) ∧ t'.x = .alone ∧ t'.d = 0 ∧ (⟨bq, .cells #[.pointer (some ⟨q, 0, none⟩)] 24, true⟩ : Chunk) ∈ t'.sg ∧ QC t'.sg q c n (l.take n) false) ?_ ?_
    · refine wpS_seq M ?_
      refine wpS_region M ?_
      simp only [List.size_toArray, List.length_cons, List.length_nil, Nat.reduceAdd, Nat.zero_add, List.range, List.range.loop]
      by_cases hgt : (n : Int) < (l.length : Int)
      · (refine opsS_look M rfl (by rfl) (fun w => by first | (simp [go_sem]; done) | fail) (fun w hs K hK => ?_); go_simp; refine hK _ ?_; clear hK K hs w; (try walk_nrm))
        (refine opsS_look M rfl (by rfl) (fun w => by first | (simp [go_sem]; done) | fail) (fun w hs K hK => ?_); go_simp; refine hK _ ?_; clear hK K hs w; (try walk_nrm))
        (refine opsS_look M rfl (by rfl) (fun w => by first | (simp [go_sem]; done) | fail) (fun w hs K hK => ?_); go_simp; refine hK _ ?_; clear hK K hs w; (try walk_nrm))
        (refine opsS_look M rfl (by rfl) (fun w => by first | (simp [go_sem]; done) | fail) (fun w hs K hK => ?_); go_simp; refine hK _ ?_; clear hK K hs w; (try walk_nrm))
        (refine opsS_look M rfl (by rfl) (fun w => by first | (simp [go_sem]; done) | fail) (fun w hs K hK => ?_); go_simp; refine hK _ ?_; clear hK K hs w; (try walk_nrm))
        refine opsS_ld M (j := 0) hbq5 (by first | rfl | simp | assumption) rfl (by rfl) hns (fun w hcell e he => by simp [go_sem, hcell] at he; exact ⟨_, he⟩) (fun w hcell K hK => ?_)
        go_simp
        refine hK _ ?_
        clear hK K hcell w
        try walk_nrm
        refine opsS_callv M rfl (by rfl) rfl Try.func10 (by rfl) (by rfl) (put_any M hns hQ5 7) (by (try walk_nrm) <;> rfl) ?_
        rintro v t6 ⟨rfl, hQ6, k6⟩
        have hfull : (l.take n).length = n := by rw [List.length_take]; omega
        simp only [putV, putL, hfull, Nat.lt_irrefl, if_false, Bool.false_eq_true] at hQ6 ⊢
        try walk_nrm
        (refine opsS_look M rfl (by rfl) (fun w => by first | (simp [go_sem]; done) | fail) (fun w hs K hK => ?_); go_simp; refine hK _ ?_; clear hK K hs w; (try walk_nrm))
        (refine opsS_look M rfl (by rfl) (fun w => by first | (simp [go_sem]; done) | fail) (fun w hs K hK => ?_); go_simp; refine hK _ ?_; clear hK K hs w; (try walk_nrm))
        refine opsS_nil M ?_
        try simp only [thenS, inBlockS]
        refine wpS_cond M (v := false) (by rfl) ?_
        simp only [if_true, if_false, Bool.false_eq_true]
        refine wpS_skip M ?_
        try simp only [thenS, inBlockS]
        exact ⟨by trivial, mkF (by kernel_rfl), by rw [k6.x, hx5], by rw [k6.d, hd5], k6.sg _ hbq5 (by simp [hbn]), hQ6⟩
      · repeat (first | (refine opsS_look M rfl (by rfl) (fun w => by first | (simp [go_sem]; done) | fail) (fun w hs K hK => ?_); go_simp; refine hK _ ?_; clear hK K hs w; (try walk_nrm)) | (refine opsS_unwanted M rfl (by rfl) ?_; (try walk_nrm)))
        refine opsS_nil M ?_
        try simp only [thenS, inBlockS]
        refine wpS_cond M (v := false) (by rfl) ?_
        simp only [if_true, if_false, Bool.false_eq_true]
        refine wpS_skip M ?_
        try simp only [thenS, inBlockS]
        exact ⟨by trivial, mkF (by kernel_rfl), hx5, hd5, hbq5, hQ5⟩
    clear hbq5 hQ5 hx5 hd5
    rintro e a t6 ⟨rfl, ⟨u, rfl⟩, hx6, hd6, hbq6, hQ6⟩
    simp only [thenS]
    refine wpS_seq M ?_
    refine wpS_region M ?_
    simp only [List.size_toArray, List.length_cons, List.length_nil, Nat.reduceAdd, Nat.zero_add, List.range, List.range.loop]
    have hns : ¬ cstrict t6.x := fun h => h
    refine opsS_ld M (j := 0) hbq6 (by first | rfl | simp | assumption) rfl (by rfl) hns (fun w hcell e he => by simp [go_sem, hcell] at he; exact ⟨_, he⟩) (fun w hcell K hK => ?_)
    go_simp
    refine hK _ ?_
    clear hK K hcell w
    try walk_nrm
    refine opsS_callv M rfl (by rfl) rfl Try.func11 (by rfl) (by rfl) (close_any M hns hQ6) (by (try walk_nrm) <;> rfl) ?_
    rintro v t7 ⟨hQ7, k7⟩
    try walk_nrm
    refine opsS_nil M ?_
    try simp only [thenS, inBlockS]
    have hbq7 := k7.sg _ hbq6 (by simp [hbn])
    have hx7 : t7.x = .alone := by rw [k7.x, hx6]
    have hd7 : t7.d = 0 := by rw [k7.d, hd6]
    clear k7 hQ6 hbq6 hx6 hd6 hns
    refine wpS_seq M ?_
    refine wpS_seq M ?_
    refine wpS_region M ?_
    simp only [List.size_toArray, List.length_cons, List.length_nil, Nat.reduceAdd, Nat.zero_add, List.range, List.range.loop]
    (refine opsS_look M rfl (by rfl) (fun w => by first | (simp [go_sem]; done) | fail) (fun w hs K hK => ?_); go_simp; refine hK _ ?_; clear hK K hs w; (try walk_nrm))
    (refine opsS_look M rfl (by rfl) (fun w => by first | (simp [go_sem]; done) | fail) (fun w hs K hK => ?_); go_simp; refine hK _ ?_; clear hK K hs w; (try walk_nrm))
    (refine opsS_look M rfl (by rfl) (fun w => by first | (simp [go_sem]; done) | fail) (fun w hs K hK => ?_); go_simp; refine hK _ ?_; clear hK K hs w; (try walk_nrm))
    refine opsS_nil M ?_
    try simp only [thenS, inBlockS]
    refine wpS_block M ?_
    refine wpS_loopN M (I := fun N a t' => ∃ i, i + N = k ∧ (∃ u : Nat → Value, a = ⟨#[u 0, u 1, u 2, u 3, u 4, u 5, .pointer (some ⟨bq, 0, none⟩), u 7, u 8, u 9, u 10, u 11, u 12, u 13, u 14, u 15, u 16, u 17, u 18, u 19, u 20, u 21, u 22, u 23, u 24, u 25, u 26, u 27, u 28, u 29, u 30, u 31, u 32, u 33, u 34, u 35, u 36, u 37, u 38, u 39, u 40, u 41, u 42, u 43, u 44, u 45, u 46, u 47, u 48, u 49, u 50, u 51, u 52, u 53, u 54, u 55, u 56, u 57, u 58, u 59, u 60, u 61, u 62, u 63, u 64, u 65, u 66, u 67, u 68, u 69, u 70, u 71, u 72, u 73, u 74, u 75, u 76, u 77, u 78, u 79, u 80, u 81, u 82, .slice ra k rc, .int .i64 k, .int .i64 i, u 86, u 87, u 88, u 89, u 90, u 91, u 92, u 93, u 94, u 95, u 96, u 97, u 98, u 99, u 100, u 101, u 102, u 103, u 104, u 105, u 106, u 107, u 108, u 109, u 110, u 111, u 112, u 113, u 114, u 115, u 116, u 117, u 118], []⟩) ∧ t'.x = .alone ∧ t'.d = 0 ∧ (⟨bq, .cells #[.pointer (some ⟨q, 0, none⟩)] 24, true⟩ : Chunk) ∈ t'.sg ∧ QC t'.sg q c n ((l.take n).drop i) true) k ⟨0, by omega, mkF (by kernel_rfl), hx7, hd7, hbq7, by simpa using hQ7⟩ ?_
    rintro N a t8 ⟨i, hi, ⟨g, rfl⟩, hx8, hd8, hbq8, hQ8⟩
    clear hQ7 hbq7 hx7 hd7
    replace hi := Hid.mk hi
    have hns : ¬ cstrict t8.x := fun h => h
    refine wpS_seq M ?_
    refine wpS_region M ?_
    simp only [List.size_toArray, List.length_cons, List.length_nil, Nat.reduceAdd, Nat.zero_add, List.range, List.range.loop]
    cases N with
    | zero =>
      have hlt : ¬ ((i : Int) < (k : Int)) := by have := hi.out; omega
      (refine opsS_look M rfl (by rfl) (fun w => by first | (simp [go_sem]; done) | fail) (fun w hs K hK => ?_); go_simp; refine hK _ ?_; clear hK K hs w; (try walk_nrm))
      refine opsS_nil M ?_
      try simp only [thenS, inBlockS]
      refine wpS_seq M ?_
      refine wpS_cond M (v := false) (by rfl) ?_
      simp only [if_true, if_false, Bool.false_eq_true]
      refine wpS_exit M ?_
      try simp only [thenS, inBlockS, if_true, if_false, eq_self, reduceIte, Nat.reduceEqDiff, OfNat.ofNat_ne_ofNat, OfNat.ofNat_ne_zero, OfNat.zero_ne_ofNat, Nat.zero_ne_one, Nat.one_ne_zero, OfNat.ofNat_ne_one, OfNat.one_ne_ofNat]
      have he : (l.take n).drop i = [] := List.drop_eq_nil_of_le (by have := hk.out; have := hi.out; omega)
      rw [he] at hQ8
      clear he hlt
      refine wpS_seq M ?_
      refine wpS_region M ?_
      simp only [List.size_toArray, List.length_cons, List.length_nil, Nat.reduceAdd, Nat.zero_add, List.range, List.range.loop]
      refine opsS_ld M (j := 0) hbq8 (by first | rfl | simp | assumption) rfl (by rfl) hns (fun w hcell e he => by simp [go_sem, hcell] at he; exact ⟨_, he⟩) (fun w hcell K hK => ?_)
      go_simp
      refine hK _ ?_
      clear hK K hcell w
      try walk_nrm
      refine opsS_callv M rfl (by rfl) rfl Try.func13 (by rfl) (by rfl) (take_any M hns hQ8) (by (try walk_nrm) <;> rfl) ?_
      rintro v t9 ⟨rfl, hQ9, k9⟩
      have hns : ¬ cstrict t9.x := fun h => h
      have hbq9 := k9.sg _ hbq8 (by simp [hbn])
      simp only [takeV, List.tail_nil] at hQ9 ⊢
      try walk_nrm
      (refine opsS_look M rfl (by rfl) (fun w => by first | (simp [go_sem]; done) | fail) (fun w hs K hK => ?_); go_simp; refine hK _ ?_; clear hK K hs w; (try walk_nrm))
      (refine opsS_look M rfl (by rfl) (fun w => by first | (simp [go_sem]; done) | fail) (fun w hs K hK => ?_); go_simp; refine hK _ ?_; clear hK K hs w; (try walk_nrm))
      (refine opsS_look M rfl (by rfl) (fun w => by first | (simp [go_sem]; done) | fail) (fun w hs K hK => ?_); go_simp; refine hK _ ?_; clear hK K hs w; (try walk_nrm))
      (refine opsS_look M rfl (by rfl) (fun w => by first | (simp [go_sem]; done) | fail) (fun w hs K hK => ?_); go_simp; refine hK _ ?_; clear hK K hs w; (try walk_nrm))
      (refine opsS_look M rfl (by rfl) (fun w => by first | (simp [go_sem]; done) | fail) (fun w hs K hK => ?_); go_simp; refine hK _ ?_; clear hK K hs w; (try walk_nrm))
      refine opsS_nil M ?_
      try simp only [thenS, inBlockS]
      refine wpS_seq M ?_
      refine wpS_region M ?_
      simp only [List.size_toArray, List.length_cons, List.length_nil, Nat.reduceAdd, Nat.zero_add, List.range, List.range.loop]
      (refine opsS_look M rfl (by rfl) (fun w => by first | (simp [go_sem]; done) | fail) (fun w hs K hK => ?_); go_simp; refine hK _ ?_; clear hK K hs w; (try walk_nrm))
      (refine opsS_look M rfl (by rfl) (fun w => by first | (simp [go_sem]; done) | fail) (fun w hs K hK => ?_); go_simp; refine hK _ ?_; clear hK K hs w; (try walk_nrm))
      (refine opsS_look M rfl (by rfl) (fun w => by first | (simp [go_sem]; done) | fail) (fun w hs K hK => ?_); go_simp; refine hK _ ?_; clear hK K hs w; (try walk_nrm))
      refine opsS_ld M (j := 0) hbq9 (by first | rfl | simp | assumption) rfl (by rfl) hns (fun w hcell e he => by simp [go_sem, hcell] at he; exact ⟨_, he⟩) (fun w hcell K hK => ?_)
      go_simp
      refine hK _ ?_
      clear hK K hcell w
      try walk_nrm
      refine opsS_callv M rfl (by rfl) rfl Try.func14 (by rfl) (by rfl) (len_any M hns hQ9) (by (try walk_nrm) <;> rfl) ?_
      rintro v t10 ⟨rfl, rfl⟩
      rw [show (([] : List Int).length : Int) = 0 from rfl]
      try walk_nrm
      (refine opsS_look M rfl (by rfl) (fun w => by first | (simp [go_sem]; done) | fail) (fun w hs K hK => ?_); go_simp; refine hK _ ?_; clear hK K hs w; (try walk_nrm))
      (refine opsS_look M rfl (by rfl) (fun w => by first | (simp [go_sem]; done) | fail) (fun w hs K hK => ?_); go_simp; refine hK _ ?_; clear hK K hs w; (try walk_nrm))
      (refine opsS_look M rfl (by rfl) (fun w => by first | (simp [go_sem]; done) | fail) (fun w hs K hK => ?_); go_simp; refine hK _ ?_; clear hK K hs w; (try walk_nrm))
      refine opsS_ld M (j := 0) hbq9 (by first | rfl | simp | assumption) rfl (by rfl) hns (fun w hcell e he => by simp [go_sem, hcell] at he; exact ⟨_, he⟩) (fun w hcell K hK => ?_)
      go_simp
      refine hK _ ?_
      clear hK K hcell w
      try walk_nrm
      refine opsS_callv M rfl (by rfl) rfl Try.func10 (by rfl) (by rfl) (put_any M hns hQ9 1) (by (try walk_nrm) <;> rfl) ?_
      rintro v t10 ⟨rfl, -, k10⟩
      simp only [putV, if_true]
      try walk_nrm
      (refine opsS_look M rfl (by rfl) (fun w => by first | (simp [go_sem]; done) | fail) (fun w hs K hK => ?_); go_simp; refine hK _ ?_; clear hK K hs w; (try walk_nrm))
      (refine opsS_look M rfl (by rfl) (fun w => by first | (simp [go_sem]; done) | fail) (fun w hs K hK => ?_); go_simp; refine hK _ ?_; clear hK K hs w; (try walk_nrm))
      (refine opsS_look M rfl (by rfl) (fun w => by first | (simp [go_sem]; done) | fail) (fun w hs K hK => ?_); go_simp; refine hK _ ?_; clear hK K hs w; (try walk_nrm))
      refine opsS_nil M ?_
      try simp only [thenS, inBlockS]
      refine wpS_ret M ?_
      exact hp _ _ (by rw [k10.x, k9.x, hx8]) (by rw [k10.d, k9.d, hd8]) rfl rfl
    | succ N =>
      have hlt : (i : Int) < (k : Int) := by have := hi.out; omega
      have hltn : i < k := by have := hi.out; omega
      (refine opsS_look M rfl (by rfl) (fun w => by first | (simp [go_sem]; done) | fail) (fun w hs K hK => ?_); go_simp; refine hK _ ?_; clear hK K hs w; (try walk_nrm))
      clear hlt
      refine opsS_nil M ?_
      try simp only [thenS, inBlockS]
      refine wpS_seq M ?_
      refine wpS_cond M (v := true) (by rfl) ?_
      simp only [if_true, if_false, Bool.false_eq_true]
      refine wpS_skip M ?_
      try simp only [thenS, inBlockS]
      refine wpS_seq M ?_
      refine wpS_block M ?_
      have hlk : i < (l.take n).length := by have := hk.out; omega
      obtain ⟨x, hx⟩ : ∃ x, (l.take n)[i]? = some x := ⟨(l.take n)[i], List.getElem?_eq_getElem hlk⟩
      have hdr : (l.take n).drop i = x :: (l.take n).drop (i + 1) := by
        rw [List.drop_eq_getElem_cons hlk]
        rw [List.getElem?_eq_getElem hlk] at hx
        rw [Option.some.inj hx]
      obtain ⟨b', o', rfl, hrd⟩ := (RowAt.take (hrow.row.mono (s' := t8.sg) (by simp)) n hk.out).get i (iv x) (by rw [List.getElem?_map, hx]; rfl)
      clear hlk hx
      replace hdr := Hid.mk hdr
      refine wpS_seq M ?_
      refine wpS_region M ?_
      simp only [List.size_toArray, List.length_cons, List.length_nil, Nat.reduceAdd, Nat.zero_add, List.range, List.range.loop]
      (refine opsS_look M rfl (by rfl) (fun w => by first | (simp [go_sem, hltn]; done) | fail) (fun w hs K hK => ?_); go_simp; refine hK _ ?_; clear hK K hs w; (try walk_nrm))
      refine opsS_ldR M hrd rfl (by rfl) hns (fun w hcell e he => by simp [go_sem, hcell] at he; exact ⟨_, he⟩) (fun w hcell K hK => ?_)
      go_simp
      refine hK _ ?_
      clear hK K hcell w
      try walk_nrm
      (refine opsS_look M rfl (by rfl) (fun w => by first | (simp [go_sem]; done) | fail) (fun w hs K hK => ?_); go_simp; refine hK _ ?_; clear hK K hs w; (try walk_nrm))
      clear hrd
      refine opsS_nil M ?_
      try simp only [thenS, inBlockS]
      refine wpS_seq M ?_
      refine wpS_region M ?_
      simp only [List.size_toArray, List.length_cons, List.length_nil, Nat.reduceAdd, Nat.zero_add, List.range, List.range.loop]
      refine opsS_ld M (j := 0) hbq8 (by first | rfl | simp | assumption) rfl (by rfl) hns (fun w hcell e he => by simp [go_sem, hcell] at he; exact ⟨_, he⟩) (fun w hcell K hK => ?_)
      go_simp
      refine hK _ ?_
      clear hK K hcell w
      try walk_nrm
      refine opsS_callv M rfl (by rfl) rfl Try.func13 (by rfl) (by rfl) (take_any M hns hQ8) (by (try walk_nrm) <;> rfl) ?_
      rintro v t9 ⟨rfl, hQ9, k9⟩
      rw [hdr.out] at hQ9 ⊢
      simp only [takeV, List.tail_cons] at hQ9 ⊢
      try walk_nrm
      (refine opsS_look M rfl (by rfl) (fun w => by first | (simp [go_sem]; done) | fail) (fun w hs K hK => ?_); go_simp; refine hK _ ?_; clear hK K hs w; (try walk_nrm))
      (refine opsS_look M rfl (by rfl) (fun w => by first | (simp [go_sem]; done) | fail) (fun w hs K hK => ?_); go_simp; refine hK _ ?_; clear hK K hs w; (try walk_nrm))
      (refine opsS_look M rfl (by rfl) (fun w => by first | (simp [go_sem]; done) | fail) (fun w hs K hK => ?_); go_simp; refine hK _ ?_; clear hK K hs w; (try walk_nrm))
      (refine opsS_look M rfl (by rfl) (fun w => by first | (simp [go_sem]; done) | fail) (fun w hs K hK => ?_); go_simp; refine hK _ ?_; clear hK K hs w; (try walk_nrm))
      (refine opsS_look M rfl (by rfl) (fun w => by first | (simp [go_sem]; done) | fail) (fun w hs K hK => ?_); go_simp; refine hK _ ?_; clear hK K hs w; (try walk_nrm))
      refine opsS_nil M ?_
      try simp only [thenS, inBlockS]
      refine wpS_seq M ?_
      refine wpS_region M ?_
      simp only [List.size_toArray, List.length_cons, List.length_nil, Nat.reduceAdd, Nat.zero_add, List.range, List.range.loop]
      simp only [iv]
      repeat (first | (refine opsS_look M rfl (by rfl) (fun w => by first | (simp [go_sem]; done) | fail) (fun w hs K hK => ?_); go_simp; refine hK _ ?_; clear hK K hs w; (try walk_nrm)) | (refine opsS_unwanted M rfl (by rfl) ?_; (try walk_nrm)))
      refine opsS_nil M ?_
      try simp only [thenS, inBlockS]
      refine wpS_cond M (v := false) (by rfl) ?_
      simp only [if_true, if_false, Bool.false_eq_true]
      refine wpS_skip M ?_
      try simp only [thenS, inBlockS]
      have hw1 := w1 i (by have := hkr.out.2; omega)
      refine wpS_region M ?_
      simp only [List.size_toArray, List.length_cons, List.length_nil, Nat.reduceAdd, Nat.zero_add, List.range, List.range.loop]
      (refine opsS_look M rfl (by rfl) (fun w => by first | (simp [go_sem]; done) | fail) (fun w hs K hK => ?_); go_simp; refine hK _ ?_; clear hK K hs w; (try walk_nrm))
      (refine opsS_look M rfl (by rfl) (fun w => by first | (simp [go_sem]; done) | fail) (fun w hs K hK => ?_); go_simp; refine hK _ ?_; clear hK K hs w; (try walk_nrm))
      refine opsS_nil M ?_
      try simp only [thenS, inBlockS]
      exact ⟨N, by omega, i + 1, by have := hi.out; omega, by simp only [Int.natCast_add, Int.natCast_one, Int.cast_ofNat_Int]; exact mkF (by kernel_rfl), by rw [k9.x, hx8], by rw [k9.d, hd8], k9.sg _ hbq8 (by simp [hbn]), hQ9⟩

end Go.Proofs.Ytdmhgajamepgoaa.Q
