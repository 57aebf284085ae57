/-
  OWN TEXT. PIPE: the law PipeArgs walked.
-/
import Derived.Test.YtdmhgajamepgoaaRu
set_option linter.unusedVariables false
set_option linter.unusedSimpArgs false
set_option linter.unusedSectionVars false
namespace Go.Proofs.Ytdmhgajamepgoaa.Q
open Go Go.Conc

/-- A law's body leaves alone, hearing, with 'true'. -/
def lawEnd (fn : Func) : Exit → Act → Tau CX → Prop := bodyPostS fun a t => t.x = .alone ∧ t.d = 0 ∧ a.defers = [] ∧ ResultsC Try.prog fn a.tmps (.bool true)

set_option maxRecDepth 100000 in
set_option maxHeartbeats 2000000 in
theorem args_walk {W : World} {Post : Value → World → Prop} (room most : Int) :
    wpS (CMv Try.prog W Post) 6 (Try.f6.body.getD .skip) (lawEnd Try.f6) ⟨#[.int .i64 room, .int .i64 most] ++ Array.replicate (Try.f6.ntmps - 2) undef, []⟩ ⟨[], 0, .alone⟩ := by
  have M := cmoves Try.prog W Post
  have hns : ∀ x : CX, ¬ cstrict x := fun x h => h
  have hp : ∀ (a : Act) (t : Tau CX), t.x = .alone → t.d = 0 → a.defers = [] → a.tmps.getD 4 undef = .bool true → lawEnd Try.f6 .ret a t := fun a t h1 h2 h3 h4 => ⟨h1, h2, h3, h4 ▸ resultsC_tmp (by rfl) _⟩
  generalize lawEnd Try.f6 = QQ at hp ⊢
  show wpS _ 6 (Code.seq _ _) _ _ _
  simp only [Try.ntmps6, Nat.reduceSub, Array.replicate_succ, Array.replicate_zero, List.push_toArray, List.append_toArray, List.nil_append, List.cons_append]
  refine wpS_seq M ?_
  refine wpS_region M ?_
  simp only [List.size_toArray, List.length_cons, List.length_nil, Nat.reduceAdd, Nat.zero_add, List.range, List.range.loop]
  (refine opsS_look M rfl (by rfl) (fun w => by first | (simp [go_sem]; done) | fail) (fun w hs K hK => ?_); go_simp; refine hK _ ?_; clear hK K hs w; (try walk_nrm))
  refine opsS_nil M ?_
  try simp only [thenS, inBlockS]
  refine wpS_seq M ?_
  refine wpS_seq M ?_
  refine wpS_region M ?_
  simp only [List.size_toArray, List.length_cons, List.length_nil, Nat.reduceAdd, Nat.zero_add, List.range, List.range.loop]
  refine opsS_callv M rfl (by rfl) rfl Try.func7 (by rfl) (by rfl) (speaks_any rfl rfl) (by (try walk_nrm) <;> rfl) ?_
  rintro v t1 ⟨rfl, k1⟩
  try walk_nrm
  (refine opsS_look M rfl (by rfl) (fun w => by first | (simp [go_sem]; done) | fail) (fun w hs K hK => ?_); go_simp; refine hK _ ?_; clear hK K hs w; (try walk_nrm))
  refine opsS_nil M ?_
  try simp only [thenS, inBlockS]
  refine wpS_cond M (v := false) (by rfl) ?_
  simp only [if_true, if_false, Bool.false_eq_true]
  refine wpS_skip M ?_
  try simp only [thenS, inBlockS]
  refine wpS_seq M ?_
  refine wpS_region M ?_
  simp only [List.size_toArray, List.length_cons, List.length_nil, Nat.reduceAdd, Nat.zero_add, List.range, List.range.loop]
  refine opsS_new M (.cells #[.int .i64 0] 3) rfl (by rfl) (fun w hs => by simp [go_sem]) (fun w hs K hK => ?_)
  go_simp
  refine hK _ fun t2 k2 hn f2 g2 => ?_
  clear hK K
  generalize w.heap.size = bn at *
  clear hs w
  try walk_nrm
  have hns2 := hns t2.x
  refine opsS_st M (j := 0) (.int .i64 0) hn rfl rfl (by rfl) (hns _) (fun w hcell hfr e he => by simp [go_sem, hcell, hfr, ev_int, storedEv] at he; exact ⟨_, _, _, he⟩) (fun w hcell hfr K hK => ?_)
  go_simp
  refine hK _ fun t3 k3 hn3 => ?_
  clear hK K hcell hfr w
  simp only [List.setIfInBounds_toArray, List.set_cons_zero] at hn3
  try walk_nrm
  refine opsS_nil M ?_
  try simp only [thenS, inBlockS]
  refine wpS_seq M ?_
  refine wpS_region M ?_
  simp only [List.size_toArray, List.length_cons, List.length_nil, Nat.reduceAdd, Nat.zero_add, List.range, List.range.loop]
  refine opsS_new M (.cells #[.int .i64 1] 3) rfl (by rfl) (fun w hs => by simp [go_sem]) (fun w hs K hK => ?_)
  go_simp
  refine hK _ fun t4 k4 hN f4 g4 => ?_
  clear hK K
  generalize w.heap.size = N at *
  clear hs w
  try walk_nrm
  refine opsS_pure M (v := .func (.func 22) #[] #[.pointer (some ⟨bn, 0, none⟩)]) rfl (by rfl) (fun w => by unfold execOp; simp [Instr.makeFunc, Act.eval]) (fun w => by unfold execOp; simp [Instr.makeFunc]) ?_
  try walk_nrm
  (refine opsS_look M rfl (by rfl) (fun w => by first | (simp [go_sem]; done) | fail) (fun w hs K hK => ?_); go_simp; refine hK _ ?_; clear hK K hs w; (try walk_nrm))
  (refine opsS_look M rfl (by rfl) (fun w => by first | (simp [go_sem]; done) | fail) (fun w hs K hK => ?_); go_simp; refine hK _ ?_; clear hK K hs w; (try walk_nrm))
  have hn4 := k4.all hn3
  have hx4 : t4.x = .alone := by rw [k4.x, k3.x, k2.x, k1.x]
  have hd4 : t4.d = 0 := by rw [k4.d, k3.d, k2.d, k1.d]
  by_cases hbad : room < 1 ∨ 65536 < room ∨ most < 0 ∨ 1073741824 < most
  · refine opsS_callv M rfl (by rfl) rfl Try.func15 (by rfl) (by rfl) (pump_bad M room most hbad _ _ _ _ _ _) (by (try walk_nrm) <;> rfl) ?_
    rintro v t5 ⟨rfl, k5⟩
    have hn5 := k5.all hn4
    try walk_nrm
    (refine opsS_look M rfl (by rfl) (fun w => by first | (simp [go_sem]; done) | fail) (fun w hs K hK => ?_); go_simp; refine hK _ ?_; clear hK K hs w; (try walk_nrm))
    (refine opsS_look M rfl (by rfl) (fun w => by first | (simp [go_sem]; done) | fail) (fun w hs K hK => ?_); go_simp; refine hK _ ?_; clear hK K hs w; (try walk_nrm))
    (refine opsS_look M rfl (by rfl) (fun w => by first | (simp [go_sem]; done) | fail) (fun w hs K hK => ?_); go_simp; refine hK _ ?_; clear hK K hs w; (try walk_nrm))
    (refine opsS_look M rfl (by rfl) (fun w => by first | (simp [go_sem]; done) | fail) (fun w hs K hK => ?_); go_simp; refine hK _ ?_; clear hK K hs w; (try walk_nrm))
    (refine opsS_look M rfl (by rfl) (fun w => by first | (simp [go_sem]; done) | fail) (fun w hs K hK => ?_); go_simp; refine hK _ ?_; clear hK K hs w; (try walk_nrm))
    refine opsS_nil M ?_
    try simp only [thenS, inBlockS]
    have hx5 : t5.x = .alone := by rw [k5.x, hx4]
    have hd5 : t5.d = 0 := by rw [k5.d, hd4]
    refine wpS_seq M ?_
    refine wpS_seq M ?_
    refine wpS_region M ?_
    simp only [List.size_toArray, List.length_cons, List.length_nil, Nat.reduceAdd, Nat.zero_add, List.range, List.range.loop]
    by_cases c1 : room < 1
    · clear hbad
      repeat (first | (refine opsS_look M rfl (by rfl) (fun w => by first | (simp [go_sem]; done) | fail) (fun w hs K hK => ?_); go_simp; refine hK _ ?_; clear hK K hs w; (try walk_nrm)) | (refine opsS_unwanted M rfl (by rfl) ?_; (try walk_nrm)))
      refine opsS_nil M ?_
      try simp only [thenS, inBlockS]
      refine wpS_cond M (v := true) (by rfl) ?_
      simp only [if_true, if_false, Bool.false_eq_true]
      refine wpS_seq M ?_
      refine wpS_region M ?_
      simp only [List.size_toArray, List.length_cons, List.length_nil, Nat.reduceAdd, Nat.zero_add, List.range, List.range.loop]
      repeat (first | (refine opsS_look M rfl (by rfl) (fun w => by first | (simp [go_sem]; done) | fail) (fun w hs K hK => ?_); go_simp; refine hK _ ?_; clear hK K hs w; (try walk_nrm)) | (refine opsS_unwanted M rfl (by rfl) ?_; (try walk_nrm)))
      have hns := hns t5.x
      refine opsS_ld M (j := 0) hn5 (by first | rfl | simp | assumption) rfl (by rfl) hns (fun w hcell e he => by simp [go_sem, hcell] at he; exact ⟨_, he⟩) (fun w hcell K hK => ?_)
      go_simp
      refine hK _ ?_
      clear hK K hcell w
      try walk_nrm
      repeat (first | (refine opsS_look M rfl (by rfl) (fun w => by first | (simp [go_sem]; done) | fail) (fun w hs K hK => ?_); go_simp; refine hK _ ?_; clear hK K hs w; (try walk_nrm)) | (refine opsS_unwanted M rfl (by rfl) ?_; (try walk_nrm)))
      refine opsS_nil M ?_
      try simp only [thenS, inBlockS]
      refine wpS_ret M ?_
      exact hp _ _ hx5 hd5 rfl rfl
    by_cases c2 : 65536 < room
    · clear hbad
      repeat (first | (refine opsS_look M rfl (by rfl) (fun w => by first | (simp [go_sem]; done) | fail) (fun w hs K hK => ?_); go_simp; refine hK _ ?_; clear hK K hs w; (try walk_nrm)) | (refine opsS_unwanted M rfl (by rfl) ?_; (try walk_nrm)))
      refine opsS_nil M ?_
      try simp only [thenS, inBlockS]
      refine wpS_cond M (v := true) (by rfl) ?_
      simp only [if_true, if_false, Bool.false_eq_true]
      refine wpS_seq M ?_
      refine wpS_region M ?_
      simp only [List.size_toArray, List.length_cons, List.length_nil, Nat.reduceAdd, Nat.zero_add, List.range, List.range.loop]
      repeat (first | (refine opsS_look M rfl (by rfl) (fun w => by first | (simp [go_sem]; done) | fail) (fun w hs K hK => ?_); go_simp; refine hK _ ?_; clear hK K hs w; (try walk_nrm)) | (refine opsS_unwanted M rfl (by rfl) ?_; (try walk_nrm)))
      have hns := hns t5.x
      refine opsS_ld M (j := 0) hn5 (by first | rfl | simp | assumption) rfl (by rfl) hns (fun w hcell e he => by simp [go_sem, hcell] at he; exact ⟨_, he⟩) (fun w hcell K hK => ?_)
      go_simp
      refine hK _ ?_
      clear hK K hcell w
      try walk_nrm
      repeat (first | (refine opsS_look M rfl (by rfl) (fun w => by first | (simp [go_sem]; done) | fail) (fun w hs K hK => ?_); go_simp; refine hK _ ?_; clear hK K hs w; (try walk_nrm)) | (refine opsS_unwanted M rfl (by rfl) ?_; (try walk_nrm)))
      refine opsS_nil M ?_
      try simp only [thenS, inBlockS]
      refine wpS_ret M ?_
      exact hp _ _ hx5 hd5 rfl rfl
    by_cases c3 : most < 0
    · clear hbad
      repeat (first | (refine opsS_look M rfl (by rfl) (fun w => by first | (simp [go_sem]; done) | fail) (fun w hs K hK => ?_); go_simp; refine hK _ ?_; clear hK K hs w; (try walk_nrm)) | (refine opsS_unwanted M rfl (by rfl) ?_; (try walk_nrm)))
      refine opsS_nil M ?_
      try simp only [thenS, inBlockS]
      refine wpS_cond M (v := true) (by rfl) ?_
      simp only [if_true, if_false, Bool.false_eq_true]
      refine wpS_seq M ?_
      refine wpS_region M ?_
      simp only [List.size_toArray, List.length_cons, List.length_nil, Nat.reduceAdd, Nat.zero_add, List.range, List.range.loop]
      repeat (first | (refine opsS_look M rfl (by rfl) (fun w => by first | (simp [go_sem]; done) | fail) (fun w hs K hK => ?_); go_simp; refine hK _ ?_; clear hK K hs w; (try walk_nrm)) | (refine opsS_unwanted M rfl (by rfl) ?_; (try walk_nrm)))
      have hns := hns t5.x
      refine opsS_ld M (j := 0) hn5 (by first | rfl | simp | assumption) rfl (by rfl) hns (fun w hcell e he => by simp [go_sem, hcell] at he; exact ⟨_, he⟩) (fun w hcell K hK => ?_)
      go_simp
      refine hK _ ?_
      clear hK K hcell w
      try walk_nrm
      repeat (first | (refine opsS_look M rfl (by rfl) (fun w => by first | (simp [go_sem]; done) | fail) (fun w hs K hK => ?_); go_simp; refine hK _ ?_; clear hK K hs w; (try walk_nrm)) | (refine opsS_unwanted M rfl (by rfl) ?_; (try walk_nrm)))
      refine opsS_nil M ?_
      try simp only [thenS, inBlockS]
      refine wpS_ret M ?_
      exact hp _ _ hx5 hd5 rfl rfl
    have c4 : 1073741824 < most := ((hbad.resolve_left c1).resolve_left c2).resolve_left c3
    clear hbad
    repeat (first | (refine opsS_look M rfl (by rfl) (fun w => by first | (simp [go_sem]; done) | fail) (fun w hs K hK => ?_); go_simp; refine hK _ ?_; clear hK K hs w; (try walk_nrm)) | (refine opsS_unwanted M rfl (by rfl) ?_; (try walk_nrm)))
    refine opsS_nil M ?_
    try simp only [thenS, inBlockS]
    refine wpS_cond M (v := true) (by rfl) ?_
    simp only [if_true, if_false, Bool.false_eq_true]
    refine wpS_seq M ?_
    refine wpS_region M ?_
    simp only [List.size_toArray, List.length_cons, List.length_nil, Nat.reduceAdd, Nat.zero_add, List.range, List.range.loop]
    repeat (first | (refine opsS_look M rfl (by rfl) (fun w => by first | (simp [go_sem]; done) | fail) (fun w hs K hK => ?_); go_simp; refine hK _ ?_; clear hK K hs w; (try walk_nrm)) | (refine opsS_unwanted M rfl (by rfl) ?_; (try walk_nrm)))
    have hns := hns t5.x
    refine opsS_ld M (j := 0) hn5 (by first | rfl | simp | assumption) rfl (by rfl) hns (fun w hcell e he => by simp [go_sem, hcell] at he; exact ⟨_, he⟩) (fun w hcell K hK => ?_)
    go_simp
    refine hK _ ?_
    clear hK K hcell w
    try walk_nrm
    repeat (first | (refine opsS_look M rfl (by rfl) (fun w => by first | (simp [go_sem]; done) | fail) (fun w hs K hK => ?_); go_simp; refine hK _ ?_; clear hK K hs w; (try walk_nrm)) | (refine opsS_unwanted M rfl (by rfl) ?_; (try walk_nrm)))
    refine opsS_nil M ?_
    try simp only [thenS, inBlockS]
    refine wpS_ret M ?_
    exact hp _ _ hx5 hd5 rfl rfl
  · have c1 : ¬ room < 1 := by omega
    have c2 : ¬ 65536 < room := by omega
    have c3 : ¬ most < 0 := by omega
    have c4 : ¬ 1073741824 < most := by omega
    clear hbad
    obtain ⟨rn, rfl⟩ := Int.eq_ofNat_of_zero_le (show 0 ≤ room by omega)
    obtain ⟨mn, rfl⟩ := Int.eq_ofNat_of_zero_le (show 0 ≤ most by omega)
    refine opsS_facts M fun w0 hs0 => ?_
    have hbN : bn ≠ N := f4 _ hn3
    clear hs0 w0
    refine opsS_callv M rfl (by rfl) rfl Try.func15 (by rfl) (by rfl) (pump_any (Post := Post) (cbA (B := W) bn) (σ₀ := 0) (L := [1]) (by simp [DomAll]) (by simp) (by simp [allOut]) hx4 hd4
      (ra := some ⟨N, 0, none⟩) (rl := 1) (rc := 1) (W := [⟨bn, .cells #[.int .i64 0] 3, true⟩]) (RW := [⟨N, .cells #[.int .i64 1] 3, false⟩]) (FR := []) (by simp) (by simpa using hn4) (fun c hc => by simp at hc; subst hc; exact ⟨rfl, _, hN, rfl, rfl⟩) (by simp [hbN]) (List.mem_cons_self ..)
      ⟨_, _, rfl, fun j u hj => ⟨N, 0, rfl, .inl ⟨_, 3, List.mem_cons_self .., by simpa [iv] using hj⟩⟩⟩ rn mn (by omega) (by omega) (by omega)) (by (try walk_nrm) <;> rfl) ?_
    rintro v t7 ⟨gv, rfl, hrow7, hx7, hd7, _⟩
    obtain ⟨ga, gc, rfl⟩ := hrow7.slice
    have hlen : (((allOut (fun (_ : Int) n => [n]) (fun k _ => IntKind.i64.wrap (k + 1)) 0 [1]).take mn).length : Int) = min (mn : Int) 1 := by
      simp [allOut]
      omega
    generalize ((allOut (fun (_ : Int) n => [n]) (fun k _ => IntKind.i64.wrap (k + 1)) 0 [1]).take mn).length = gl at *
    clear hrow7
    replace hlen := Hid.mk hlen
    try walk_nrm
    (refine opsS_look M rfl (by rfl) (fun w => by first | (simp [go_sem]; done) | fail) (fun w hs K hK => ?_); go_simp; refine hK _ ?_; clear hK K hs w; (try walk_nrm))
    (refine opsS_look M rfl (by rfl) (fun w => by first | (simp [go_sem]; done) | fail) (fun w hs K hK => ?_); go_simp; refine hK _ ?_; clear hK K hs w; (try walk_nrm))
    (refine opsS_look M rfl (by rfl) (fun w => by first | (simp [go_sem]; done) | fail) (fun w hs K hK => ?_); go_simp; refine hK _ ?_; clear hK K hs w; (try walk_nrm))
    (refine opsS_look M rfl (by rfl) (fun w => by first | (simp [go_sem]; done) | fail) (fun w hs K hK => ?_); go_simp; refine hK _ ?_; clear hK K hs w; (try walk_nrm))
    (refine opsS_look M rfl (by rfl) (fun w => by first | (simp [go_sem]; done) | fail) (fun w hs K hK => ?_); go_simp; refine hK _ ?_; clear hK K hs w; (try walk_nrm))
    refine opsS_nil M ?_
    try simp only [thenS, inBlockS]
    refine wpS_seq M ?_
    refine wpS_seq M ?_
    refine wpS_region M ?_
    simp only [List.size_toArray, List.length_cons, List.length_nil, Nat.reduceAdd, Nat.zero_add, List.range, List.range.loop]
    repeat (first | (refine opsS_look M rfl (by rfl) (fun w => by first | (simp [go_sem]; done) | fail) (fun w hs K hK => ?_); go_simp; refine hK _ ?_; clear hK K hs w; (try walk_nrm)) | (refine opsS_unwanted M rfl (by rfl) ?_; (try walk_nrm)))
    refine opsS_nil M ?_
    try simp only [thenS, inBlockS]
    refine wpS_cond M (v := false) (by rfl) ?_
    simp only [if_true, if_false, Bool.false_eq_true]
    refine wpS_skip M ?_
    try simp only [thenS, inBlockS]
    refine wpS_seq M ?_
    refine wpS_region M ?_
    simp only [List.size_toArray, List.length_cons, List.length_nil, Nat.reduceAdd, Nat.zero_add, List.range, List.range.loop]
    repeat (first | (refine opsS_look M rfl (by rfl) (fun w => by first | (simp [go_sem]; done) | fail) (fun w hs K hK => ?_); go_simp; refine hK _ ?_; clear hK K hs w; (try walk_nrm)) | (refine opsS_unwanted M rfl (by rfl) ?_; (try walk_nrm)))
    by_cases c5 : (1 : Int) < (mn : Int)
    · have c6 : (gl : Int) = 1 := by have := hlen.out; omega
      (refine opsS_look M rfl (by rfl) (fun w => by first | (simp [go_sem, ev_min]; done) | fail) (fun w hs K hK => ?_); go_simp; refine hK _ ?_; clear hK K hs w; (try walk_nrm))
      repeat (first | (refine opsS_look M rfl (by rfl) (fun w => by first | (simp [go_sem]; done) | fail) (fun w hs K hK => ?_); go_simp; refine hK _ ?_; clear hK K hs w; (try walk_nrm)) | (refine opsS_unwanted M rfl (by rfl) ?_; (try walk_nrm)))
      refine opsS_nil M ?_
      try simp only [thenS, inBlockS]
      refine wpS_ret M ?_
      exact hp _ _ hx7 hd7 rfl rfl
    · have c6 : (gl : Int) = (mn : Int) := by have := hlen.out; omega
      (refine opsS_look M rfl (by rfl) (fun w => by first | (simp [go_sem, ev_min]; done) | fail) (fun w hs K hK => ?_); go_simp; refine hK _ ?_; clear hK K hs w; (try walk_nrm))
      repeat (first | (refine opsS_look M rfl (by rfl) (fun w => by first | (simp [go_sem]; done) | fail) (fun w hs K hK => ?_); go_simp; refine hK _ ?_; clear hK K hs w; (try walk_nrm)) | (refine opsS_unwanted M rfl (by rfl) ?_; (try walk_nrm)))
      refine opsS_nil M ?_
      try simp only [thenS, inBlockS]
      refine wpS_ret M ?_
      exact hp _ _ hx7 hd7 rfl rfl

end Go.Proofs.Ytdmhgajamepgoaa.Q
