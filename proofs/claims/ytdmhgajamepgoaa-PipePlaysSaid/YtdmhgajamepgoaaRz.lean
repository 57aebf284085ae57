/-
  OWN TEXT. PIPE: the law PipePlays walked.
-/
import Derived.Test.YtdmhgajamepgoaaRx
import Derived.Test.YtdmhgajamepgoaaRy
set_option linter.unusedVariables false
set_option linter.unusedSimpArgs false
set_option linter.unusedSectionVars false
namespace Go.Proofs.Ytdmhgajamepgoaa.Q
open Go Go.Conc

/-- What stands between two acts. -/
structure PI (s : List Chunk) (q c D n : Nat) (cl : Bool) (L : List Int) : Prop where
  Q : QC s q c n L cl
  D : ∃ dr dc, (⟨D, .cells #[.slice dr L.length dc, .int .i64 n, .bool cl] 30, true⟩ : Chunk) ∈ s ∧ Row3 s (.slice dr L.length dc) (L.map iv) ∧ L.length ≤ dc
theorem PI.apart {B w : World} {s : List Chunk} {q c D n : Nat} {cl : Bool} {L : List Int} {x0 x1 x2 : Value} (hs : Sat B s w) (hQ : QC s q c n L cl) (hD : (⟨D, .cells #[x0, x1, x2] 30, true⟩ : Chunk) ∈ s) :
    ∀ ch ∈ s, (∃ C, ch.o = .cells C 3) → ch.b ≠ D ∧ ch.b ≠ q ∧ ch.b ≠ c := by
  intro ch hc ⟨C, hC⟩
  obtain ⟨sn, rn, hcc⟩ := hQ.c
  have hqq := hQ.q
  refine ⟨fun e => ?_, fun e => ?_, fun e => ?_⟩
  · have := hs.uniq hc hD e; rw [this] at hC; injection hC with _ h; cases h
  · have := hs.uniq hc hqq e; rw [this] at hC; injection hC with _ h; cases h
  · have := hs.uniq hc hcc e; rw [this] at hC; cases hC
theorem putL_len (n : Nat) (L : List Int) (cl : Bool) (x : Int) : (putL n L cl x).length ≤ L.length + 1 := by
  unfold putL
  split
  · omega
  · split <;> simp
def ub (n : Int) : Value := .int .u8 n

set_option maxRecDepth 100000 in
set_option maxHeartbeats 8000000 in
theorem plays_walk {W : World} {Post : Value → World → Prop} (r : Int) (l : List Int) (hl : ∀ x ∈ l, 0 ≤ x ∧ x ≤ 255) (ra : Option Addr) (rc : Nat) (hrow : RowS W [] (.slice ra l.length rc) (l.map ub)) :
    wpS (CMv Try.prog W Post) 3 (Try.f3.body.getD .skip) (lawEnd Try.f3) ⟨#[.int .i64 r, .slice ra l.length rc] ++ Array.replicate (Try.f3.ntmps - 2) undef, []⟩ ⟨[], 0, .alone⟩ := by
  have M := cmoves Try.prog W Post
  have hp : ∀ (a : Act) (t : Tau CX), t.x = .alone → t.d = 0 → a.defers = [] → a.tmps.getD 4 undef = .bool true → lawEnd Try.f3 .ret a t := fun a t h1 h2 h3 h4 => ⟨h1, h2, h3, h4 ▸ resultsC_tmp (by rfl) _⟩
  generalize lawEnd Try.f3 = QQ at hp ⊢
  show wpS _ 3 (Code.seq _ _) _ _ _
  simp only [Try.ntmps3, Nat.reduceSub, Array.replicate_succ, Array.replicate_zero, List.push_toArray, List.append_toArray, List.nil_append, List.cons_append]
  refine wpS_seq M ?_
  refine wpS_region M ?_
  simp only [List.size_toArray, List.length_cons, List.length_nil, Nat.reduceAdd, Nat.zero_add, List.range, List.range.loop]
  (refine opsS_look M rfl (by rfl) (fun w => by first | (simp [go_sem]; done) | fail) (fun w hs K hK => ?_); go_simp; refine hK _ ?_; clear hK K hs w; (try walk_nrm))
  refine opsS_nil M ?_
  try simp only [thenS, inBlockS]
  refine wpS_seq M ?_
  refine wpS_seq M ?_
  refine wpS_region M ?_
  simp only [List.size_toArray, List.length_cons, List.length_nil, Nat.reduceAdd, Nat.zero_add, List.range, List.range.loop]
  refine opsS_callv M rfl (by rfl) rfl Try.func7 (by rfl) (by rfl) (speaks_any rfl rfl) (by (try walk_nrm) <;> rfl) ?_
  rintro v t1 ⟨rfl, k1⟩
  have hx1 : t1.x = .alone := k1.x
  have hd1 : t1.d = 0 := k1.d
  try walk_nrm
  by_cases h60 : (60 : Int) < (l.length : Int)
  · repeat (first | (refine opsS_look M rfl (by rfl) (fun w => by first | (simp [go_sem]; done) | fail) (fun w hs K hK => ?_); go_simp; refine hK _ ?_; clear hK K hs w; (try walk_nrm)) | (refine opsS_unwanted M rfl (by rfl) ?_; (try walk_nrm)))
    refine opsS_nil M ?_
    try simp only [thenS, inBlockS]
    refine wpS_cond M (v := true) (by rfl) ?_
    simp only [if_true, if_false, Bool.false_eq_true]
    refine wpS_seq M ?_
    refine wpS_region M ?_
    simp only [List.size_toArray, List.length_cons, List.length_nil, Nat.reduceAdd, Nat.zero_add, List.range, List.range.loop]
    refine opsS_callv M rfl (by rfl) rfl Try.func7 (by rfl) (by rfl) (speaks_any hx1 hd1) (by (try walk_nrm) <;> rfl) ?_
    rintro v t2 ⟨rfl, k2⟩
    try walk_nrm
    (refine opsS_look M rfl (by rfl) (fun w => by first | (simp [go_sem]; done) | fail) (fun w hs K hK => ?_); go_simp; refine hK _ ?_; clear hK K hs w; (try walk_nrm))
    refine opsS_nil M ?_
    try simp only [thenS, inBlockS]
    refine wpS_ret M ?_
    exact hp _ _ (by rw [k2.x, hx1]) (by rw [k2.d, hd1]) rfl rfl
  · repeat (first | (refine opsS_look M rfl (by rfl) (fun w => by first | (simp [go_sem]; done) | fail) (fun w hs K hK => ?_); go_simp; refine hK _ ?_; clear hK K hs w; (try walk_nrm)) | (refine opsS_unwanted M rfl (by rfl) ?_; (try walk_nrm)))
    refine opsS_nil M ?_
    try simp only [thenS, inBlockS]
    refine wpS_cond M (v := false) (by rfl) ?_
    simp only [if_true, if_false, Bool.false_eq_true]
    refine wpS_skip M ?_
    try simp only [thenS, inBlockS]
    have hlen : l.length ≤ 60 := by omega
    clear h60 k1
    by_cases hbad : r < 1 ∨ 65536 < r
    · refine wpS_seq M ?_
      refine wpS_region M ?_
      simp only [List.size_toArray, List.length_cons, List.length_nil, Nat.reduceAdd, Nat.zero_add, List.range, List.range.loop]
      (refine opsS_look M rfl (by rfl) (fun w => by first | (simp [go_sem]; done) | fail) (fun w hs K hK => ?_); go_simp; refine hK _ ?_; clear hK K hs w; (try walk_nrm))
      refine opsS_callv M rfl (by rfl) rfl Try.func8 (by rfl) (by rfl) (new_bad M r hbad t1) (by (try walk_nrm) <;> rfl) ?_
      rintro v t2 ⟨rfl, rfl⟩
      try walk_nrm
      (refine opsS_look M rfl (by rfl) (fun w => by first | (simp [go_sem]; done) | fail) (fun w hs K hK => ?_); go_simp; refine hK _ ?_; clear hK K hs w; (try walk_nrm))
      (refine opsS_look M rfl (by rfl) (fun w => by first | (simp [go_sem]; done) | fail) (fun w hs K hK => ?_); go_simp; refine hK _ ?_; clear hK K hs w; (try walk_nrm))
      (refine opsS_look M rfl (by rfl) (fun w => by first | (simp [go_sem]; done) | fail) (fun w hs K hK => ?_); go_simp; refine hK _ ?_; clear hK K hs w; (try walk_nrm))
      (refine opsS_look M rfl (by rfl) (fun w => by first | (simp [go_sem]; done) | fail) (fun w hs K hK => ?_); go_simp; refine hK _ ?_; clear hK K hs w; (try walk_nrm))
      (refine opsS_look M rfl (by rfl) (fun w => by first | (simp [go_sem]; done) | fail) (fun w hs K hK => ?_); go_simp; refine hK _ ?_; clear hK K hs w; (try walk_nrm))
      refine opsS_nil M ?_
      try simp only [thenS, inBlockS]
      by_cases c1 : r < 1
      · clear hbad
        refine wpS_seq M ?_
        refine wpS_seq M ?_
        refine wpS_region M ?_
        simp only [List.size_toArray, List.length_cons, List.length_nil, Nat.reduceAdd, Nat.zero_add, List.range, List.range.loop]
        repeat (first | (refine opsS_look M rfl (by rfl) (fun w => by first | (simp [go_sem]; done) | fail) (fun w hs K hK => ?_); go_simp; refine hK _ ?_; clear hK K hs w; (try walk_nrm)) | (refine opsS_unwanted M rfl (by rfl) ?_; (try walk_nrm)))
        refine opsS_nil M ?_
        try simp only [thenS, inBlockS]
        refine wpS_cond M (v := true) (by rfl) ?_
        simp only [if_true, if_false, Bool.false_eq_true]
        refine wpS_seq M ?_
        refine wpS_region M ?_
        simp only [List.size_toArray, List.length_cons, List.length_nil, Nat.reduceAdd, Nat.zero_add, List.range, List.range.loop]
        (refine opsS_look M rfl (by rfl) (fun w => by first | (simp [go_sem]; done) | fail) (fun w hs K hK => ?_); go_simp; refine hK _ ?_; clear hK K hs w; (try walk_nrm))
        refine opsS_look M rfl (by rfl) (fun w => by simp [go_sem, ptr_eqlE, ptr_eql0E]) (fun w hs K hK => ?_)
        have hpe := fun a => ptr_eql a w
        have hpn := ptr_eql0 w
        go_simp
        refine hK _ ?_
        clear hpe hpn hK K hs w
        try walk_nrm
        repeat (first | (refine opsS_look M rfl (by rfl) (fun w => by first | (simp [go_sem]; done) | fail) (fun w hs K hK => ?_); go_simp; refine hK _ ?_; clear hK K hs w; (try walk_nrm)) | (refine opsS_unwanted M rfl (by rfl) ?_; (try walk_nrm)))
        refine opsS_nil M ?_
        try simp only [thenS, inBlockS]
        refine wpS_ret M ?_
        exact hp _ _ hx1 hd1 rfl rfl
      · have c2 : 65536 < r := hbad.resolve_left c1
        clear hbad
        refine wpS_seq M ?_
        refine wpS_seq M ?_
        refine wpS_region M ?_
        simp only [List.size_toArray, List.length_cons, List.length_nil, Nat.reduceAdd, Nat.zero_add, List.range, List.range.loop]
        repeat (first | (refine opsS_look M rfl (by rfl) (fun w => by first | (simp [go_sem]; done) | fail) (fun w hs K hK => ?_); go_simp; refine hK _ ?_; clear hK K hs w; (try walk_nrm)) | (refine opsS_unwanted M rfl (by rfl) ?_; (try walk_nrm)))
        refine opsS_nil M ?_
        try simp only [thenS, inBlockS]
        refine wpS_cond M (v := true) (by rfl) ?_
        simp only [if_true, if_false, Bool.false_eq_true]
        refine wpS_seq M ?_
        refine wpS_region M ?_
        simp only [List.size_toArray, List.length_cons, List.length_nil, Nat.reduceAdd, Nat.zero_add, List.range, List.range.loop]
        (refine opsS_look M rfl (by rfl) (fun w => by first | (simp [go_sem]; done) | fail) (fun w hs K hK => ?_); go_simp; refine hK _ ?_; clear hK K hs w; (try walk_nrm))
        refine opsS_look M rfl (by rfl) (fun w => by simp [go_sem, ptr_eqlE, ptr_eql0E]) (fun w hs K hK => ?_)
        have hpe := fun a => ptr_eql a w
        have hpn := ptr_eql0 w
        go_simp
        refine hK _ ?_
        clear hpe hpn hK K hs w
        try walk_nrm
        repeat (first | (refine opsS_look M rfl (by rfl) (fun w => by first | (simp [go_sem]; done) | fail) (fun w hs K hK => ?_); go_simp; refine hK _ ?_; clear hK K hs w; (try walk_nrm)) | (refine opsS_unwanted M rfl (by rfl) ?_; (try walk_nrm)))
        refine opsS_nil M ?_
        try simp only [thenS, inBlockS]
        refine wpS_ret M ?_
        exact hp _ _ hx1 hd1 rfl rfl
    have c1 : ¬ r < 1 := by omega
    have c2 : ¬ 65536 < r := by omega
    clear hbad
    obtain ⟨n, rfl⟩ := Int.eq_ofNat_of_zero_le (show 0 ≤ r by omega)
    refine wpS_seq M ?_
    refine wpS_region M ?_
    simp only [List.size_toArray, List.length_cons, List.length_nil, Nat.reduceAdd, Nat.zero_add, List.range, List.range.loop]
    (refine opsS_look M rfl (by rfl) (fun w => by first | (simp [go_sem]; done) | fail) (fun w hs K hK => ?_); go_simp; refine hK _ ?_; clear hK K hs w; (try walk_nrm))
    refine opsS_callv M rfl (by rfl) rfl Try.func8 (by rfl) (by rfl) (new_any M n (by omega) (by omega) t1) (by (try walk_nrm) <;> rfl) ?_
    rintro v t2 ⟨q, c, rfl, k2, hQ, f2, g2, g2'⟩
    try walk_nrm
    (refine opsS_look M rfl (by rfl) (fun w => by first | (simp [go_sem]; done) | fail) (fun w hs K hK => ?_); go_simp; refine hK _ ?_; clear hK K hs w; (try walk_nrm))
    (refine opsS_look M rfl (by rfl) (fun w => by first | (simp [go_sem]; done) | fail) (fun w hs K hK => ?_); go_simp; refine hK _ ?_; clear hK K hs w; (try walk_nrm))
    (refine opsS_look M rfl (by rfl) (fun w => by first | (simp [go_sem]; done) | fail) (fun w hs K hK => ?_); go_simp; refine hK _ ?_; clear hK K hs w; (try walk_nrm))
    (refine opsS_look M rfl (by rfl) (fun w => by first | (simp [go_sem]; done) | fail) (fun w hs K hK => ?_); go_simp; refine hK _ ?_; clear hK K hs w; (try walk_nrm))
    (refine opsS_look M rfl (by rfl) (fun w => by first | (simp [go_sem]; done) | fail) (fun w hs K hK => ?_); go_simp; refine hK _ ?_; clear hK K hs w; (try walk_nrm))
    refine opsS_nil M ?_
    try simp only [thenS, inBlockS]
    refine wpS_seq M ?_
    refine wpS_seq M ?_
    refine wpS_region M ?_
    simp only [List.size_toArray, List.length_cons, List.length_nil, Nat.reduceAdd, Nat.zero_add, List.range, List.range.loop]
    repeat (first | (refine opsS_look M rfl (by rfl) (fun w => by first | (simp [go_sem]; done) | fail) (fun w hs K hK => ?_); go_simp; refine hK _ ?_; clear hK K hs w; (try walk_nrm)) | (refine opsS_unwanted M rfl (by rfl) ?_; (try walk_nrm)))
    refine opsS_nil M ?_
    try simp only [thenS, inBlockS]
    refine wpS_cond M (v := false) (by rfl) ?_
    simp only [if_true, if_false, Bool.false_eq_true]
    refine wpS_skip M ?_
    try simp only [thenS, inBlockS]
    refine wpS_seq M ?_
    refine wpS_seq M ?_
    refine wpS_region M ?_
    simp only [List.size_toArray, List.length_cons, List.length_nil, Nat.reduceAdd, Nat.zero_add, List.range, List.range.loop]
    (refine opsS_look M rfl (by rfl) (fun w => by first | (simp [go_sem]; done) | fail) (fun w hs K hK => ?_); go_simp; refine hK _ ?_; clear hK K hs w; (try walk_nrm))
    refine opsS_look M rfl (by rfl) (fun w => by simp [go_sem, ptr_eqlE, ptr_eql0E]) (fun w hs K hK => ?_)
    have hpe := fun a => ptr_eql a w
    have hpn := ptr_eql0 w
    go_simp
    refine hK _ ?_
    clear hpe hpn hK K hs w
    try walk_nrm
    repeat (first | (refine opsS_look M rfl (by rfl) (fun w => by first | (simp [go_sem]; done) | fail) (fun w hs K hK => ?_); go_simp; refine hK _ ?_; clear hK K hs w; (try walk_nrm)) | (refine opsS_unwanted M rfl (by rfl) ?_; (try walk_nrm)))
    refine opsS_nil M ?_
    try simp only [thenS, inBlockS]
    refine wpS_cond M (v := false) (by rfl) ?_
    simp only [if_true, if_false, Bool.false_eq_true]
    refine wpS_skip M ?_
    try simp only [thenS, inBlockS]
    refine wpS_seq M ?_
    refine wpS_region M ?_
    simp only [List.size_toArray, List.length_cons, List.length_nil, Nat.reduceAdd, Nat.zero_add, List.range, List.range.loop]
    (refine opsS_look M rfl (by rfl) (fun w => by first | (simp [go_sem]; done) | fail) (fun w hs K hK => ?_); go_simp; refine hK _ ?_; clear hK K hs w; (try walk_nrm))
    (refine opsS_look M rfl (by rfl) (fun w => by first | (simp [go_sem]; done) | fail) (fun w hs K hK => ?_); go_simp; refine hK _ ?_; clear hK K hs w; (try walk_nrm))
    refine opsS_new M (.cells #[.slice none 0 0, .int .i64 0, .bool false] 30) rfl (by rfl) (fun w hs => by simp [go_sem]) (fun w hs K hK => ?_)
    go_simp
    refine hK _ fun t3 k3 hD f3 g3 => ?_
    clear hK K
    generalize w.heap.size = D at *
    clear hs w
    try walk_nrm
    refine opsS_st3 M (ra := none) (len := 0) (rc := 0) (room := n) (cl := false) hD rfl (by rfl) (fun h => h) rfl rfl rfl fun t4 k4 hD4 => ?_
    try walk_nrm
    refine opsS_nil M ?_
    try simp only [thenS, inBlockS]
    refine wpS_facts M fun w0 hs0 => ?_
    obtain ⟨sn0, rn0, hcc⟩ := hQ.c
    have hcq := chan_ne hs0 (k4.sg _ (k3.all hQ.q) (by simpa using f3 _ hQ.q)) (k4.sg _ (k3.all hcc) (by simpa using f3 _ hcc))
    have hqD : q ≠ D := f3 _ hQ.q
    have hcD : c ≠ D := f3 _ hcc
    clear hs0 w0
    have hPI : PI t4.sg q c D n false [] := ⟨hQ.keep fun ch hc _ hb => k4.sg _ (k3.all hc) (by simpa using f3 _ hc), none, 0, hD4, ⟨none, 0, rfl, fun j u h => by simp at h⟩, by simp⟩
    have hx4 : t4.x = .alone := by rw [k4.x, k3.x, k2.x, hx1]
    have hd4 : t4.d = 0 := by rw [k4.d, k3.d, k2.d, hd1]
    clear hD4 hD hcc hQ k4 k3 k2 f3 f2 g2 g2' g3 hx1 hd1 c1
    replace c2 : Hid (n ≤ 65536) := ⟨by omega⟩
    refine wpS_seq M ?_
    refine wpS_seq M ?_
    refine wpS_region M ?_
    simp only [List.size_toArray, List.length_cons, List.length_nil, Nat.reduceAdd, Nat.zero_add, List.range, List.range.loop]
    (refine opsS_look M rfl (by rfl) (fun w => by first | (simp [go_sem]; done) | fail) (fun w hs K hK => ?_); go_simp; refine hK _ ?_; clear hK K hs w; (try walk_nrm))
    (refine opsS_look M rfl (by rfl) (fun w => by first | (simp [go_sem]; done) | fail) (fun w hs K hK => ?_); go_simp; refine hK _ ?_; clear hK K hs w; (try walk_nrm))
    (refine opsS_look M rfl (by rfl) (fun w => by first | (simp [go_sem]; done) | fail) (fun w hs K hK => ?_); go_simp; refine hK _ ?_; clear hK K hs w; (try walk_nrm))
    refine opsS_nil M ?_
    try simp only [thenS, inBlockS]
    refine wpS_block M ?_
    refine wpS_loopN M (I := fun N a t' => ∃ i L cl, i + N = l.length ∧ (∃ u : Nat → Value, a = ⟨#[u 0, u 1, u 2, u 3, u 4, .pointer (some ⟨q, 0, none⟩), u 6, .pointer (some ⟨D, 0, none⟩), u 8, u 9, u 10, u 11, u 12, u 13, u 14, u 15, u 16, u 17, u 18, u 19, u 20, u 21, u 22, u 23, u 24, u 25, u 26, u 27, u 28, u 29, u 30, u 31, u 32, u 33, u 34, u 35, u 36, u 37, u 38, u 39, u 40, u 41, u 42, u 43, u 44, u 45, u 46, .slice ra l.length rc, .int .i64 l.length, .int .i64 i, u 50, u 51, u 52, u 53, u 54, u 55, u 56, u 57, u 58, u 59, u 60, u 61, u 62, u 63, u 64, u 65, u 66, u 67, u 68, u 69, u 70, u 71, u 72, u 73, u 74, u 75, u 76, u 77, u 78, u 79, u 80, u 81, u 82, u 83, u 84, u 85, u 86, u 87, u 88, u 89, u 90, u 91, u 92, u 93, u 94, u 95, u 96, u 97, u 98, u 99, u 100, u 101, u 102, u 103, u 104], []⟩) ∧ t'.x = .alone ∧ t'.d = 0 ∧ PI t'.sg q c D n cl L ∧ L.length ≤ i) l.length ⟨0, [], false, by omega, mkF (by kernel_rfl), hx4, hd4, hPI, by simp⟩ ?_
    rintro N a t5 ⟨i, L, cl, hi, ⟨u, rfl⟩, hx5, hd5, hPI5, hLi⟩
    clear hPI hx4 hd4
    replace hi := Hid.mk hi
    replace hLi := Hid.mk hLi
    refine wpS_seq M ?_
    refine wpS_region M ?_
    simp only [List.size_toArray, List.length_cons, List.length_nil, Nat.reduceAdd, Nat.zero_add, List.range, List.range.loop]
    cases N with
    | zero =>
      have hlt : ¬ ((i : Int) < (l.length : Int)) := by have := hi.out; omega
      (refine opsS_look M rfl (by rfl) (fun w => by first | (simp [go_sem]; done) | fail) (fun w hs K hK => ?_); go_simp; refine hK _ ?_; clear hK K hs w; (try walk_nrm))
      refine opsS_nil M ?_
      try simp only [thenS, inBlockS]
      refine wpS_seq M ?_
      refine wpS_cond M (v := false) (by rfl) ?_
      simp only [if_true, if_false, Bool.false_eq_true]
      refine wpS_exit M ?_
      try simp only [thenS, inBlockS, if_true, if_false, eq_self, reduceIte, Nat.reduceEqDiff, OfNat.ofNat_ne_ofNat, OfNat.ofNat_ne_zero, OfNat.zero_ne_ofNat, Nat.zero_ne_one, Nat.one_ne_zero, OfNat.ofNat_ne_one, OfNat.one_ne_ofNat]
      refine wpS_seq M ?_
      refine wpS_region M ?_
      simp only [List.size_toArray, List.length_cons, List.length_nil, Nat.reduceAdd, Nat.zero_add, List.range, List.range.loop]
      (refine opsS_look M rfl (by rfl) (fun w => by first | (simp [go_sem]; done) | fail) (fun w hs K hK => ?_); go_simp; refine hK _ ?_; clear hK K hs w; (try walk_nrm))
      refine opsS_nil M ?_
      try simp only [thenS, inBlockS]
      refine wpS_ret M ?_
      exact hp _ _ hx5 hd5 rfl rfl
    | succ N =>
      have hlt : (i : Int) < (l.length : Int) := by have := hi.out; omega
      have hltn : i < l.length := by have := hi.out; omega
      (refine opsS_look M rfl (by rfl) (fun w => by first | (simp [go_sem]; done) | fail) (fun w hs K hK => ?_); go_simp; refine hK _ ?_; clear hK K hs w; (try walk_nrm))
      clear hlt
      refine opsS_nil M ?_
      try simp only [thenS, inBlockS]
      refine wpS_seq M ?_
      refine wpS_cond M (v := true) (by rfl) ?_
      simp only [if_true, if_false, Bool.false_eq_true]
      refine wpS_skip M ?_
      try simp only [thenS, inBlockS]
      refine wpS_seq M ?_
      refine wpS_block M ?_
      obtain ⟨x, hx⟩ : ∃ x, l[i]? = some x := ⟨l[i], List.getElem?_eq_getElem hltn⟩
      have hx0 := hl x (List.mem_of_getElem? hx)
      obtain ⟨b', o', rfl, hrd⟩ := (hrow.row.mono (s' := t5.sg) (by simp)).get i (ub x) (by rw [List.getElem?_map, hx]; rfl)
      replace hx := Hid.mk hx
      have hns : ¬ cstrict t5.x := fun h => h
      refine wpS_seq M ?_
      refine wpS_region M ?_
      simp only [List.size_toArray, List.length_cons, List.length_nil, Nat.reduceAdd, Nat.zero_add, List.range, List.range.loop]
      (refine opsS_look M rfl (by rfl) (fun w => by first | (simp [go_sem]; done) | fail) (fun w hs K hK => ?_); go_simp; refine hK _ ?_; clear hK K hs w; (try walk_nrm))
      (refine opsS_look M rfl (by rfl) (fun w => by first | (simp [go_sem, hltn]; done) | fail) (fun w hs K hK => ?_); go_simp; refine hK _ ?_; clear hK K hs w; (try walk_nrm))
      refine opsS_ldR M hrd rfl (by rfl) hns (fun w hcell e he => by simp [go_sem, hcell] at he; exact ⟨_, he⟩) (fun w hcell K hK => ?_)
      go_simp
      refine hK _ ?_
      clear hK K hcell w
      try walk_nrm
      simp only [ub]
      try walk_nrm
      (refine opsS_look M rfl (by rfl) (fun w => by first | (simp [go_sem]; done) | fail) (fun w hs K hK => ?_); go_simp; refine hK _ ?_; clear hK K hs w; (try walk_nrm))
      (refine opsS_look M rfl (by rfl) (fun w => by first | (simp [go_sem]; done) | fail) (fun w hs K hK => ?_); go_simp; refine hK _ ?_; clear hK K hs w; (try walk_nrm))
      refine opsS_nil M ?_
      try simp only [thenS, inBlockS]
      refine wpS_seq M ?_
      refine wpS_region M ?_
      simp only [List.size_toArray, List.length_cons, List.length_nil, Nat.reduceAdd, Nat.zero_add, List.range, List.range.loop]
      (refine opsS_look M rfl (by rfl) (fun w => by first | (simp [go_sem]; done) | fail) (fun w hs K hK => ?_); go_simp; refine hK _ ?_; clear hK K hs w; (try walk_nrm))
      (refine opsS_look M rfl (by rfl) (fun w => by first | (simp [go_sem]; done) | fail) (fun w hs K hK => ?_); go_simp; refine hK _ ?_; clear hK K hs w; (try walk_nrm))
      refine opsS_nil M ?_
      try simp only [thenS, inBlockS]
      refine wpS_seq M ?_
      refine wpS_mono (Q := fun e a t' => e = .normal ∧ (∃ u : Nat → Value, a = ⟨#[u 0, u 1, u 2, u 3, u 4, .pointer (some ⟨q, 0, none⟩), u 6, .pointer (some ⟨D, 0, none⟩), u 8, u 9, u 10, u 11, u 12, u 13, u 14, u 15, u 16, u 17, u 18, u 19, u 20, u 21, u 22, u 23, u 24, u 25, u 26, u 27, u 28, u 29, u 30, u 31, u 32, u 33, u 34, u 35, u 36, u 37, u 38, u 39, u 40, u 41, u 42, u 43, u 44, u 45, u 46, .slice (some ⟨b', o', none⟩) l.length rc, .int .i64 l.length, .int .i64 i, u 50, u 51, u 52, u 53, u 54, u 55, u 56, u 57, u 58, u 59, u 60, u 61, u 62, u 63, u 64, u 65, u 66, u 67, u 68, u 69, u 70, u 71, u 72, u 73, u 74, u 75, u 76, u 77, u 78, u 79, u 80, u 81, u 82, u 83, u 84, u 85, u 86, u 87, u 88, u 89, u 90, u 91, u 92, u 93, u 94, u 95, u 96, u 97, u 98, u 99, u 100, u 101, u 102, u 103, u 104], []⟩) ∧ t'.x = .alone ∧ t'.d = 0 ∧ ∃ L' cl', PI t'.sg q c D n cl' L' ∧ L'.length ≤ i + 1) ?_ ?_
      · obtain ⟨m, hm⟩ : ∃ m : Int, m = x % 8 := ⟨_, rfl⟩
        have htm : x.tmod 8 = m := by rw [Int.tmod_eq_emod_of_nonneg hx0.1, hm]
        have hm8 : 0 ≤ m ∧ m < 8 := by omega
        replace hm := Hid.mk hm
        replace hm8 := Hid.mk hm8
        replace hx0 := Hid.mk hx0
        refine wpS_seq M ?_
        refine wpS_region M ?_
        simp only [List.size_toArray, List.length_cons, List.length_nil, Nat.reduceAdd, Nat.zero_add, List.range, List.range.loop]
        (refine opsS_look M rfl (by rfl) (fun w => by first | (simp [go_sem]; done) | fail) (fun w hs K hK => ?_); go_simp; refine hK _ ?_; clear hK K hs w; (try walk_nrm))
        (refine opsS_look M rfl (by rfl) (fun w => by first | (simp [go_sem]; done) | fail) (fun w hs K hK => ?_); go_simp; refine hK _ ?_; clear hK K hs w; (try walk_nrm))
        clear htm
        refine opsS_nil M ?_
        try simp only [thenS, inBlockS]
        refine wpS_block M ?_
        refine wpS_seq M ?_
        refine wpS_mono (Q := fun e a t' => e = .normal ∧ (∃ u : Nat → Value, a = ⟨#[u 0, u 1, u 2, u 3, u 4, .pointer (some ⟨q, 0, none⟩), u 6, .pointer (some ⟨D, 0, none⟩), .int .i64 i, .int .u8 x, u 10, u 11, u 12, u 13, u 14, u 15, u 16, u 17, u 18, u 19, u 20, u 21, u 22, u 23, u 24, u 25, u 26, u 27, u 28, u 29, u 30, u 31, u 32, u 33, u 34, u 35, u 36, u 37, u 38, u 39, u 40, u 41, u 42, u 43, u 44, u 45, u 46, .slice (some ⟨b', o', none⟩) l.length rc, .int .i64 l.length, .int .i64 i, u 50, u 51, u 52, u 53, u 54, .int .u8 m, u 56, u 57, u 58, u 59, u 60, u 61, u 62, u 63, u 64, u 65, u 66, u 67, u 68, u 69, u 70, u 71, u 72, u 73, u 74, .bool (decide (m < 4)), u 76, u 77, u 78, u 79, u 80, u 81, u 82, u 83, u 84, u 85, u 86, u 87, u 88, u 89, u 90, u 91, u 92, u 93, u 94, u 95, u 96, u 97, u 98, u 99, u 100, u 101, u 102, u 103, u 104], []⟩) ∧ t' = t5) ?_ ?_
        · rcases (show m = 0 ∨ m = 1 ∨ m = 2 ∨ m = 3 ∨ 4 ≤ m by have := hm8.out; omega) with rfl | rfl | rfl | rfl | h4
          · refine wpS_seq M ?_
            refine wpS_region M ?_
            simp only [List.size_toArray, List.length_cons, List.length_nil, Nat.reduceAdd, Nat.zero_add, List.range, List.range.loop]
            (refine opsS_look M rfl (by rfl) (fun w => by first | (simp [go_sem]; done) | fail) (fun w hs K hK => ?_); go_simp; refine hK _ ?_; clear hK K hs w; (try walk_nrm))
            (refine opsS_look M rfl (by rfl) (fun w => by first | (simp [go_sem]; done) | fail) (fun w hs K hK => ?_); go_simp; refine hK _ ?_; clear hK K hs w; (try walk_nrm))
            refine opsS_nil M ?_
            try simp only [thenS, inBlockS]
            refine wpS_cond M (v := true) (by rfl) ?_
            simp only [if_true, if_false, Bool.false_eq_true]
            refine wpS_skip M ?_
            try simp only [thenS, inBlockS]
            exact ⟨by trivial, mkF (by kernel_rfl), by trivial⟩
          · refine wpS_seq M ?_
            refine wpS_region M ?_
            simp only [List.size_toArray, List.length_cons, List.length_nil, Nat.reduceAdd, Nat.zero_add, List.range, List.range.loop]
            (refine opsS_look M rfl (by rfl) (fun w => by first | (simp [go_sem]; done) | fail) (fun w hs K hK => ?_); go_simp; refine hK _ ?_; clear hK K hs w; (try walk_nrm))
            (refine opsS_look M rfl (by rfl) (fun w => by first | (simp [go_sem]; done) | fail) (fun w hs K hK => ?_); go_simp; refine hK _ ?_; clear hK K hs w; (try walk_nrm))
            refine opsS_nil M ?_
            try simp only [thenS, inBlockS]
            refine wpS_cond M (v := false) (by rfl) ?_
            simp only [if_true, if_false, Bool.false_eq_true]
            refine wpS_seq M ?_
            refine wpS_region M ?_
            simp only [List.size_toArray, List.length_cons, List.length_nil, Nat.reduceAdd, Nat.zero_add, List.range, List.range.loop]
            (refine opsS_look M rfl (by rfl) (fun w => by first | (simp [go_sem]; done) | fail) (fun w hs K hK => ?_); go_simp; refine hK _ ?_; clear hK K hs w; (try walk_nrm))
            (refine opsS_look M rfl (by rfl) (fun w => by first | (simp [go_sem]; done) | fail) (fun w hs K hK => ?_); go_simp; refine hK _ ?_; clear hK K hs w; (try walk_nrm))
            refine opsS_nil M ?_
            try simp only [thenS, inBlockS]
            refine wpS_cond M (v := true) (by rfl) ?_
            simp only [if_true, if_false, Bool.false_eq_true]
            refine wpS_skip M ?_
            try simp only [thenS, inBlockS]
            exact ⟨by trivial, mkF (by kernel_rfl), by trivial⟩
          · refine wpS_seq M ?_
            refine wpS_region M ?_
            simp only [List.size_toArray, List.length_cons, List.length_nil, Nat.reduceAdd, Nat.zero_add, List.range, List.range.loop]
            (refine opsS_look M rfl (by rfl) (fun w => by first | (simp [go_sem]; done) | fail) (fun w hs K hK => ?_); go_simp; refine hK _ ?_; clear hK K hs w; (try walk_nrm))
            (refine opsS_look M rfl (by rfl) (fun w => by first | (simp [go_sem]; done) | fail) (fun w hs K hK => ?_); go_simp; refine hK _ ?_; clear hK K hs w; (try walk_nrm))
            refine opsS_nil M ?_
            try simp only [thenS, inBlockS]
            refine wpS_cond M (v := false) (by rfl) ?_
            simp only [if_true, if_false, Bool.false_eq_true]
            refine wpS_seq M ?_
            refine wpS_region M ?_
            simp only [List.size_toArray, List.length_cons, List.length_nil, Nat.reduceAdd, Nat.zero_add, List.range, List.range.loop]
            (refine opsS_look M rfl (by rfl) (fun w => by first | (simp [go_sem]; done) | fail) (fun w hs K hK => ?_); go_simp; refine hK _ ?_; clear hK K hs w; (try walk_nrm))
            (refine opsS_look M rfl (by rfl) (fun w => by first | (simp [go_sem]; done) | fail) (fun w hs K hK => ?_); go_simp; refine hK _ ?_; clear hK K hs w; (try walk_nrm))
            refine opsS_nil M ?_
            try simp only [thenS, inBlockS]
            refine wpS_cond M (v := false) (by rfl) ?_
            simp only [if_true, if_false, Bool.false_eq_true]
            refine wpS_seq M ?_
            refine wpS_region M ?_
            simp only [List.size_toArray, List.length_cons, List.length_nil, Nat.reduceAdd, Nat.zero_add, List.range, List.range.loop]
            (refine opsS_look M rfl (by rfl) (fun w => by first | (simp [go_sem]; done) | fail) (fun w hs K hK => ?_); go_simp; refine hK _ ?_; clear hK K hs w; (try walk_nrm))
            (refine opsS_look M rfl (by rfl) (fun w => by first | (simp [go_sem]; done) | fail) (fun w hs K hK => ?_); go_simp; refine hK _ ?_; clear hK K hs w; (try walk_nrm))
            refine opsS_nil M ?_
            try simp only [thenS, inBlockS]
            refine wpS_cond M (v := true) (by rfl) ?_
            simp only [if_true, if_false, Bool.false_eq_true]
            refine wpS_skip M ?_
            try simp only [thenS, inBlockS]
            exact ⟨by trivial, mkF (by kernel_rfl), by trivial⟩
          · refine wpS_seq M ?_
            refine wpS_region M ?_
            simp only [List.size_toArray, List.length_cons, List.length_nil, Nat.reduceAdd, Nat.zero_add, List.range, List.range.loop]
            (refine opsS_look M rfl (by rfl) (fun w => by first | (simp [go_sem]; done) | fail) (fun w hs K hK => ?_); go_simp; refine hK _ ?_; clear hK K hs w; (try walk_nrm))
            (refine opsS_look M rfl (by rfl) (fun w => by first | (simp [go_sem]; done) | fail) (fun w hs K hK => ?_); go_simp; refine hK _ ?_; clear hK K hs w; (try walk_nrm))
            refine opsS_nil M ?_
            try simp only [thenS, inBlockS]
            refine wpS_cond M (v := false) (by rfl) ?_
            simp only [if_true, if_false, Bool.false_eq_true]
            refine wpS_seq M ?_
            refine wpS_region M ?_
            simp only [List.size_toArray, List.length_cons, List.length_nil, Nat.reduceAdd, Nat.zero_add, List.range, List.range.loop]
            (refine opsS_look M rfl (by rfl) (fun w => by first | (simp [go_sem]; done) | fail) (fun w hs K hK => ?_); go_simp; refine hK _ ?_; clear hK K hs w; (try walk_nrm))
            (refine opsS_look M rfl (by rfl) (fun w => by first | (simp [go_sem]; done) | fail) (fun w hs K hK => ?_); go_simp; refine hK _ ?_; clear hK K hs w; (try walk_nrm))
            refine opsS_nil M ?_
            try simp only [thenS, inBlockS]
            refine wpS_cond M (v := false) (by rfl) ?_
            simp only [if_true, if_false, Bool.false_eq_true]
            refine wpS_seq M ?_
            refine wpS_region M ?_
            simp only [List.size_toArray, List.length_cons, List.length_nil, Nat.reduceAdd, Nat.zero_add, List.range, List.range.loop]
            (refine opsS_look M rfl (by rfl) (fun w => by first | (simp [go_sem]; done) | fail) (fun w hs K hK => ?_); go_simp; refine hK _ ?_; clear hK K hs w; (try walk_nrm))
            (refine opsS_look M rfl (by rfl) (fun w => by first | (simp [go_sem]; done) | fail) (fun w hs K hK => ?_); go_simp; refine hK _ ?_; clear hK K hs w; (try walk_nrm))
            refine opsS_nil M ?_
            try simp only [thenS, inBlockS]
            refine wpS_cond M (v := false) (by rfl) ?_
            simp only [if_true, if_false, Bool.false_eq_true]
            refine wpS_region M ?_
            simp only [List.size_toArray, List.length_cons, List.length_nil, Nat.reduceAdd, Nat.zero_add, List.range, List.range.loop]
            (refine opsS_look M rfl (by rfl) (fun w => by first | (simp [go_sem]; done) | fail) (fun w hs K hK => ?_); go_simp; refine hK _ ?_; clear hK K hs w; (try walk_nrm))
            (refine opsS_look M rfl (by rfl) (fun w => by first | (simp [go_sem]; done) | fail) (fun w hs K hK => ?_); go_simp; refine hK _ ?_; clear hK K hs w; (try walk_nrm))
            refine opsS_nil M ?_
            try simp only [thenS, inBlockS]
            exact ⟨by trivial, mkF (by kernel_rfl), by trivial⟩
          · have e0 : (m == 0) = false := by simp; omega
            have e1 : (m == 1) = false := by simp; omega
            have e2 : (m == 2) = false := by simp; omega
            have e3 : (m == 3) = false := by simp; omega
            have ed : decide (m < 4) = false := by simp; omega
            rw [ed]
            clear h4 ed
            refine wpS_seq M ?_
            refine wpS_region M ?_
            simp only [List.size_toArray, List.length_cons, List.length_nil, Nat.reduceAdd, Nat.zero_add, List.range, List.range.loop]
            (refine opsS_look M rfl (by rfl) (fun w => by first | (simp [go_sem]; done) | fail) (fun w hs K hK => ?_); go_simp; refine hK _ ?_; clear hK K hs w; (try walk_nrm))
            (refine opsS_look M rfl (by rfl) (fun w => by first | (simp [go_sem]; done) | fail) (fun w hs K hK => ?_); go_simp; refine hK _ ?_; clear hK K hs w; (try walk_nrm))
            refine opsS_nil M ?_
            try simp only [thenS, inBlockS]
            refine wpS_cond M (v := false) (by rfl) ?_
            simp only [if_true, if_false, Bool.false_eq_true]
            refine wpS_seq M ?_
            refine wpS_region M ?_
            simp only [List.size_toArray, List.length_cons, List.length_nil, Nat.reduceAdd, Nat.zero_add, List.range, List.range.loop]
            (refine opsS_look M rfl (by rfl) (fun w => by first | (simp [go_sem]; done) | fail) (fun w hs K hK => ?_); go_simp; refine hK _ ?_; clear hK K hs w; (try walk_nrm))
            (refine opsS_look M rfl (by rfl) (fun w => by first | (simp [go_sem]; done) | fail) (fun w hs K hK => ?_); go_simp; refine hK _ ?_; clear hK K hs w; (try walk_nrm))
            refine opsS_nil M ?_
            try simp only [thenS, inBlockS]
            refine wpS_cond M (v := false) (by rfl) ?_
            simp only [if_true, if_false, Bool.false_eq_true]
            refine wpS_seq M ?_
            refine wpS_region M ?_
            simp only [List.size_toArray, List.length_cons, List.length_nil, Nat.reduceAdd, Nat.zero_add, List.range, List.range.loop]
            (refine opsS_look M rfl (by rfl) (fun w => by first | (simp [go_sem]; done) | fail) (fun w hs K hK => ?_); go_simp; refine hK _ ?_; clear hK K hs w; (try walk_nrm))
            (refine opsS_look M rfl (by rfl) (fun w => by first | (simp [go_sem]; done) | fail) (fun w hs K hK => ?_); go_simp; refine hK _ ?_; clear hK K hs w; (try walk_nrm))
            refine opsS_nil M ?_
            try simp only [thenS, inBlockS]
            refine wpS_cond M (v := false) (by rfl) ?_
            simp only [if_true, if_false, Bool.false_eq_true]
            refine wpS_region M ?_
            simp only [List.size_toArray, List.length_cons, List.length_nil, Nat.reduceAdd, Nat.zero_add, List.range, List.range.loop]
            (refine opsS_look M rfl (by rfl) (fun w => by first | (simp [go_sem]; done) | fail) (fun w hs K hK => ?_); go_simp; refine hK _ ?_; clear hK K hs w; (try walk_nrm))
            (refine opsS_look M rfl (by rfl) (fun w => by first | (simp [go_sem]; done) | fail) (fun w hs K hK => ?_); go_simp; refine hK _ ?_; clear hK K hs w; (try walk_nrm))
            refine opsS_nil M ?_
            try simp only [thenS, inBlockS]
            exact ⟨by trivial, mkF (by kernel_rfl), by trivial⟩
        rintro e a t6 ⟨rfl, ⟨u, rfl⟩, rfl⟩
        simp only [thenS]
        obtain ⟨dr, dc, hD, hrowD, hcapD⟩ := hPI5.D
        replace hcapD := Hid.mk hcapD
        have neD : ∀ ch : Chunk, ch.b = q ∨ ch.b = c → ch.b ∉ [D] := fun ch hb => by rcases hb with h | h <;> simp [h, hqD, hcD]
        have Dne : D ∉ [q, c] := by simp [hqD.symm, hcD.symm]
        refine wpS_facts M fun w0 hs0 => ?_
        have hap5 := PI.apart hs0 hPI5.Q hD
        clear hs0 w0
        have hL60 : L.length < 1000000 := by have := hLi.out; omega
        by_cases hm4 : m < 4
        · have ed : decide (m < 4) = true := by simp [hm4]
          rw [ed]
          clear ed
          refine wpS_cond M (v := true) (by rfl) ?_
          simp only [if_true, if_false, Bool.false_eq_true]
          refine wpS_seq M ?_
          refine wpS_region M ?_
          simp only [List.size_toArray, List.length_cons, List.length_nil, Nat.reduceAdd, Nat.zero_add, List.range, List.range.loop]
          refine opsS_ldS M hD rfl (by rfl) hns (fun w hob hcl e he => by have c0 := hcl 0 _ rfl; have c1 := hcl 1 _ rfl; have c2 := hcl 2 _ rfl; simp [go_sem, c0, c1, c2] at he; rcases he with rfl | rfl | rfl <;> exact ⟨_, rfl⟩) (fun w hob hcl K hK => ?_)
          have c0 := hcl 0 _ rfl
          have c1 := hcl 1 _ rfl
          have c2 := hcl 2 _ rfl
          go_simp
          refine hK _ ?_
          clear c0 c1 c2 hK K hcl hob w
          try walk_nrm
          (refine opsS_look M rfl (by rfl) (fun w => by first | (simp [go_sem]; done) | fail) (fun w hs K hK => ?_); go_simp; refine hK _ ?_; clear hK K hs w; (try walk_nrm))
          refine opsS_callv M rfl (by rfl) rfl Try.func9 (by rfl) (by rfl) (rput_any M hns hL60 c2.out ⟨dr, dc, rfl, hrowD, hcapD.out⟩ i) (by (try walk_nrm) <;> rfl) ?_
          rintro v t7 ⟨v', rfl, ⟨dr', dc', rfl, hrow7, hcap7⟩, k7⟩
          generalize hpl : putL n L cl (i : Int) = L' at *
          generalize hpv : putV n L cl = pv at *
          replace hcap7 := Hid.mk hcap7
          try walk_nrm
          (refine opsS_look M rfl (by rfl) (fun w => by first | (simp [go_sem]; done) | fail) (fun w hs K hK => ?_); go_simp; refine hK _ ?_; clear hK K hs w; (try walk_nrm))
          (refine opsS_look M rfl (by rfl) (fun w => by first | (simp [go_sem]; done) | fail) (fun w hs K hK => ?_); go_simp; refine hK _ ?_; clear hK K hs w; (try walk_nrm))
          (refine opsS_look M rfl (by rfl) (fun w => by first | (simp [go_sem]; done) | fail) (fun w hs K hK => ?_); go_simp; refine hK _ ?_; clear hK K hs w; (try walk_nrm))
          refine opsS_facts M fun w0 hs0 => ?_
          have hap7 := PI.apart hs0 (hPI5.Q.keep fun ch h _ _ => k7.all h) (k7.all hD)
          clear hs0 w0
          refine opsS_st3 M (k7.all hD) rfl (by rfl) (fun h => h) rfl rfl rfl fun t8 k8 hD8 => ?_
          try walk_nrm
          (refine opsS_look M rfl (by rfl) (fun w => by first | (simp [go_sem]; done) | fail) (fun w hs K hK => ?_); go_simp; refine hK _ ?_; clear hK K hs w; (try walk_nrm))
          refine opsS_nil M ?_
          try simp only [thenS, inBlockS]
          have hQ8 : QC t8.sg q c n L cl := hPI5.Q.keep fun ch hc _ hb => k8.sg _ (k7.all hc) (neD ch hb)
          refine wpS_seq M ?_
          refine wpS_region M ?_
          simp only [List.size_toArray, List.length_cons, List.length_nil, Nat.reduceAdd, Nat.zero_add, List.range, List.range.loop]
          (refine opsS_look M rfl (by rfl) (fun w => by first | (simp [go_sem]; done) | fail) (fun w hs K hK => ?_); go_simp; refine hK _ ?_; clear hK K hs w; (try walk_nrm))
          (refine opsS_look M rfl (by rfl) (fun w => by first | (simp [go_sem]; done) | fail) (fun w hs K hK => ?_); go_simp; refine hK _ ?_; clear hK K hs w; (try walk_nrm))
          refine opsS_callv M rfl (by rfl) rfl Try.func10 (by rfl) (by rfl) (put_any M (fun h => h) hQ8 i) (by (try walk_nrm) <;> rfl) ?_
          rintro v t9 ⟨rfl, hQ9, k9⟩
          rw [hpv]
          rw [hpl] at hQ9
          try walk_nrm
          (refine opsS_look M rfl (by rfl) (fun w => by first | (simp [go_sem]; done) | fail) (fun w hs K hK => ?_); go_simp; refine hK _ ?_; clear hK K hs w; (try walk_nrm))
          (refine opsS_look M rfl (by rfl) (fun w => by first | (simp [go_sem]; done) | fail) (fun w hs K hK => ?_); go_simp; refine hK _ ?_; clear hK K hs w; (try walk_nrm))
          refine opsS_nil M ?_
          try simp only [thenS, inBlockS]
          refine wpS_cond M (v := false) (by rfl) ?_
          simp only [if_true, if_false, Bool.false_eq_true]
          refine wpS_skip M ?_
          try simp only [thenS, inBlockS]
          have hrow9 : Row3 t9.sg (.slice dr' L'.length dc') (L'.map iv) := hrow7.keep fun ch hc h3 => k9.sg _ (k8.sg _ hc (by simp [(hap7 ch hc h3).1])) (by simp [(hap7 ch hc h3).2.1, (hap7 ch hc h3).2.2])
          exact ⟨by trivial, mkF (by kernel_rfl), by rw [k9.x, k8.x, k7.x, hx5], by rw [k9.d, k8.d, k7.d, hd5], L', cl, ⟨hQ9, dr', dc', k9.sg _ hD8 Dne, hrow9, hcap7.out⟩, by have := putL_len n L cl i; rw [hpl] at this; have := hLi.out; omega⟩
        · have ed : decide (m < 4) = false := by simp [hm4]
          rw [ed]
          clear ed
          refine wpS_cond M (v := false) (by rfl) ?_
          simp only [if_true, if_false, Bool.false_eq_true]
          by_cases hm7 : m = 7
          · subst hm7
            clear hm4
            refine wpS_seq M ?_
            refine wpS_region M ?_
            simp only [List.size_toArray, List.length_cons, List.length_nil, Nat.reduceAdd, Nat.zero_add, List.range, List.range.loop]
            (refine opsS_look M rfl (by rfl) (fun w => by first | (simp [go_sem]; done) | fail) (fun w hs K hK => ?_); go_simp; refine hK _ ?_; clear hK K hs w; (try walk_nrm))
            (refine opsS_look M rfl (by rfl) (fun w => by first | (simp [go_sem]; done) | fail) (fun w hs K hK => ?_); go_simp; refine hK _ ?_; clear hK K hs w; (try walk_nrm))
            refine opsS_nil M ?_
            try simp only [thenS, inBlockS]
            refine wpS_cond M (v := true) (by rfl) ?_
            simp only [if_true, if_false, Bool.false_eq_true]
            refine wpS_seq M ?_
            refine wpS_region M ?_
            simp only [List.size_toArray, List.length_cons, List.length_nil, Nat.reduceAdd, Nat.zero_add, List.range, List.range.loop]
            by_cases hx2 : (200 : Int) ≤ x
            · (refine opsS_look M rfl (by rfl) (fun w => by first | (simp [go_sem]; done) | fail) (fun w hs K hK => ?_); go_simp; refine hK _ ?_; clear hK K hs w; (try walk_nrm))
              (refine opsS_look M rfl (by rfl) (fun w => by first | (simp [go_sem]; done) | fail) (fun w hs K hK => ?_); go_simp; refine hK _ ?_; clear hK K hs w; (try walk_nrm))
              refine opsS_nil M ?_
              try simp only [thenS, inBlockS]
              refine wpS_cond M (v := true) (by rfl) ?_
              simp only [if_true, if_false, Bool.false_eq_true]
              refine wpS_seq M ?_
              refine wpS_region M ?_
              simp only [List.size_toArray, List.length_cons, List.length_nil, Nat.reduceAdd, Nat.zero_add, List.range, List.range.loop]
              (refine opsS_look M rfl (by rfl) (fun w => by first | (simp [go_sem]; done) | fail) (fun w hs K hK => ?_); go_simp; refine hK _ ?_; clear hK K hs w; (try walk_nrm))
              refine opsS_callv M rfl (by rfl) rfl Try.func11 (by rfl) (by rfl) (close_any M (fun h => h) hPI5.Q) (by (try walk_nrm) <;> rfl) ?_
              rintro v t7 ⟨hQ7, k7⟩
              try walk_nrm
              refine opsS_nil M ?_
              try simp only [thenS, inBlockS]
              have hD7 := k7.sg _ hD Dne
              refine wpS_region M ?_
              simp only [List.size_toArray, List.length_cons, List.length_nil, Nat.reduceAdd, Nat.zero_add, List.range, List.range.loop]
              (refine opsS_look M rfl (by rfl) (fun w => by first | (simp [go_sem]; done) | fail) (fun w hs K hK => ?_); go_simp; refine hK _ ?_; clear hK K hs w; (try walk_nrm))
              refine opsS_st M (j := 2) (.bool true) hD7 rfl rfl (by rfl) (fun h => h) (fun w hcell hfr e he => by simp [go_sem, hcell, hfr, ev_bool, storedEv] at he; exact ⟨_, _, _, he⟩) (fun w hcell hfr K hK => ?_)
              go_simp
              refine hK _ fun t8 k8 hD8 => ?_
              clear hK K hcell hfr w
              simp only [List.setIfInBounds_toArray, List.set_cons_succ, List.set_cons_zero] at hD8
              try walk_nrm
              refine opsS_nil M ?_
              try simp only [thenS, inBlockS]
              have hQ8 : QC t8.sg q c n L true := hQ7.keep fun ch hc _ hb => k8.sg _ hc (neD ch hb)
              have hrow8 : Row3 t8.sg (.slice dr L.length dc) (L.map iv) := hrowD.keep fun ch hc h3 => k8.sg _ (k7.sg _ hc (by simp [(hap5 ch hc h3).2.1, (hap5 ch hc h3).2.2])) (by simp [(hap5 ch hc h3).1])
              exact ⟨by trivial, mkF (by kernel_rfl), by rw [k8.x, k7.x, hx5], by rw [k8.d, k7.d, hd5], L, true, ⟨hQ8, dr, dc, hD8, hrow8, hcapD.out⟩, by have := hLi.out; omega⟩
            · (refine opsS_look M rfl (by rfl) (fun w => by first | (simp [go_sem]; done) | fail) (fun w hs K hK => ?_); go_simp; refine hK _ ?_; clear hK K hs w; (try walk_nrm))
              (refine opsS_look M rfl (by rfl) (fun w => by first | (simp [go_sem]; done) | fail) (fun w hs K hK => ?_); go_simp; refine hK _ ?_; clear hK K hs w; (try walk_nrm))
              refine opsS_nil M ?_
              try simp only [thenS, inBlockS]
              refine wpS_cond M (v := false) (by rfl) ?_
              simp only [if_true, if_false, Bool.false_eq_true]
              refine wpS_skip M ?_
              try simp only [thenS, inBlockS]
              exact ⟨by trivial, mkF (by kernel_rfl), hx5, hd5, L, cl, hPI5, by have := hLi.out; omega⟩
          · have e7 : (m == 7) = false := by simp [hm7]
            clear hm4 hm7
            refine wpS_seq M ?_
            refine wpS_region M ?_
            simp only [List.size_toArray, List.length_cons, List.length_nil, Nat.reduceAdd, Nat.zero_add, List.range, List.range.loop]
            (refine opsS_look M rfl (by rfl) (fun w => by first | (simp [go_sem]; done) | fail) (fun w hs K hK => ?_); go_simp; refine hK _ ?_; clear hK K hs w; (try walk_nrm))
            (refine opsS_look M rfl (by rfl) (fun w => by first | (simp [go_sem]; done) | fail) (fun w hs K hK => ?_); go_simp; refine hK _ ?_; clear hK K hs w; (try walk_nrm))
            refine opsS_nil M ?_
            try simp only [thenS, inBlockS]
            refine wpS_cond M (v := false) (by rfl) ?_
            simp only [if_true, if_false, Bool.false_eq_true]
            clear e7
            refine wpS_seq M ?_
            refine wpS_region M ?_
            simp only [List.size_toArray, List.length_cons, List.length_nil, Nat.reduceAdd, Nat.zero_add, List.range, List.range.loop]
            refine opsS_ldS M hD rfl (by rfl) hns (fun w hob hcl e he => by have c0 := hcl 0 _ rfl; have c1 := hcl 1 _ rfl; have c2 := hcl 2 _ rfl; simp [go_sem, c0, c1, c2] at he; rcases he with rfl | rfl | rfl <;> exact ⟨_, rfl⟩) (fun w hob hcl K hK => ?_)
            have c0 := hcl 0 _ rfl
            have c1 := hcl 1 _ rfl
            have c2 := hcl 2 _ rfl
            go_simp
            refine hK _ ?_
            clear c0 c1 c2 hK K hcl hob w
            try walk_nrm
            refine opsS_callv M rfl (by rfl) rfl Try.func12 (by rfl) (by rfl) (rtake_any M hns hL60 ⟨dr, dc, rfl, hrowD, hcapD.out⟩) (by (try walk_nrm) <;> rfl) ?_
            rintro v t7 ⟨v', x', c', rfl, htk, ⟨dr', dc', rfl, hrow7, hcap7⟩, k7⟩
            generalize hpl : L.tail = L' at *
            replace hcap7 := Hid.mk hcap7
            try walk_nrm
            (refine opsS_look M rfl (by rfl) (fun w => by first | (simp [go_sem]; done) | fail) (fun w hs K hK => ?_); go_simp; refine hK _ ?_; clear hK K hs w; (try walk_nrm))
            (refine opsS_look M rfl (by rfl) (fun w => by first | (simp [go_sem]; done) | fail) (fun w hs K hK => ?_); go_simp; refine hK _ ?_; clear hK K hs w; (try walk_nrm))
            (refine opsS_look M rfl (by rfl) (fun w => by first | (simp [go_sem]; done) | fail) (fun w hs K hK => ?_); go_simp; refine hK _ ?_; clear hK K hs w; (try walk_nrm))
            (refine opsS_look M rfl (by rfl) (fun w => by first | (simp [go_sem]; done) | fail) (fun w hs K hK => ?_); go_simp; refine hK _ ?_; clear hK K hs w; (try walk_nrm))
            refine opsS_facts M fun w0 hs0 => ?_
            have hap7 := PI.apart hs0 (hPI5.Q.keep fun ch h _ _ => k7.all h) (k7.all hD)
            clear hs0 w0
            refine opsS_st3 M (k7.all hD) rfl (by rfl) (fun h => h) rfl rfl rfl fun t8 k8 hD8 => ?_
            try walk_nrm
            (refine opsS_look M rfl (by rfl) (fun w => by first | (simp [go_sem]; done) | fail) (fun w hs K hK => ?_); go_simp; refine hK _ ?_; clear hK K hs w; (try walk_nrm))
            (refine opsS_look M rfl (by rfl) (fun w => by first | (simp [go_sem]; done) | fail) (fun w hs K hK => ?_); go_simp; refine hK _ ?_; clear hK K hs w; (try walk_nrm))
            refine opsS_nil M ?_
            try simp only [thenS, inBlockS]
            have hQ8 : QC t8.sg q c n L cl := hPI5.Q.keep fun ch hc _ hb => k8.sg _ (k7.all hc) (neD ch hb)
            refine wpS_seq M ?_
            refine wpS_region M ?_
            simp only [List.size_toArray, List.length_cons, List.length_nil, Nat.reduceAdd, Nat.zero_add, List.range, List.range.loop]
            (refine opsS_look M rfl (by rfl) (fun w => by first | (simp [go_sem]; done) | fail) (fun w hs K hK => ?_); go_simp; refine hK _ ?_; clear hK K hs w; (try walk_nrm))
            refine opsS_callv M rfl (by rfl) rfl Try.func13 (by rfl) (by rfl) (take_any M (fun h => h) hQ8) (by (try walk_nrm) <;> rfl) ?_
            rintro v t9 ⟨rfl, hQ9, k9⟩
            rw [htk]
            rw [hpl] at hQ9
            clear htk
            try walk_nrm
            (refine opsS_look M rfl (by rfl) (fun w => by first | (simp [go_sem]; done) | fail) (fun w hs K hK => ?_); go_simp; refine hK _ ?_; clear hK K hs w; (try walk_nrm))
            (refine opsS_look M rfl (by rfl) (fun w => by first | (simp [go_sem]; done) | fail) (fun w hs K hK => ?_); go_simp; refine hK _ ?_; clear hK K hs w; (try walk_nrm))
            (refine opsS_look M rfl (by rfl) (fun w => by first | (simp [go_sem]; done) | fail) (fun w hs K hK => ?_); go_simp; refine hK _ ?_; clear hK K hs w; (try walk_nrm))
            (refine opsS_look M rfl (by rfl) (fun w => by first | (simp [go_sem]; done) | fail) (fun w hs K hK => ?_); go_simp; refine hK _ ?_; clear hK K hs w; (try walk_nrm))
            (refine opsS_look M rfl (by rfl) (fun w => by first | (simp [go_sem]; done) | fail) (fun w hs K hK => ?_); go_simp; refine hK _ ?_; clear hK K hs w; (try walk_nrm))
            refine opsS_nil M ?_
            try simp only [thenS, inBlockS]
            refine wpS_seq M ?_
            refine wpS_region M ?_
            simp only [List.size_toArray, List.length_cons, List.length_nil, Nat.reduceAdd, Nat.zero_add, List.range, List.range.loop]
            repeat (first | (refine opsS_look M rfl (by rfl) (fun w => by first | (simp [go_sem]; done) | fail) (fun w hs K hK => ?_); go_simp; refine hK _ ?_; clear hK K hs w; (try walk_nrm)) | (refine opsS_unwanted M rfl (by rfl) ?_; (try walk_nrm)))
            refine opsS_nil M ?_
            try simp only [thenS, inBlockS]
            refine wpS_cond M (v := false) (by rfl) ?_
            simp only [if_true, if_false, Bool.false_eq_true]
            refine wpS_skip M ?_
            try simp only [thenS, inBlockS]
            have hrow9 : Row3 t9.sg (.slice dr' L'.length dc') (L'.map iv) := hrow7.keep fun ch hc h3 => k9.sg _ (k8.sg _ hc (by simp [(hap7 ch hc h3).1])) (by simp [(hap7 ch hc h3).2.1, (hap7 ch hc h3).2.2])
            exact ⟨by trivial, mkF (by kernel_rfl), by rw [k9.x, k8.x, k7.x, hx5], by rw [k9.d, k8.d, k7.d, hd5], L', cl, ⟨hQ9, dr', dc', k9.sg _ hD8 Dne, hrow9, hcap7.out⟩, by have := hLi.out; rw [← hpl, List.length_tail]; omega⟩
      · rintro e a t6 ⟨rfl, ⟨u, rfl⟩, hx6, hd6, L', cl', hPI6, hL6⟩
        clear hrd hx0 hPI5 hLi hx5 hd5
        replace hL6 := Hid.mk hL6
        have hns : ¬ cstrict t6.x := fun h => h
        simp only [thenS]
        refine wpS_seq M ?_
        refine wpS_mono (Q := fun e a t' => e = .normal ∧ (∃ u : Nat → Value, a = ⟨#[u 0, u 1, u 2, u 3, u 4, .pointer (some ⟨q, 0, none⟩), u 6, .pointer (some ⟨D, 0, none⟩), u 8, u 9, u 10, u 11, u 12, u 13, u 14, u 15, u 16, u 17, u 18, u 19, u 20, u 21, u 22, u 23, u 24, u 25, u 26, u 27, u 28, u 29, u 30, u 31, u 32, u 33, u 34, u 35, u 36, u 37, u 38, u 39, u 40, u 41, u 42, u 43, u 44, u 45, u 46, .slice (some ⟨b', o', none⟩) l.length rc, .int .i64 l.length, .int .i64 i, u 50, u 51, u 52, u 53, u 54, u 55, u 56, u 57, u 58, u 59, u 60, u 61, u 62, u 63, u 64, u 65, u 66, u 67, u 68, u 69, u 70, u 71, u 72, u 73, u 74, u 75, u 76, u 77, u 78, u 79, u 80, u 81, u 82, u 83, u 84, u 85, u 86, u 87, u 88, u 89, u 90, u 91, u 92, u 93, u 94, u 95, u 96, u 97, u 98, u 99, u 100, u 101, u 102, .bool false, u 104], []⟩) ∧ t' = t6) ?_ ?_
        · obtain ⟨dr, dc, hD6, hrow6, hcap6⟩ := hPI6.D
          clear hrow6 hcap6
          refine wpS_region_all M [[0, 1, 2, 3, 4, 5], [0, 2, 1, 3, 4, 5], [0, 2, 3, 1, 4, 5], [0, 2, 3, 4, 1, 5], [2, 0, 1, 3, 4, 5], [2, 0, 3, 1, 4, 5], [2, 0, 3, 4, 1, 5], [2, 3, 0, 1, 4, 5], [2, 3, 0, 4, 1, 5], [2, 3, 4, 0, 1, 5]] (by kernel_rfl) (by kernel_rfl) ?_
          simp only [List.forall_mem_cons, List.not_mem_nil, false_implies, implies_true, and_true]
          refine ⟨?_, ?_, ?_, ?_, ?_, ?_, ?_, ?_, ?_, ?_⟩
          · (refine opsS_look M rfl (by rfl) (fun w => by first | (simp [go_sem]; done) | fail) (fun w hs K hK => ?_); go_simp; refine hK _ ?_; clear hK K hs w; (try walk_nrm))
            refine opsS_callv M rfl (by rfl) rfl Try.func14 (by rfl) (by rfl) (len_any M hns hPI6.Q) (by (try walk_nrm) <;> rfl) ?_
            rintro v tt ⟨rfl, rfl⟩
            try walk_nrm
            (refine opsS_look M rfl (by rfl) (fun w => by first | (simp [go_sem]; done) | fail) (fun w hs K hK => ?_); go_simp; refine hK _ ?_; clear hK K hs w; (try walk_nrm))
            refine opsS_ld M (j := 0) hD6 (by first | rfl | simp | assumption) rfl (by rfl) hns (fun w hcell e he => by simp [go_sem, hcell] at he; exact ⟨_, he⟩) (fun w hcell K hK => ?_)
            go_simp
            refine hK _ ?_
            clear hK K hcell w
            try walk_nrm
            (refine opsS_look M rfl (by rfl) (fun w => by first | (simp [go_sem]; done) | fail) (fun w hs K hK => ?_); go_simp; refine hK _ ?_; clear hK K hs w; (try walk_nrm))
            (refine opsS_look M rfl (by rfl) (fun w => by first | (simp [go_sem]; done) | fail) (fun w hs K hK => ?_); go_simp; refine hK _ ?_; clear hK K hs w; (try walk_nrm))
            exact opsS_nil M ⟨by trivial, mkF (by kernel_rfl), by trivial⟩
          · (refine opsS_look M rfl (by rfl) (fun w => by first | (simp [go_sem]; done) | fail) (fun w hs K hK => ?_); go_simp; refine hK _ ?_; clear hK K hs w; (try walk_nrm))
            (refine opsS_look M rfl (by rfl) (fun w => by first | (simp [go_sem]; done) | fail) (fun w hs K hK => ?_); go_simp; refine hK _ ?_; clear hK K hs w; (try walk_nrm))
            refine opsS_callv M rfl (by rfl) rfl Try.func14 (by rfl) (by rfl) (len_any M hns hPI6.Q) (by (try walk_nrm) <;> rfl) ?_
            rintro v tt ⟨rfl, rfl⟩
            try walk_nrm
            refine opsS_ld M (j := 0) hD6 (by first | rfl | simp | assumption) rfl (by rfl) hns (fun w hcell e he => by simp [go_sem, hcell] at he; exact ⟨_, he⟩) (fun w hcell K hK => ?_)
            go_simp
            refine hK _ ?_
            clear hK K hcell w
            try walk_nrm
            (refine opsS_look M rfl (by rfl) (fun w => by first | (simp [go_sem]; done) | fail) (fun w hs K hK => ?_); go_simp; refine hK _ ?_; clear hK K hs w; (try walk_nrm))
            (refine opsS_look M rfl (by rfl) (fun w => by first | (simp [go_sem]; done) | fail) (fun w hs K hK => ?_); go_simp; refine hK _ ?_; clear hK K hs w; (try walk_nrm))
            exact opsS_nil M ⟨by trivial, mkF (by kernel_rfl), by trivial⟩
          · (refine opsS_look M rfl (by rfl) (fun w => by first | (simp [go_sem]; done) | fail) (fun w hs K hK => ?_); go_simp; refine hK _ ?_; clear hK K hs w; (try walk_nrm))
            (refine opsS_look M rfl (by rfl) (fun w => by first | (simp [go_sem]; done) | fail) (fun w hs K hK => ?_); go_simp; refine hK _ ?_; clear hK K hs w; (try walk_nrm))
            refine opsS_ld M (j := 0) hD6 (by first | rfl | simp | assumption) rfl (by rfl) hns (fun w hcell e he => by simp [go_sem, hcell] at he; exact ⟨_, he⟩) (fun w hcell K hK => ?_)
            go_simp
            refine hK _ ?_
            clear hK K hcell w
            try walk_nrm
            refine opsS_callv M rfl (by rfl) rfl Try.func14 (by rfl) (by rfl) (len_any M hns hPI6.Q) (by (try walk_nrm) <;> rfl) ?_
            rintro v tt ⟨rfl, rfl⟩
            try walk_nrm
            (refine opsS_look M rfl (by rfl) (fun w => by first | (simp [go_sem]; done) | fail) (fun w hs K hK => ?_); go_simp; refine hK _ ?_; clear hK K hs w; (try walk_nrm))
            (refine opsS_look M rfl (by rfl) (fun w => by first | (simp [go_sem]; done) | fail) (fun w hs K hK => ?_); go_simp; refine hK _ ?_; clear hK K hs w; (try walk_nrm))
            exact opsS_nil M ⟨by trivial, mkF (by kernel_rfl), by trivial⟩
          · (refine opsS_look M rfl (by rfl) (fun w => by first | (simp [go_sem]; done) | fail) (fun w hs K hK => ?_); go_simp; refine hK _ ?_; clear hK K hs w; (try walk_nrm))
            (refine opsS_look M rfl (by rfl) (fun w => by first | (simp [go_sem]; done) | fail) (fun w hs K hK => ?_); go_simp; refine hK _ ?_; clear hK K hs w; (try walk_nrm))
            refine opsS_ld M (j := 0) hD6 (by first | rfl | simp | assumption) rfl (by rfl) hns (fun w hcell e he => by simp [go_sem, hcell] at he; exact ⟨_, he⟩) (fun w hcell K hK => ?_)
            go_simp
            refine hK _ ?_
            clear hK K hcell w
            try walk_nrm
            (refine opsS_look M rfl (by rfl) (fun w => by first | (simp [go_sem]; done) | fail) (fun w hs K hK => ?_); go_simp; refine hK _ ?_; clear hK K hs w; (try walk_nrm))
            refine opsS_callv M rfl (by rfl) rfl Try.func14 (by rfl) (by rfl) (len_any M hns hPI6.Q) (by (try walk_nrm) <;> rfl) ?_
            rintro v tt ⟨rfl, rfl⟩
            try walk_nrm
            (refine opsS_look M rfl (by rfl) (fun w => by first | (simp [go_sem]; done) | fail) (fun w hs K hK => ?_); go_simp; refine hK _ ?_; clear hK K hs w; (try walk_nrm))
            exact opsS_nil M ⟨by trivial, mkF (by kernel_rfl), by trivial⟩
          · (refine opsS_look M rfl (by rfl) (fun w => by first | (simp [go_sem]; done) | fail) (fun w hs K hK => ?_); go_simp; refine hK _ ?_; clear hK K hs w; (try walk_nrm))
            (refine opsS_look M rfl (by rfl) (fun w => by first | (simp [go_sem]; done) | fail) (fun w hs K hK => ?_); go_simp; refine hK _ ?_; clear hK K hs w; (try walk_nrm))
            refine opsS_callv M rfl (by rfl) rfl Try.func14 (by rfl) (by rfl) (len_any M hns hPI6.Q) (by (try walk_nrm) <;> rfl) ?_
            rintro v tt ⟨rfl, rfl⟩
            try walk_nrm
            refine opsS_ld M (j := 0) hD6 (by first | rfl | simp | assumption) rfl (by rfl) hns (fun w hcell e he => by simp [go_sem, hcell] at he; exact ⟨_, he⟩) (fun w hcell K hK => ?_)
            go_simp
            refine hK _ ?_
            clear hK K hcell w
            try walk_nrm
            (refine opsS_look M rfl (by rfl) (fun w => by first | (simp [go_sem]; done) | fail) (fun w hs K hK => ?_); go_simp; refine hK _ ?_; clear hK K hs w; (try walk_nrm))
            (refine opsS_look M rfl (by rfl) (fun w => by first | (simp [go_sem]; done) | fail) (fun w hs K hK => ?_); go_simp; refine hK _ ?_; clear hK K hs w; (try walk_nrm))
            exact opsS_nil M ⟨by trivial, mkF (by kernel_rfl), by trivial⟩
          · (refine opsS_look M rfl (by rfl) (fun w => by first | (simp [go_sem]; done) | fail) (fun w hs K hK => ?_); go_simp; refine hK _ ?_; clear hK K hs w; (try walk_nrm))
            (refine opsS_look M rfl (by rfl) (fun w => by first | (simp [go_sem]; done) | fail) (fun w hs K hK => ?_); go_simp; refine hK _ ?_; clear hK K hs w; (try walk_nrm))
            refine opsS_ld M (j := 0) hD6 (by first | rfl | simp | assumption) rfl (by rfl) hns (fun w hcell e he => by simp [go_sem, hcell] at he; exact ⟨_, he⟩) (fun w hcell K hK => ?_)
            go_simp
            refine hK _ ?_
            clear hK K hcell w
            try walk_nrm
            refine opsS_callv M rfl (by rfl) rfl Try.func14 (by rfl) (by rfl) (len_any M hns hPI6.Q) (by (try walk_nrm) <;> rfl) ?_
            rintro v tt ⟨rfl, rfl⟩
            try walk_nrm
            (refine opsS_look M rfl (by rfl) (fun w => by first | (simp [go_sem]; done) | fail) (fun w hs K hK => ?_); go_simp; refine hK _ ?_; clear hK K hs w; (try walk_nrm))
            (refine opsS_look M rfl (by rfl) (fun w => by first | (simp [go_sem]; done) | fail) (fun w hs K hK => ?_); go_simp; refine hK _ ?_; clear hK K hs w; (try walk_nrm))
            exact opsS_nil M ⟨by trivial, mkF (by kernel_rfl), by trivial⟩
          · (refine opsS_look M rfl (by rfl) (fun w => by first | (simp [go_sem]; done) | fail) (fun w hs K hK => ?_); go_simp; refine hK _ ?_; clear hK K hs w; (try walk_nrm))
            (refine opsS_look M rfl (by rfl) (fun w => by first | (simp [go_sem]; done) | fail) (fun w hs K hK => ?_); go_simp; refine hK _ ?_; clear hK K hs w; (try walk_nrm))
            refine opsS_ld M (j := 0) hD6 (by first | rfl | simp | assumption) rfl (by rfl) hns (fun w hcell e he => by simp [go_sem, hcell] at he; exact ⟨_, he⟩) (fun w hcell K hK => ?_)
            go_simp
            refine hK _ ?_
            clear hK K hcell w
            try walk_nrm
            (refine opsS_look M rfl (by rfl) (fun w => by first | (simp [go_sem]; done) | fail) (fun w hs K hK => ?_); go_simp; refine hK _ ?_; clear hK K hs w; (try walk_nrm))
            refine opsS_callv M rfl (by rfl) rfl Try.func14 (by rfl) (by rfl) (len_any M hns hPI6.Q) (by (try walk_nrm) <;> rfl) ?_
            rintro v tt ⟨rfl, rfl⟩
            try walk_nrm
            (refine opsS_look M rfl (by rfl) (fun w => by first | (simp [go_sem]; done) | fail) (fun w hs K hK => ?_); go_simp; refine hK _ ?_; clear hK K hs w; (try walk_nrm))
            exact opsS_nil M ⟨by trivial, mkF (by kernel_rfl), by trivial⟩
          · (refine opsS_look M rfl (by rfl) (fun w => by first | (simp [go_sem]; done) | fail) (fun w hs K hK => ?_); go_simp; refine hK _ ?_; clear hK K hs w; (try walk_nrm))
            refine opsS_ld M (j := 0) hD6 (by first | rfl | simp | assumption) rfl (by rfl) hns (fun w hcell e he => by simp [go_sem, hcell] at he; exact ⟨_, he⟩) (fun w hcell K hK => ?_)
            go_simp
            refine hK _ ?_
            clear hK K hcell w
            try walk_nrm
            (refine opsS_look M rfl (by rfl) (fun w => by first | (simp [go_sem]; done) | fail) (fun w hs K hK => ?_); go_simp; refine hK _ ?_; clear hK K hs w; (try walk_nrm))
            refine opsS_callv M rfl (by rfl) rfl Try.func14 (by rfl) (by rfl) (len_any M hns hPI6.Q) (by (try walk_nrm) <;> rfl) ?_
            rintro v tt ⟨rfl, rfl⟩
            try walk_nrm
            (refine opsS_look M rfl (by rfl) (fun w => by first | (simp [go_sem]; done) | fail) (fun w hs K hK => ?_); go_simp; refine hK _ ?_; clear hK K hs w; (try walk_nrm))
            (refine opsS_look M rfl (by rfl) (fun w => by first | (simp [go_sem]; done) | fail) (fun w hs K hK => ?_); go_simp; refine hK _ ?_; clear hK K hs w; (try walk_nrm))
            exact opsS_nil M ⟨by trivial, mkF (by kernel_rfl), by trivial⟩
          · (refine opsS_look M rfl (by rfl) (fun w => by first | (simp [go_sem]; done) | fail) (fun w hs K hK => ?_); go_simp; refine hK _ ?_; clear hK K hs w; (try walk_nrm))
            refine opsS_ld M (j := 0) hD6 (by first | rfl | simp | assumption) rfl (by rfl) hns (fun w hcell e he => by simp [go_sem, hcell] at he; exact ⟨_, he⟩) (fun w hcell K hK => ?_)
            go_simp
            refine hK _ ?_
            clear hK K hcell w
            try walk_nrm
            (refine opsS_look M rfl (by rfl) (fun w => by first | (simp [go_sem]; done) | fail) (fun w hs K hK => ?_); go_simp; refine hK _ ?_; clear hK K hs w; (try walk_nrm))
            (refine opsS_look M rfl (by rfl) (fun w => by first | (simp [go_sem]; done) | fail) (fun w hs K hK => ?_); go_simp; refine hK _ ?_; clear hK K hs w; (try walk_nrm))
            refine opsS_callv M rfl (by rfl) rfl Try.func14 (by rfl) (by rfl) (len_any M hns hPI6.Q) (by (try walk_nrm) <;> rfl) ?_
            rintro v tt ⟨rfl, rfl⟩
            try walk_nrm
            (refine opsS_look M rfl (by rfl) (fun w => by first | (simp [go_sem]; done) | fail) (fun w hs K hK => ?_); go_simp; refine hK _ ?_; clear hK K hs w; (try walk_nrm))
            exact opsS_nil M ⟨by trivial, mkF (by kernel_rfl), by trivial⟩
          · (refine opsS_look M rfl (by rfl) (fun w => by first | (simp [go_sem]; done) | fail) (fun w hs K hK => ?_); go_simp; refine hK _ ?_; clear hK K hs w; (try walk_nrm))
            refine opsS_ld M (j := 0) hD6 (by first | rfl | simp | assumption) rfl (by rfl) hns (fun w hcell e he => by simp [go_sem, hcell] at he; exact ⟨_, he⟩) (fun w hcell K hK => ?_)
            go_simp
            refine hK _ ?_
            clear hK K hcell w
            try walk_nrm
            (refine opsS_look M rfl (by rfl) (fun w => by first | (simp [go_sem]; done) | fail) (fun w hs K hK => ?_); go_simp; refine hK _ ?_; clear hK K hs w; (try walk_nrm))
            (refine opsS_look M rfl (by rfl) (fun w => by first | (simp [go_sem]; done) | fail) (fun w hs K hK => ?_); go_simp; refine hK _ ?_; clear hK K hs w; (try walk_nrm))
            refine opsS_callv M rfl (by rfl) rfl Try.func14 (by rfl) (by rfl) (len_any M hns hPI6.Q) (by (try walk_nrm) <;> rfl) ?_
            rintro v tt ⟨rfl, rfl⟩
            try walk_nrm
            (refine opsS_look M rfl (by rfl) (fun w => by first | (simp [go_sem]; done) | fail) (fun w hs K hK => ?_); go_simp; refine hK _ ?_; clear hK K hs w; (try walk_nrm))
            exact opsS_nil M ⟨by trivial, mkF (by kernel_rfl), by trivial⟩
        · rintro e a t7 ⟨rfl, ⟨u, rfl⟩, rfl⟩
          simp only [thenS]
          refine wpS_cond M (v := false) (by rfl) ?_
          simp only [if_true, if_false, Bool.false_eq_true]
          refine wpS_skip M ?_
          try simp only [thenS, inBlockS]
          have hw1 := w1 i (by omega)
          refine wpS_region M ?_
          simp only [List.size_toArray, List.length_cons, List.length_nil, Nat.reduceAdd, Nat.zero_add, List.range, List.range.loop]
          (refine opsS_look M rfl (by rfl) (fun w => by first | (simp [go_sem]; done) | fail) (fun w hs K hK => ?_); go_simp; refine hK _ ?_; clear hK K hs w; (try walk_nrm))
          (refine opsS_look M rfl (by rfl) (fun w => by first | (simp [go_sem]; done) | fail) (fun w hs K hK => ?_); go_simp; refine hK _ ?_; clear hK K hs w; (try walk_nrm))
          refine opsS_nil M ?_
          try simp only [thenS, inBlockS]
          exact ⟨N, by omega, i + 1, L', cl', by have := hi.out; omega, by simp only [Int.natCast_add, Int.natCast_one, Int.cast_ofNat_Int]; exact mkF (by kernel_rfl), hx6, hd6, hPI6, hL6.out⟩

end Go.Proofs.Ytdmhgajamepgoaa.Q
