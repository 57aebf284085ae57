/-
  OWN TEXT. PIPE: the law PipePumps: Pump called, and what is behind it up to its tail.
-/
import Derived.Test.YtdmhgajamepgoaaSc
set_option linter.unusedVariables false
set_option linter.unusedSimpArgs false
set_option linter.unusedSectionVars false
namespace Go.Proofs.Ytdmhgajamepgoaa.Q
open Go Go.Conc

theorem OwnRow.cap {s : List Chunk} {ga : Option Addr} {n gc : Nat} {L : List Int} (h : OwnRow s (.slice ga n gc) L) : n ≤ gc := by
  rcases h with ⟨e, _⟩ | ⟨g, C, e, _, h1, _⟩
  · injection e with _ e1 e2; omega
  · injection e with _ e1 e2; omega

theorem wpS_fr {X : Type} {Mv : MvT X} {fn : FuncId} {c : Code} {Q : Exit → Act → Tau X → Prop} {t : Tau X} (C : (Nat → Value) → Array Value) {tm : Array Value} {ds : List Deferred} (h : tm = C (fun i => tm.getD i undef)) (hk : ∀ f, wpS Mv fn c Q ⟨C f, ds⟩ t) : wpS Mv fn c Q ⟨tm, ds⟩ t := by
  have := hk fun i => tm.getD i undef
  rw [← h] at this
  exact this

set_option maxRecDepth 100000 in
set_option maxHeartbeats 4000000 in
theorem mid_walk {W : World} {Post : Value → World → Prop} {QQ : Exit → Act → Tau CX → Prop} {t : Tau CX} {lk d3 bx : Nat} {ra ga : Option Addr} {rc gc gn m mo : Nat} {vs : List Value} {LL : List (List Int)}
    (hx : t.x = .alone) (hd : t.d = 0) (hWB : WB t.sg lk bx d3 (.slice ra LL.length rc) (nums m)) (hgot : OwnRow t.sg (.slice ga gn gc) (LL.flatten.take mo))
    (hrow : RowS W [] (.slice ra LL.length rc) vs) (h2 : Rows0 W vs LL) (hlen : LL.length ≤ 40) (hl : ∀ l ∈ LL, l.length ≤ 40) (hm : m ≤ LL.length) (hmo : mo ≤ 32767)
    (hfin : ∀ i, i < LL.length → ((LL.take i).flatten).length < mo → i < m) (u : Nat → Value)
    (hq : ∀ a t, t.x = .alone → t.d = 0 → a.defers = [dcall 20 #[.pointer (some ⟨lk, 0, none⟩)]] → (⟨lk, .cells #[.int .i32 1, .int .u32 0] 53, true⟩ : Chunk) ∈ t.sg → a.tmps.getD 6 undef = .bool true → QQ .ret a t) :
    wpS (CMv Try.prog W Post) 5 (seqR (seqR (seqR (seqR (seqR (seqR (seqR (seqR code5)))))))) QQ ⟨#[u 0, u 1, .int .i16 mo, .pointer (some ⟨d3, 0, none⟩), u 4, u 5, u 6, u 7, u 8, .pointer (some ⟨lk, 0, none⟩), .pointer (some ⟨bx, 0, none⟩), u 11, u 12, .slice ga gn gc, .int .i64 0, u 15, u 16, u 17, u 18, u 19, u 20, u 21, u 22, u 23, u 24, u 25, u 26, u 27, u 28, u 29, u 30, u 31, u 32, u 33, u 34, u 35, u 36, u 37, u 38, u 39, u 40, u 41, u 42, u 43, u 44, u 45, u 46, u 47, u 48, u 49, u 50, u 51, u 52, u 53, u 54, u 55, u 56, u 57, u 58, u 59, u 60, u 61, u 62, u 63, u 64, u 65, u 66, u 67, u 68, u 69, u 70, u 71, u 72, u 73, u 74, u 75, u 76, u 77, u 78, u 79, u 80, u 81, u 82, u 83, u 84, u 85, u 86, u 87, u 88, u 89, u 90, u 91, u 92, u 93, u 94, u 95, u 96, u 97, u 98, u 99, u 100, u 101, u 102, u 103, u 104, u 105, u 106, u 107, u 108, u 109, u 110, u 111, u 112, u 113, u 114, u 115, u 116, u 117, u 118, u 119, u 120, u 121, u 122, u 123, u 124, u 125, u 126], []⟩ t := by
  have M := cmoves Try.prog W Post
  have hns : ¬ cstrict t.x := fun h => h
  obtain ⟨hlk, ⟨bv, hbx, hwk⟩, hd3⟩ := hWB
  refine wpS_facts M fun w0 hs0 => ?_
  have nb : bx ≠ lk := fun e => by have := hs0.uniq hbx hlk e; injection this with _ h _; injection h with _ h; cases h
  have nd : d3 ≠ lk := fun e => by have := hs0.uniq hd3 hlk e; injection this with _ h _; injection h with _ h; cases h
  have nrow : ∀ g, bv.ownBlock = some g → g ≠ lk := fun g hg e => by
    obtain ⟨C, hC⟩ := hwk.mine hg
    have := hs0.uniq hC hlk e; injection this with _ h _; injection h with _ h; cases h
  clear hs0 w0
  obtain ⟨wa, wc, rfl⟩ := hwk.slice
  rw [nums_len] at hwk hbx nrow
  have hmo0 : ¬ ((mo : Int) < 0) := by omega
  have hwm : IntKind.i64.wrap (mo : Int) = (mo : Int) := by rw [IntKind.wrap_i64]; omega
  show wpS _ 5 (Code.seq _ _) _ _ _
  refine wpS_seq M ?_
  refine wpS_seq M ?_
  refine wpS_region M ?_
  simp only [List.size_toArray, List.length_cons, List.length_nil, Nat.reduceAdd, Nat.zero_add, List.range, List.range.loop]
  (refine opsS_look M rfl (by rfl) (fun w => by first | (simp [go_sem]; done) | fail) (fun w hs K hK => ?_); go_simp; refine hK _ ?_; clear hK K hs w; (try walk_nrm))
  (refine opsS_look M rfl (by rfl) (fun w => by first | (simp [go_sem]; done) | fail) (fun w hs K hK => ?_); go_simp; refine hK _ ?_; clear hK K hs w; (try walk_nrm))
  clear hmo0
  refine opsS_nil M ?_
  try simp only [thenS, inBlockS]
  refine wpS_cond M (v := false) (by rfl) ?_
  simp only [if_true, if_false, Bool.false_eq_true]
  refine wpS_skip M ?_
  try simp only [thenS, inBlockS]
  refine wpS_seq M ?_
  refine wpS_region M ?_
  simp only [List.size_toArray, List.length_cons, List.length_nil, Nat.reduceAdd, Nat.zero_add, List.range, List.range.loop]
  refine opsS_ld M (j := 0) hd3 (by first | rfl | simp | assumption) rfl (by rfl) hns (fun w hcell e he => by simp [go_sem, hcell] at he; exact ⟨_, he⟩) (fun w hcell K hK => ?_)
  go_simp
  refine hK _ ?_
  clear hK K hcell w
  try walk_nrm
  refine opsS_callv M rfl (by rfl) rfl Try.func21 (by rfl) (by rfl) (joined_any M hns (hrow.row.mono (by simp)) ⟨?_, fun i l h => ?_⟩ hlen hl) (by (try walk_nrm) <;> rfl) ?_
  · obtain ⟨_, _, e, _⟩ := hrow
    injection e with _ e _
    exact e.symm
  · obtain ⟨v, hv, hr⟩ := h2 i l h
    exact ⟨v, hv, hr.row.mono (by simp)⟩
  rintro v t1 ⟨hall, k1, hfr⟩
  replace hns : ¬ cstrict t1.x := fun h => h
  have hAl := flat_take_le LL.length hl hlen
  rw [List.take_length] at hAl
  obtain ⟨ea, ec, rfl⟩ := hall.slice
  generalize hA : LL.flatten = A at *
  replace hA := Hid.mk hA
  have hcap := hall.cap
  have hallR : RowAt W t1.sg (.slice ea A.length ec) (A.map iv) := hall.row
  obtain ⟨n0, hn0⟩ : ∃ n0, n0 = A.length := ⟨_, rfl⟩
  obtain ⟨k, hk⟩ : ∃ k, k = (A.take mo).length := ⟨_, rfl⟩
  have hkm : k = min mo n0 := by rw [hk, hn0, List.length_take]
  have hwant := RowAt.take hallR mo hk
  rw [← hn0] at hcap hAl ⊢
  have hgotR : RowAt W t1.sg (.slice ga gn gc) ((A.take mo).map iv) := (hgot.row (B := W)).mono fun c hc => k1.all hc
  have hkr : k ≤ ec := by omega
  clear hall hallR hfr
  replace hn0 := Hid.mk hn0
  replace hk := Hid.mk hk
  try walk_nrm
  (refine opsS_look M rfl (by rfl) (fun w => by first | (simp [go_sem]; done) | fail) (fun w hs K hK => ?_); go_simp; refine hK _ ?_; clear hK K hs w; (try walk_nrm))
  refine opsS_nil M ?_
  try simp only [thenS, inBlockS]
  refine wpS_seq M ?_
  refine wpS_seq M ?_
  refine wpS_region M ?_
  simp only [List.size_toArray, List.length_cons, List.length_nil, Nat.reduceAdd, Nat.zero_add, List.range, List.range.loop]
  (refine opsS_look M rfl (by rfl) (fun w => by first | (simp [go_sem]; done) | fail) (fun w hs K hK => ?_); go_simp; refine hK _ ?_; clear hK K hs w; (try walk_nrm))
  (refine opsS_look M rfl (by rfl) (fun w => by first | (simp [go_sem]; done) | fail) (fun w hs K hK => ?_); go_simp; refine hK _ ?_; clear hK K hs w; (try walk_nrm))
  (refine opsS_look M rfl (by rfl) (fun w => by first | (simp [go_sem]; done) | fail) (fun w hs K hK => ?_); go_simp; refine hK _ ?_; clear hK K hs w; (try walk_nrm))
  (refine opsS_look M rfl (by rfl) (fun w => by first | (simp [go_sem]; done) | fail) (fun w hs K hK => ?_); go_simp; refine hK _ ?_; clear hK K hs w; (try walk_nrm))
  (refine opsS_look M rfl (by rfl) (fun w => by first | (simp [go_sem]; done) | fail) (fun w hs K hK => ?_); go_simp; refine hK _ ?_; clear hK K hs w; (try walk_nrm))
  (refine opsS_look M rfl (by rfl) (fun w => by first | (simp [go_sem]; done) | fail) (fun w hs K hK => ?_); go_simp; refine hK _ ?_; clear hK K hs w; (try walk_nrm))
  (refine opsS_look M rfl (by rfl) (fun w => by first | (simp [go_sem]; done) | fail) (fun w hs K hK => ?_); go_simp; refine hK _ ?_; clear hK K hs w; (try walk_nrm))
  (refine opsS_look M rfl (by rfl) (fun w => by first | (simp [go_sem]; done) | fail) (fun w hs K hK => ?_); go_simp; refine hK _ ?_; clear hK K hs w; (try walk_nrm))
  (refine opsS_look M rfl (by rfl) (fun w => by first | (simp [go_sem]; done) | fail) (fun w hs K hK => ?_); go_simp; refine hK _ ?_; clear hK K hs w; (try walk_nrm))
  refine opsS_pure M (v := .int .i64 k) rfl (by rfl) (fun w => run_eq_of (fun K hK => ?_)) (fun w => by simp [go_sem, ev_min]) ?_
  · by_cases hlt : (mo : Int) < (n0 : Int)
    · have e : (k : Int) = (mo : Int) := by omega
      rw [e] at hK
      clear e hkm hkr
      go_simp
      exact hK
    · have e : (k : Int) = (n0 : Int) := by omega
      rw [e] at hK
      clear e hkm hkr
      go_simp
      exact hK
  try walk_nrm
  refine opsS_pure M (v := .slice ea k ec) rfl (by rfl) (fun w => by have := (run_hi ea n0 ec k hkr w).1; unfold execOp; simp [Act.eval, this]) (fun w => by have := (run_hi ea n0 ec k hkr w).2; unfold execOp; simp [Act.eval, this]) ?_
  try walk_nrm
  have hbnd : (A.take mo).length < 9223372036854775807 := by rw [← hk.out]; omega
  replace hkr := Hid.mk (And.intro hkr hkm)
  clear hkm
  refine opsS_callv M rfl (by rfl) rfl Try.func17 (by rfl) (by rfl) (same_any M hns hgotR hwant hbnd hbnd) (by (try walk_nrm) <;> rfl) ?_
  rintro v t2 ⟨hv, rfl⟩
  replace hv : v = .bool true := by rw [hv]; simp
  subst hv
  clear hbnd hgotR hwant
  try walk_nrm
  repeat (first | (refine opsS_look M rfl (by rfl) (fun w => by first | (simp [go_sem]; done) | fail) (fun w hs K hK => ?_); go_simp; refine hK _ ?_; clear hK K hs w; (try walk_nrm)) | (refine opsS_unwanted M rfl (by rfl) ?_; (try walk_nrm)))
  refine opsS_nil M ?_
  try simp only [thenS, inBlockS]
  refine wpS_cond M (v := false) (by rfl) ?_
  simp only [if_true, if_false, Bool.false_eq_true]
  refine wpS_skip M ?_
  try simp only [thenS, inBlockS]
  refine wpS_seq M ?_
  refine wpS_region M ?_
  simp only [List.size_toArray, List.length_cons, List.length_nil, Nat.reduceAdd, Nat.zero_add, List.range, List.range.loop]
  have hlk1 := k1.all hlk
  refine opsS_callv M rfl (by rfl) rfl Try.func19 (by rfl) (by rfl) (lock_any M hns hlk1 rfl) (by (try walk_nrm) <;> rfl) ?_
  rintro v t3 ⟨k3, hlk3⟩
  simp only [List.setIfInBounds_toArray, List.set_cons_zero] at hlk3
  try walk_nrm
  refine opsS_nil M ?_
  try simp only [thenS, inBlockS]
  refine wpS_seq M ?_
  refine wpS_region M ?_
  simp only [List.size_toArray, List.length_cons, List.length_nil, Nat.reduceAdd, Nat.zero_add, List.range, List.range.loop]
  refine opsS_defer M rfl (by rfl) rfl ?_
  try walk_nrm
  refine opsS_nil M ?_
  try simp only [thenS, inBlockS]
  have hx3 : t3.x = .alone := by rw [k3.x, k1.x, hx]
  have hd03 : t3.d = 0 := by rw [k3.d, k1.d, hd]
  have hbx3 := k3.sg _ (k1.all hbx) (by simpa using nb)
  have hd33 := k3.sg _ (k1.all hd3) (by simpa using nd)
  have hwk3 : OwnRow t3.sg (.slice wa m wc) (nums m) := hwk.keep fun c hc hg => k3.sg c (k1.all hc) (by simpa using nrow _ hg)
  refine wpS_fr (fun u : Nat → Value => #[u 0, u 1, .int .i16 mo, .pointer (some ⟨d3, 0, none⟩), u 4, u 5, u 6, u 7, u 8, u 9, .pointer (some ⟨bx, 0, none⟩), u 11, u 12, u 13, u 14, u 15, u 16, u 17, u 18, u 19, u 20, u 21, u 22, u 23, u 24, u 25, u 26, u 27, u 28, u 29, u 30, u 31, u 32, u 33, u 34, u 35, u 36, u 37, u 38, u 39, u 40, u 41, u 42, u 43, u 44, u 45, u 46, u 47, u 48, u 49, u 50, u 51, u 52, u 53, u 54, u 55, u 56, u 57, u 58, u 59, u 60, u 61, u 62, u 63, u 64, u 65, u 66, u 67, u 68, u 69, u 70, u 71, u 72, u 73, u 74, u 75, u 76, u 77, u 78, u 79, u 80, u 81, u 82, u 83, u 84, u 85, u 86, u 87, u 88, u 89, u 90, u 91, u 92, u 93, u 94, u 95, u 96, u 97, u 98, u 99, u 100, u 101, u 102, u 103, u 104, u 105, u 106, u 107, u 108, u 109, u 110, u 111, u 112, u 113, u 114, u 115, u 116, u 117, u 118, u 119, u 120, u 121, u 122, u 123, u 124, u 125, u 126]) (by kernel_rfl) fun u => ?_
  exact tail_walk hd33 hbx3 hwk3 hrow h2 hlen hl hm hmo hfin u fun a h1 h3 => hq a t3 hx3 hd03 h1 hlk3 h3


theorem ne_cellsK {B w : World} {s : List Chunk} (h : Sat B s w) {b b' : Nat} {C C' : Array Value} {ty ty' : TypeId} {own own' : Bool} (h1 : (⟨b, .cells C ty, own⟩ : Chunk) ∈ s) (h2 : (⟨b', .cells C' ty', own'⟩ : Chunk) ∈ s) (ht : ty ≠ ty') : b ≠ b' := fun e => by
  have := h.uniq h1 h2 e
  injection this with _ h _
  injection h with _ h
  exact ht h
theorem wm (mo : Int) (h : -32768 ≤ mo ∧ mo ≤ 32767) : IntKind.i64.wrap mo = mo := by rw [IntKind.wrap_i64]; omega

set_option maxRecDepth 100000 in
set_option maxHeartbeats 4000000 in
theorem pumps_call {W : World} {Post : Value → World → Prop} {QQ : Exit → Act → Tau CX → Prop} {t : Tau CX} {lk d3 bx N r : Nat} {mo : Int} {ra : Option Addr} {rc : Nat} {vs : List Value} {LL : List (List Int)} {C : Array Value}
    (hx : t.x = .alone) (hd : t.d = 0) (hlk : (⟨lk, .cells #[.int .i32 0, .int .u32 0] 53, true⟩ : Chunk) ∈ t.sg) (hbx : (⟨bx, .cells #[.slice none 0 0] 28, true⟩ : Chunk) ∈ t.sg) (hd3 : (⟨d3, .cells #[.slice ra LL.length rc] 45, true⟩ : Chunk) ∈ t.sg)
    (hN : (⟨N, .cells C 3, true⟩ : Chunk) ∈ t.sg) (hC : C.toList = (nums LL.length).map iv)
    (hrow : RowS W [] (.slice ra LL.length rc) vs) (h2 : Rows0 W vs LL) (hlen : LL.length ≤ 40) (hl : ∀ l ∈ LL, l.length ≤ 40) (hr : r ≤ 255) (hmo : -32768 ≤ mo ∧ mo ≤ 32767) (u : Nat → Value)
    (hp : ∀ a t, t.x = .alone → t.d = 0 → a.defers = [] → a.tmps.getD 6 undef = .bool true → QQ .ret a t)
    (hq : ∀ a t, t.x = .alone → t.d = 0 → a.defers = [dcall 20 #[.pointer (some ⟨lk, 0, none⟩)]] → (⟨lk, .cells #[.int .i32 1, .int .u32 0] 53, true⟩ : Chunk) ∈ t.sg → a.tmps.getD 6 undef = .bool true → QQ .ret a t) :
    wpS (CMv Try.prog W Post) 5 (seqR (seqR (seqR (seqR (seqR (seqR (seqR code5))))))) QQ ⟨#[u 0, .int .u8 r, .int .i16 mo, .pointer (some ⟨d3, 0, none⟩), u 4, u 5, u 6, u 7, u 8, .pointer (some ⟨lk, 0, none⟩), .pointer (some ⟨bx, 0, none⟩), .slice (some ⟨N, 0, none⟩) LL.length LL.length, u 12, u 13, u 14, u 15, u 16, u 17, u 18, u 19, u 20, u 21, u 22, u 23, u 24, u 25, u 26, u 27, u 28, u 29, u 30, u 31, u 32, u 33, u 34, u 35, u 36, u 37, u 38, u 39, u 40, u 41, u 42, u 43, u 44, u 45, u 46, u 47, u 48, u 49, u 50, u 51, u 52, u 53, u 54, u 55, u 56, u 57, u 58, u 59, u 60, u 61, u 62, u 63, u 64, u 65, u 66, u 67, u 68, u 69, u 70, u 71, u 72, u 73, u 74, u 75, u 76, u 77, u 78, u 79, u 80, u 81, u 82, u 83, u 84, u 85, u 86, u 87, u 88, u 89, u 90, u 91, u 92, u 93, u 94, u 95, u 96, u 97, u 98, u 99, u 100, u 101, u 102, u 103, u 104, u 105, u 106, u 107, u 108, u 109, u 110, u 111, u 112, u 113, u 114, u 115, u 116, u 117, u 118, u 119, u 120, u 121, u 122, u 123, u 124, u 125, u 126], []⟩ t := by
  have M := cmoves Try.prog W Post
  have hns : ¬ cstrict t.x := fun h => h
  refine wpS_facts M fun w0 hs0 => ?_
  have n1 := ne_cellsK hs0 hlk hbx (by decide)
  have n2 := ne_cellsK hs0 hlk hd3 (by decide)
  have n3 := ne_cellsK hs0 hbx hd3 (by decide)
  have n4 := ne_cellsK hs0 hlk hN (by decide)
  have n5 := ne_cellsK hs0 hbx hN (by decide)
  have n6 := ne_cellsK hs0 hd3 hN (by decide)
  clear hs0 w0
  obtain ⟨n, hn⟩ : ∃ n, n = r + 1 := ⟨_, rfl⟩
  have hw1 := wr r hr
  have hw2 := wr1 r n hr hn
  have hw3 := wm mo hmo
  replace hn := Hid.mk (And.intro hn hr)
  clear hr
  show wpS _ 5 (Code.seq _ _) _ _ _
  refine wpS_seq M ?_
  refine wpS_region M ?_
  simp only [List.size_toArray, List.length_cons, List.length_nil, Nat.reduceAdd, Nat.zero_add, List.range, List.range.loop]
  (refine opsS_look M rfl (by rfl) (fun w => by first | (simp [go_sem]; done) | fail) (fun w hs K hK => ?_); go_simp; refine hK _ ?_; clear hK K hs w; (try walk_nrm))
  refine opsS_pure M (v := .func (.func 18) #[] #[.pointer (some ⟨lk, 0, none⟩), .pointer (some ⟨bx, 0, none⟩), .pointer (some ⟨d3, 0, none⟩)]) rfl (by rfl) (fun w => by unfold execOp; simp [Instr.makeFunc, Act.eval]) (fun w => by unfold execOp; simp [Instr.makeFunc]) ?_
  try walk_nrm
  (refine opsS_look M rfl (by rfl) (fun w => by first | (simp [go_sem]; done) | fail) (fun w hs K hK => ?_); go_simp; refine hK _ ?_; clear hK K hs w; (try walk_nrm))
  (refine opsS_look M rfl (by rfl) (fun w => by first | (simp [go_sem]; done) | fail) (fun w hs K hK => ?_); go_simp; refine hK _ ?_; clear hK K hs w; (try walk_nrm))
  (refine opsS_look M rfl (by rfl) (fun w => by first | (simp [go_sem]; done) | fail) (fun w hs K hK => ?_); go_simp; refine hK _ ?_; clear hK K hs w; (try walk_nrm))
  (refine opsS_look M rfl (by rfl) (fun w => by first | (simp [go_sem]; done) | fail) (fun w hs K hK => ?_); go_simp; refine hK _ ?_; clear hK K hs w; (try walk_nrm))
  (refine opsS_look M rfl (by rfl) (fun w => by first | (simp [go_sem]; done) | fail) (fun w hs K hK => ?_); go_simp; refine hK _ ?_; clear hK K hs w; (try walk_nrm))
  clear hw1 hw2 hw3
  by_cases hneg : mo < 0
  · refine opsS_callv M rfl (by rfl) rfl Try.func15 (by rfl) (by rfl) (pump_bad M n mo (.inr (.inr (.inl hneg))) _ _ _ _ _ _) (by (try walk_nrm) <;> rfl) ?_
    rintro v t5 ⟨rfl, k5⟩
    have hbx5 := k5.all hbx
    replace hns : ¬ cstrict t5.x := fun h => h
    try walk_nrm
    (refine opsS_look M rfl (by rfl) (fun w => by first | (simp [go_sem]; done) | fail) (fun w hs K hK => ?_); go_simp; refine hK _ ?_; clear hK K hs w; (try walk_nrm))
    (refine opsS_look M rfl (by rfl) (fun w => by first | (simp [go_sem]; done) | fail) (fun w hs K hK => ?_); go_simp; refine hK _ ?_; clear hK K hs w; (try walk_nrm))
    (refine opsS_look M rfl (by rfl) (fun w => by first | (simp [go_sem]; done) | fail) (fun w hs K hK => ?_); go_simp; refine hK _ ?_; clear hK K hs w; (try walk_nrm))
    (refine opsS_look M rfl (by rfl) (fun w => by first | (simp [go_sem]; done) | fail) (fun w hs K hK => ?_); go_simp; refine hK _ ?_; clear hK K hs w; (try walk_nrm))
    (refine opsS_look M rfl (by rfl) (fun w => by first | (simp [go_sem]; done) | fail) (fun w hs K hK => ?_); go_simp; refine hK _ ?_; clear hK K hs w; (try walk_nrm))
    refine opsS_nil M ?_
    try simp only [thenS, inBlockS]
    refine wpS_seq M ?_
    refine wpS_seq M ?_
    refine wpS_region M ?_
    simp only [List.size_toArray, List.length_cons, List.length_nil, Nat.reduceAdd, Nat.zero_add, List.range, List.range.loop]
    (refine opsS_look M rfl (by rfl) (fun w => by first | (simp [go_sem]; done) | fail) (fun w hs K hK => ?_); go_simp; refine hK _ ?_; clear hK K hs w; (try walk_nrm))
    (refine opsS_look M rfl (by rfl) (fun w => by first | (simp [go_sem]; done) | fail) (fun w hs K hK => ?_); go_simp; refine hK _ ?_; clear hK K hs w; (try walk_nrm))
    refine opsS_nil M ?_
    try simp only [thenS, inBlockS]
    refine wpS_cond M (v := true) (by rfl) ?_
    simp only [if_true, if_false, Bool.false_eq_true]
    refine wpS_seq M ?_
    refine wpS_region M ?_
    simp only [List.size_toArray, List.length_cons, List.length_nil, Nat.reduceAdd, Nat.zero_add, List.range, List.range.loop]
    (refine opsS_look M rfl (by rfl) (fun w => by first | (simp [go_sem]; done) | fail) (fun w hs K hK => ?_); go_simp; refine hK _ ?_; clear hK K hs w; (try walk_nrm))
    (refine opsS_look M rfl (by rfl) (fun w => by first | (simp [go_sem]; done) | fail) (fun w hs K hK => ?_); go_simp; refine hK _ ?_; clear hK K hs w; (try walk_nrm))
    (refine opsS_look M rfl (by rfl) (fun w => by first | (simp [go_sem]; done) | fail) (fun w hs K hK => ?_); go_simp; refine hK _ ?_; clear hK K hs w; (try walk_nrm))
    (refine opsS_look M rfl (by rfl) (fun w => by first | (simp [go_sem]; done) | fail) (fun w hs K hK => ?_); go_simp; refine hK _ ?_; clear hK K hs w; (try walk_nrm))
    (refine opsS_look M rfl (by rfl) (fun w => by first | (simp [go_sem]; done) | fail) (fun w hs K hK => ?_); go_simp; refine hK _ ?_; clear hK K hs w; (try walk_nrm))
    (refine opsS_look M rfl (by rfl) (fun w => by first | (simp [go_sem]; done) | fail) (fun w hs K hK => ?_); go_simp; refine hK _ ?_; clear hK K hs w; (try walk_nrm))
    (refine opsS_look M rfl (by rfl) (fun w => by first | (simp [go_sem]; done) | fail) (fun w hs K hK => ?_); go_simp; refine hK _ ?_; clear hK K hs w; (try walk_nrm))
    (refine opsS_look M rfl (by rfl) (fun w => by first | (simp [go_sem]; done) | fail) (fun w hs K hK => ?_); go_simp; refine hK _ ?_; clear hK K hs w; (try walk_nrm))
    refine opsS_ld M (j := 0) hbx5 (by first | rfl | simp | assumption) rfl (by rfl) hns (fun w hcell e he => by simp [go_sem, hcell] at he; exact ⟨_, he⟩) (fun w hcell K hK => ?_)
    go_simp
    refine hK _ ?_
    clear hK K hcell w
    try walk_nrm
    (refine opsS_look M rfl (by rfl) (fun w => by first | (simp [go_sem]; done) | fail) (fun w hs K hK => ?_); go_simp; refine hK _ ?_; clear hK K hs w; (try walk_nrm))
    (refine opsS_look M rfl (by rfl) (fun w => by first | (simp [go_sem]; done) | fail) (fun w hs K hK => ?_); go_simp; refine hK _ ?_; clear hK K hs w; (try walk_nrm))
    (refine opsS_look M rfl (by rfl) (fun w => by first | (simp [go_sem]; done) | fail) (fun w hs K hK => ?_); go_simp; refine hK _ ?_; clear hK K hs w; (try walk_nrm))
    (refine opsS_look M rfl (by rfl) (fun w => by first | (simp [go_sem]; done) | fail) (fun w hs K hK => ?_); go_simp; refine hK _ ?_; clear hK K hs w; (try walk_nrm))
    refine opsS_nil M ?_
    try simp only [thenS, inBlockS]
    refine wpS_ret M ?_
    exact hp _ _ (by rw [k5.x, hx]) (by rw [k5.d, hd]) rfl rfl
  · obtain ⟨mn, rfl⟩ := Int.eq_ofNat_of_zero_le (show 0 ≤ mo by omega)
    have hmn : mn ≤ 32767 := by omega
    clear hneg hmo
    have hall : allOut (fun (_ : List Int) n => LL.getD n.toNat []) (fun wl n => wl ++ [n]) [] (nums LL.length) = LL.flatten := by rw [allN (Nat.le_refl _), List.take_length]
    have hAl := flat_take_le LL.length hl hlen
    rw [List.take_length] at hAl
    have hrowN : RowS W [(⟨N, .cells C 3, false⟩ : Chunk)] (.slice (some ⟨N, 0, none⟩) LL.length LL.length) ((nums LL.length).map iv) := by
      refine ⟨some ⟨N, 0, none⟩, LL.length, by rw [List.length_map, nums_len], fun j u hj => ⟨N, 0, rfl, .inl ⟨C, 3, List.mem_cons_self .., ?_⟩⟩⟩
      rw [← hC] at hj
      rw [Nat.zero_add, ← Array.getElem?_toList]
      exact hj
    refine opsS_callv M rfl (by rfl) rfl Try.func15 (by rfl) (by rfl) (pump_any (Post := Post) (cbP (B := W) lk bx d3 ra rc vs LL hrow h2) (σ₀ := []) (L := nums LL.length) (domP _ _ _ (fun x h => mem_nums h) (by rw [nums_len]; simp; omega)) (by rw [nums_len]; omega) (by rw [hall]; omega) hx hd
      (ra := some ⟨N, 0, none⟩) (rl := LL.length) (rc := LL.length) (W := [⟨lk, .cells #[.int .i32 0, .int .u32 0] 53, true⟩, ⟨bx, .cells #[.slice none 0 0] 28, true⟩, ⟨d3, .cells #[.slice ra LL.length rc] 45, true⟩]) (RW := [⟨N, .cells C 3, false⟩]) (FR := []) (by simp)
      (fun ch hc => by simp only [List.mem_cons, List.not_mem_nil, or_false] at hc; rcases hc with rfl | rfl | rfl <;> assumption) (fun c hc => by simp at hc; subst hc; exact ⟨rfl, _, hN, rfl, rfl⟩) (by simp [n1, n2, n3, n4, n5, n6]) ⟨by simp, ⟨.slice none 0 0, by simp, .inl ⟨rfl, rfl⟩⟩, by simp⟩
      hrowN n mn (by have := hn.out; omega) (by have := hn.out; omega) (by omega)) (by (try walk_nrm) <;> rfl) ?_
    rintro v t5 ⟨gv, rfl, hrow5, hx5, hd5, s5, sw, hs5, hfin, hsw, -⟩
    rw [hall] at hrow5 hs5 hfin
    obtain ⟨m, hm, hsm, hWB, hwh⟩ := finP hfin
    have hrch := reach hsm hs5 hwh
    have hWB5 := (cbP (B := W) lk bx d3 ra rc vs LL hrow h2).mono _ _ t5.sg (fun c hc _ => (hsw c hc).1) hWB
    clear hfin hsw hWB hs5 hsm hwh hall hrowN
    obtain ⟨ga, gc, rfl⟩ := hrow5.slice
    generalize hgn : (LL.flatten.take mn).length = gn at *
    replace hgn := Hid.mk hgn
    try walk_nrm
    (refine opsS_look M rfl (by rfl) (fun w => by first | (simp [go_sem]; done) | fail) (fun w hs K hK => ?_); go_simp; refine hK _ ?_; clear hK K hs w; (try walk_nrm))
    (refine opsS_look M rfl (by rfl) (fun w => by first | (simp [go_sem]; done) | fail) (fun w hs K hK => ?_); go_simp; refine hK _ ?_; clear hK K hs w; (try walk_nrm))
    (refine opsS_look M rfl (by rfl) (fun w => by first | (simp [go_sem]; done) | fail) (fun w hs K hK => ?_); go_simp; refine hK _ ?_; clear hK K hs w; (try walk_nrm))
    (refine opsS_look M rfl (by rfl) (fun w => by first | (simp [go_sem]; done) | fail) (fun w hs K hK => ?_); go_simp; refine hK _ ?_; clear hK K hs w; (try walk_nrm))
    (refine opsS_look M rfl (by rfl) (fun w => by first | (simp [go_sem]; done) | fail) (fun w hs K hK => ?_); go_simp; refine hK _ ?_; clear hK K hs w; (try walk_nrm))
    refine opsS_nil M ?_
    try simp only [thenS, inBlockS]
    refine wpS_fr (fun u : Nat → Value => #[u 0, u 1, .int .i16 mn, .pointer (some ⟨d3, 0, none⟩), u 4, u 5, u 6, u 7, u 8, .pointer (some ⟨lk, 0, none⟩), .pointer (some ⟨bx, 0, none⟩), u 11, u 12, .slice ga gn gc, .int .i64 0, u 15, u 16, u 17, u 18, u 19, u 20, u 21, u 22, u 23, u 24, u 25, u 26, u 27, u 28, u 29, u 30, u 31, u 32, u 33, u 34, u 35, u 36, u 37, u 38, u 39, u 40, u 41, u 42, u 43, u 44, u 45, u 46, u 47, u 48, u 49, u 50, u 51, u 52, u 53, u 54, u 55, u 56, u 57, u 58, u 59, u 60, u 61, u 62, u 63, u 64, u 65, u 66, u 67, u 68, u 69, u 70, u 71, u 72, u 73, u 74, u 75, u 76, u 77, u 78, u 79, u 80, u 81, u 82, u 83, u 84, u 85, u 86, u 87, u 88, u 89, u 90, u 91, u 92, u 93, u 94, u 95, u 96, u 97, u 98, u 99, u 100, u 101, u 102, u 103, u 104, u 105, u 106, u 107, u 108, u 109, u 110, u 111, u 112, u 113, u 114, u 115, u 116, u 117, u 118, u 119, u 120, u 121, u 122, u 123, u 124, u 125, u 126]) (by kernel_rfl) fun u => ?_
    exact mid_walk hx5 hd5 hWB5 hrow5 hrow h2 hlen hl hm hmn hrch u hq

end Go.Proofs.Ytdmhgajamepgoaa.Q
