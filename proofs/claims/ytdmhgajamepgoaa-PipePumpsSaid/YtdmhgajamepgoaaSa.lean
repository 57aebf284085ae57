/-
  OWN TEXT. PIPE: the document's Joined.
-/
import Derived.Test.YtdmhgajamepgoaaRx
set_option linter.unusedVariables false
set_option linter.unusedSimpArgs false
set_option linter.unusedSectionVars false
namespace Go.Proofs.Ytdmhgajamepgoaa.Q
open Go Go.Conc

/-- The chunks: a row of rows. -/
def Rows2 (B : World) (s : List Chunk) (vs : List Value) (LL : List (List Int)) : Prop :=
  vs.length = LL.length ∧ ∀ (i : Nat) (l : List Int), LL[i]? = some l → ∃ v, vs[i]? = some v ∧ RowAt B s v (l.map iv)

theorem flat_len : ∀ (LL : List (List Int)), (∀ l ∈ LL, l.length ≤ 40) → LL.flatten.length ≤ 40 * LL.length := by
  intro LL
  induction LL with
  | nil => intro _; simp
  | cons l LL ih =>
    intro h
    have h1 := h l (List.mem_cons_self ..)
    have h2 := ih fun x hx => h x (List.mem_cons_of_mem _ hx)
    simp only [List.flatten_cons, List.length_append, List.length_cons]
    omega
theorem flat_push {LL : List (List Int)} {i : Nat} {l : List Int} (h : LL[i]? = some l) : (LL.take i).flatten ++ l = (LL.take (i + 1)).flatten := by
  rw [List.take_add_one, h]
  simp

section
variable {X : Type} {main : Bool} {B : World} {Mv : MvT X} {strict : X → Prop} (M : Moves Try.prog main B strict Mv)
include M

set_option maxRecDepth 100000 in
set_option maxHeartbeats 2000000 in
theorem joined_any {t : Tau X} (hns : ¬ strict t.x) {ra : Option Addr} {rc : Nat} {vs : List Value} {LL : List (List Int)} (hrow : RowAt B t.sg (.slice ra LL.length rc) vs) (h2 : Rows2 B t.sg vs LL) (hlen : LL.length ≤ 40) (hl : ∀ l ∈ LL, l.length ≤ 40) :
    CallsS Mv Try.prog 21 #[.slice ra LL.length rc] t fun v t' => OwnRow t'.sg v LL.flatten ∧ Keep [] t t' ∧ ∀ g, v.ownBlock = some g → ∀ c ∈ t.sg, c.b ≠ g := by
  refine callsS_of M Try.func21 (by rfl) ?_
  simp only [Try.ntmps21, List.size_toArray, List.length_cons, List.length_nil, Nat.reduceAdd, Nat.reduceSub, Array.replicate_succ, Array.replicate_zero, List.push_toArray, List.append_toArray, List.nil_append, List.cons_append]
  refine wpS_seq M ?_
  refine wpS_region M ?_
  simp only [List.size_toArray, List.length_cons, List.length_nil, Nat.reduceAdd, Nat.zero_add, List.range, List.range.loop]
  (refine opsS_look M rfl (by rfl) (fun w => by first | (simp [go_sem]; done) | fail) (fun w hs K hK => ?_); go_simp; refine hK _ ?_; clear hK K hs w; (try walk_nrm))
  refine opsS_nil M ?_
  try simp only [thenS, inBlockS]
  refine wpS_seq M ?_
  refine wpS_region M ?_
  simp only [List.size_toArray, List.length_cons, List.length_nil, Nat.reduceAdd, Nat.zero_add, List.range, List.range.loop]
  refine opsS_new M (.cells #[] 3) rfl (by rfl) (fun w hs => by simp [go_sem]) (fun w hs K hK => ?_)
  go_simp
  refine hK _ fun t1 k1 hE f1 g1 => ?_
  clear hK K
  generalize w.heap.size = bE at *
  clear hs w
  try walk_nrm
  (refine opsS_look M rfl (by rfl) (fun w => by first | (simp [go_sem]; done) | fail) (fun w hs K hK => ?_); go_simp; refine hK _ ?_; clear hK K hs w; (try walk_nrm))
  refine opsS_nil M ?_
  try simp only [thenS, inBlockS]
  have hnil : OwnRow t1.sg (.slice (some ⟨bE, 0, none⟩) 0 0) [] := .inr ⟨bE, #[], rfl, hE, by simp, by simp, by simp⟩
  refine wpS_seq M ?_
  refine wpS_seq M ?_
  refine wpS_region M ?_
  simp only [List.size_toArray, List.length_cons, List.length_nil, Nat.reduceAdd, Nat.zero_add, List.range, List.range.loop]
  (refine opsS_look M rfl (by rfl) (fun w => by first | (simp [go_sem]; done) | fail) (fun w hs K hK => ?_); go_simp; refine hK _ ?_; clear hK K hs w; (try walk_nrm))
  refine opsS_nil M ?_
  try simp only [thenS, inBlockS]
  refine wpS_block M ?_
  refine wpS_loopN M (I := fun N a t' => ∃ i ga n gc, i + N = LL.length ∧ n = ((LL.take i).flatten).length ∧ (∃ u : Nat → Value, a = ⟨#[.slice ra LL.length rc, u 1, u 2, .slice ga n gc, .int .i64 i, u 5, u 6, u 7, u 8, u 9, u 10, u 11, u 12, u 13, u 14, u 15, u 16, u 17, u 18], []⟩) ∧ t'.x = t.x ∧ t'.d = t.d ∧ OwnRow t'.sg (.slice ga n gc) (LL.take i).flatten ∧ (∀ c ∈ t.sg, c ∈ t'.sg) ∧ (∀ g, (Value.slice ga n gc).ownBlock = some g → ∀ c ∈ t.sg, c.b ≠ g)) LL.length ⟨0, some ⟨bE, 0, none⟩, 0, 0, by omega, by simp, mkF (by kernel_rfl), k1.x, k1.d, by simpa using hnil, fun c hc => k1.all hc, fun g hg c hc => by cases hg; exact f1 c hc⟩ ?_
  rintro N a t2 ⟨i, ga, n, gc, hi, hn, ⟨u, rfl⟩, hx2, hd2, hout, hall, hfr⟩
  replace hi := Hid.mk hi
  replace hn := Hid.mk hn
  have hns2 : ¬ strict t2.x := by rw [hx2]; exact hns
  replace hns := hns2
  refine wpS_seq M ?_
  refine wpS_seq M ?_
  refine wpS_region M ?_
  simp only [List.size_toArray, List.length_cons, List.length_nil, Nat.reduceAdd, Nat.zero_add, List.range, List.range.loop]
  cases N with
  | zero =>
    have hlt : ¬ ((i : Int) < (LL.length : Int)) := by have := hi.out; omega
    (refine opsS_look M rfl (by rfl) (fun w => by first | (simp [go_sem]; done) | fail) (fun w hs K hK => ?_); go_simp; refine hK _ ?_; clear hK K hs w; (try walk_nrm))
    (refine opsS_look M rfl (by rfl) (fun w => by first | (simp [go_sem]; done) | fail) (fun w hs K hK => ?_); go_simp; refine hK _ ?_; clear hK K hs w; (try walk_nrm))
    (refine opsS_look M rfl (by rfl) (fun w => by first | (simp [go_sem]; done) | fail) (fun w hs K hK => ?_); go_simp; refine hK _ ?_; clear hK K hs w; (try walk_nrm))
    (refine opsS_look M rfl (by rfl) (fun w => by first | (simp [go_sem]; done) | fail) (fun w hs K hK => ?_); go_simp; refine hK _ ?_; clear hK K hs w; (try walk_nrm))
    refine opsS_nil M ?_
    try simp only [thenS, inBlockS]
    refine wpS_cond M (v := false) (by rfl) ?_
    simp only [if_true, if_false, Bool.false_eq_true]
    refine wpS_exit M ?_
    try simp only [thenS, inBlockS, if_true, if_false, eq_self, reduceIte, Nat.reduceEqDiff, OfNat.ofNat_ne_ofNat, OfNat.ofNat_ne_zero, OfNat.zero_ne_ofNat, Nat.zero_ne_one, Nat.one_ne_zero, OfNat.ofNat_ne_one, OfNat.one_ne_ofNat]
    refine wpS_seq M ?_
    refine wpS_region M ?_
    simp only [List.size_toArray, List.length_cons, List.length_nil, Nat.reduceAdd, Nat.zero_add, List.range, List.range.loop]
    (refine opsS_look M rfl (by rfl) (fun w => by first | (simp [go_sem]; done) | fail) (fun w hs K hK => ?_); go_simp; refine hK _ ?_; clear hK K hs w; (try walk_nrm))
    (refine opsS_look M rfl (by rfl) (fun w => by first | (simp [go_sem]; done) | fail) (fun w hs K hK => ?_); go_simp; refine hK _ ?_; clear hK K hs w; (try walk_nrm))
    refine opsS_nil M ?_
    try simp only [thenS, inBlockS]
    refine wpS_ret M ?_
    simp only [thenS, bodyPostS]
    have e : LL.take i = LL := List.take_of_length_le (by have := hi.out; omega)
    rw [e] at hout
    refine leaveS_done M rfl Try.func21 (resultsC_tmp (by rfl) _) ?_
    simp only [Array.getD_eq_getD_getElem?, List.getElem?_toArray, List.getElem?_cons_succ, List.getElem?_cons_zero, Option.getD_some]
    exact ⟨hout, ⟨fun c hc _ => hall c hc, hd2, hx2⟩, hfr⟩
  | succ N =>
    have hlt : (i : Int) < (LL.length : Int) := by have := hi.out; omega
    have hltn : i < LL.length := by have := hi.out; omega
    (refine opsS_look M rfl (by rfl) (fun w => by first | (simp [go_sem]; done) | fail) (fun w hs K hK => ?_); go_simp; refine hK _ ?_; clear hK K hs w; (try walk_nrm))
    (refine opsS_look M rfl (by rfl) (fun w => by first | (simp [go_sem]; done) | fail) (fun w hs K hK => ?_); go_simp; refine hK _ ?_; clear hK K hs w; (try walk_nrm))
    (refine opsS_look M rfl (by rfl) (fun w => by first | (simp [go_sem]; done) | fail) (fun w hs K hK => ?_); go_simp; refine hK _ ?_; clear hK K hs w; (try walk_nrm))
    (refine opsS_look M rfl (by rfl) (fun w => by first | (simp [go_sem]; done) | fail) (fun w hs K hK => ?_); go_simp; refine hK _ ?_; clear hK K hs w; (try walk_nrm))
    clear hlt
    refine opsS_nil M ?_
    try simp only [thenS, inBlockS]
    refine wpS_cond M (v := true) (by rfl) ?_
    simp only [if_true, if_false, Bool.false_eq_true]
    refine wpS_skip M ?_
    try simp only [thenS, inBlockS]
    refine wpS_seq M ?_
    refine wpS_block M ?_
    obtain ⟨l, hli⟩ : ∃ l, LL[i]? = some l := ⟨LL[i], List.getElem?_eq_getElem hltn⟩
    obtain ⟨v, hv, hxv⟩ := h2.2 i l hli
    obtain ⟨b, o, rfl, hrd⟩ := hrow.get i v hv
    replace hxv := hxv.mono hall
    replace hrd := hrd.mono hall
    obtain ⟨la, lc, rfl, hxv'⟩ := hxv
    have hxv : RowAt B t2.sg (.slice la (l.map iv).length lc) (l.map iv) := ⟨la, lc, rfl, hxv'⟩
    have hsz : ((LL.take i).flatten).length + l.length ≤ 1099511627776 := by
      have h1 := flat_len (LL.take i) fun x hx => hl x (List.mem_of_mem_take hx)
      have h2 := hl l (List.mem_of_getElem? hli)
      have h3 : (LL.take i).length ≤ LL.length := by rw [List.length_take]; omega
      omega
    generalize (l.map iv).length = ln at *
    clear hxv'
    refine wpS_region M ?_
    simp only [List.size_toArray, List.length_cons, List.length_nil, Nat.reduceAdd, Nat.zero_add, List.range, List.range.loop]
    (refine opsS_look M rfl (by rfl) (fun w => by first | (simp [go_sem]; done) | fail) (fun w hs K hK => ?_); go_simp; refine hK _ ?_; clear hK K hs w; (try walk_nrm))
    (refine opsS_look M rfl (by rfl) (fun w => by first | (simp [go_sem]; done) | fail) (fun w hs K hK => ?_); go_simp; refine hK _ ?_; clear hK K hs w; (try walk_nrm))
    (refine opsS_look M rfl (by rfl) (fun w => by first | (simp [go_sem]; done) | fail) (fun w hs K hK => ?_); go_simp; refine hK _ ?_; clear hK K hs w; (try walk_nrm))
    (refine opsS_look M rfl (by rfl) (fun w => by first | (simp [go_sem, hltn]; done) | fail) (fun w hs K hK => ?_); go_simp; refine hK _ ?_; clear hK K hs w; (try walk_nrm))
    refine opsS_ldR M hrd rfl (by rfl) hns (fun w hcell e he => by simp [go_sem, hcell] at he; exact ⟨_, he⟩) (fun w hcell K hK => ?_)
    go_simp
    refine hK _ ?_
    clear hK K hcell w
    try walk_nrm
    clear hrd
    refine opsS_append M (L := (LL.take i).flatten) (news := l) hout hxv hsz rfl (by rfl) hns rfl rfl rfl fun v4 t4 k4 hrow4 => ?_
    rw [flat_push hli] at hrow4
    obtain ⟨gb, gd, rfl⟩ := hrow4.slice
    generalize hn1 : ((LL.take (i + 1)).flatten).length = n1 at *
    replace hn1 := Hid.mk hn1
    try walk_nrm
    (refine opsS_look M rfl (by rfl) (fun w => by first | (simp [go_sem]; done) | fail) (fun w hs K hK => ?_); go_simp; refine hK _ ?_; clear hK K hs w; (try walk_nrm))
    refine opsS_nil M ?_
    try simp only [thenS, inBlockS]
    have hw1 := w1 i (by omega)
    refine wpS_region M ?_
    simp only [List.size_toArray, List.length_cons, List.length_nil, Nat.reduceAdd, Nat.zero_add, List.range, List.range.loop]
    (refine opsS_look M rfl (by rfl) (fun w => by first | (simp [go_sem]; done) | fail) (fun w hs K hK => ?_); go_simp; refine hK _ ?_; clear hK K hs w; (try walk_nrm))
    (refine opsS_look M rfl (by rfl) (fun w => by first | (simp [go_sem]; done) | fail) (fun w hs K hK => ?_); go_simp; refine hK _ ?_; clear hK K hs w; (try walk_nrm))
    (refine opsS_look M rfl (by rfl) (fun w => by first | (simp [go_sem]; done) | fail) (fun w hs K hK => ?_); go_simp; refine hK _ ?_; clear hK K hs w; (try walk_nrm))
    refine opsS_nil M ?_
    try simp only [thenS, inBlockS]
    exact ⟨N, by omega, i + 1, gb, n1, gd, by have := hi.out; omega, hn1.out.symm, by simp only [Int.natCast_add, Int.natCast_one, Int.cast_ofNat_Int]; exact mkF (by kernel_rfl), by rw [k4.x, hx2], by rw [k4.d, hd2], hrow4, fun c hc => k4.sg c (hall c hc) fun g hg => hfr g hg c hc, fun g hg c hc => (k4.new g hg).elim (fun h => hfr g h c hc) fun h => h.1 c (hall c hc)⟩
end

end Go.Proofs.Ytdmhgajamepgoaa.Q
