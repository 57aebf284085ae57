/-
  OWN TEXT. PIPE: the callback of PipePumps.
-/
import Derived.Test.YtdmhgajamepgoaaRx
set_option linter.unusedVariables false
set_option linter.unusedSimpArgs false
set_option linter.unusedSectionVars false
namespace Go.Proofs.Ytdmhgajamepgoaa.Q
open Go Go.Conc

structure WB (s : List Chunk) (lk bx d3 : Nat) (cv : Value) (wl : List Int) : Prop where
  lk : (⟨lk, .cells #[.int .i32 0, .int .u32 0] 53, true⟩ : Chunk) ∈ s
  bx : ∃ v, (⟨bx, .cells #[v] 28, true⟩ : Chunk) ∈ s ∧ OwnRow s v wl
  d3 : (⟨d3, .cells #[cv] 45, true⟩ : Chunk) ∈ s

section
variable {B : World}
set_option maxRecDepth 100000 in
set_option maxHeartbeats 2000000 in
theorem cbP (lk bx d3 : Nat) (ra : Option Addr) (rc : Nat) (vs : List Value) (LL : List (List Int)) (hrow : RowS B [] (.slice ra LL.length rc) vs) (h2 : ∀ (i : Nat) (l : List Int), LL[i]? = some l → ∃ v, vs[i]? = some v ∧ RowS B [] v (l.map iv)) :
    Cb B 18 #[.pointer (some ⟨lk, 0, none⟩), .pointer (some ⟨bx, 0, none⟩), .pointer (some ⟨d3, 0, none⟩)] (S := List Int) (fun wl s => WB s lk bx d3 (.slice ra LL.length rc) wl)
    (fun _ n => LL.getD n.toNat []) (fun wl n => wl ++ [n]) (fun wl n => 0 ≤ n ∧ n.toNat < LL.length ∧ wl.length ≤ 1000) := by
  refine ⟨fun wl s s' h h1 => ⟨h _ h1.lk rfl, let ⟨v, hv, hr⟩ := h1.bx; ⟨v, h _ hv rfl, hr.imp id fun ⟨g, C, e, hc, rest⟩ => ⟨g, C, e, h _ hc rfl, rest⟩⟩, h _ h1.d3 rfl⟩, ⟨_, Try.func18, by rfl, by rfl⟩, fun wl n t hdom hI hns => ?_⟩
  obtain ⟨hlk, ⟨bv, hbx, hout⟩, hd3⟩ := hI
  have M := wmoves Try.prog B
  show CallsS _ _ _ #[.int .i64 n, .pointer (some ⟨lk, 0, none⟩), .pointer (some ⟨bx, 0, none⟩), .pointer (some ⟨d3, 0, none⟩)] _ _
  refine callsS_of M Try.func18 (by rfl) ?_
  simp only [Try.ntmps18, List.size_toArray, List.length_cons, List.length_nil, Nat.reduceAdd, Nat.reduceSub, Array.replicate_succ, Array.replicate_zero, List.push_toArray, List.append_toArray, List.nil_append, List.cons_append]
  refine wpS_facts M fun w0 hs0 => ?_
  have nb : bx ≠ lk := fun e => by have := hs0.uniq hbx hlk e; injection this with _ h _; injection h with _ h; cases h
  have nd : d3 ≠ lk := fun e => by have := hs0.uniq hd3 hlk e; injection this with _ h _; injection h with _ h; cases h
  have ndb : d3 ≠ bx := fun e => by have := hs0.uniq hd3 hbx e; injection this with _ h _; injection h with _ h; cases h
  have nrow : ∀ g, bv.ownBlock = some g → g ≠ lk ∧ g ≠ bx ∧ g ≠ d3 := fun g hg => by
    obtain ⟨C, hC⟩ := hout.mine hg
    refine ⟨fun e => ?_, fun e => ?_, fun e => ?_⟩
    · have := hs0.uniq hC hlk e; injection this with _ h _; injection h with _ h; cases h
    · have := hs0.uniq hC hbx e; injection this with _ h _; injection h with _ h; cases h
    · have := hs0.uniq hC hd3 e; injection this with _ h _; injection h with _ h; cases h
  have nown : ∀ ch ∈ t.sg, ch.own = false → ch.b ≠ lk ∧ ch.b ≠ bx ∧ ∀ g, bv.ownBlock = some g → ch.b ≠ g := fun ch hc ho => by
    refine ⟨fun e => ?_, fun e => ?_, fun g hg e => ?_⟩
    · have := hs0.uniq hc hlk e; rw [this] at ho; cases ho
    · have := hs0.uniq hc hbx e; rw [this] at ho; cases ho
    · obtain ⟨C, hC⟩ := hout.mine hg
      have := hs0.uniq hc hC e; rw [this] at ho; cases ho
  clear hs0 w0
  obtain ⟨ga, gc, rfl⟩ := hout.slice
  generalize hn0 : wl.length = n0 at *
  replace hn0 := Hid.mk hn0
  refine wpS_seq M ?_
  refine wpS_region M ?_
  simp only [List.size_toArray, List.length_cons, List.length_nil, Nat.reduceAdd, Nat.zero_add, List.range, List.range.loop]
  (refine opsS_look M rfl (by rfl) (fun w => by first | (simp [go_sem]; done) | fail) (fun w hs K hK => ?_); go_simp; refine hK _ ?_; clear hK K hs w; (try walk_nrm))
  refine opsS_nil M ?_
  try simp only [thenS, inBlockS]
  refine wpS_seq M ?_
  refine wpS_region M ?_
  simp only [List.size_toArray, List.length_cons, List.length_nil, Nat.reduceAdd, Nat.zero_add, List.range, List.range.loop]
  refine opsS_callv M rfl (by rfl) rfl Try.func19 (by rfl) (by rfl) (lock_any M hns hlk rfl) (by (try walk_nrm) <;> rfl) ?_
  rintro v t1 ⟨k1, hlk1⟩
  simp only [List.setIfInBounds_toArray, List.set_cons_zero] at hlk1
  try walk_nrm
  refine opsS_nil M ?_
  try simp only [thenS, inBlockS]
  refine wpS_seq M ?_
  refine wpS_region M ?_
  simp only [List.size_toArray, List.length_cons, List.length_nil, Nat.reduceAdd, Nat.zero_add, List.range, List.range.loop]
  refine opsS_defer M rfl (by rfl) rfl ?_
  try walk_nrm
  refine opsS_nil M ?_
  try simp only [thenS, inBlockS]
  have hns1 : ¬ wstrict t1.x := by rw [k1.x]; exact hns
  replace hns := hns1
  have hbx1 := k1.sg _ hbx (by simpa using nb)
  have hd1 := k1.sg _ hd3 (by simpa using nd)
  have hout1 : OwnRow t1.sg (.slice ga n0 gc) wl := hout.keep fun c hc hg => k1.sg c hc (by simpa using (nrow _ hg).1)
  refine wpS_seq M ?_
  refine wpS_region M ?_
  simp only [List.size_toArray, List.length_cons, List.length_nil, Nat.reduceAdd, Nat.zero_add, List.range, List.range.loop]
  refine opsS_ld M (j := 0) hbx1 (by first | rfl | simp | assumption) rfl (by rfl) hns (fun w hcell e he => by simp [go_sem, hcell] at he; exact ⟨_, he⟩) (fun w hcell K hK => ?_)
  go_simp
  refine hK _ ?_
  clear hK K hcell w
  try walk_nrm
  (refine opsS_look M rfl (by rfl) (fun w => by first | (simp [go_sem]; done) | fail) (fun w hs K hK => ?_); go_simp; refine hK _ ?_; clear hK K hs w; (try walk_nrm))
  refine opsS_new M (.cells #[.int .i64 n] 3) rfl (by rfl) (fun w hs => by simp [go_sem]) (fun w hs K hK => ?_)
  go_simp
  refine hK _ fun t2 k2 hN f2 g2 => ?_
  clear hK K
  generalize w.heap.size = N at *
  clear hs w
  try walk_nrm
  have hns2 : ¬ wstrict t2.x := by rw [k2.x]; exact hns
  replace hns := hns2
  have hout2 : OwnRow t2.sg (.slice ga n0 gc) wl := hout1.keep fun c hc _ => k2.all hc
  refine opsS_append M (L := wl) (news := [n]) hout2 (row1 hN) (by have := hdom.2.2; have := hn0.out; simp; omega) rfl (by rfl) hns rfl rfl rfl fun v4 t4 k4 hrow4 => ?_
  obtain ⟨gb, gd, rfl⟩ := hrow4.slice
  generalize hn1 : (wl ++ [n]).length = n1 at *
  replace hn1 := Hid.mk hn1
  try walk_nrm
  have hbx4 := k4.sg _ (k2.all hbx1) fun g hg => (nrow g hg).2.1.symm
  have hd4 := k4.sg _ (k2.all hd1) fun g hg => (nrow g hg).2.2.symm
  have hlk4 := k4.sg _ (k2.all hlk1) fun g hg => (nrow g hg).1.symm
  have hns4 : ¬ wstrict t4.x := by rw [k4.x]; exact hns
  replace hns := hns4
  refine opsS_st M (j := 0) (.slice gb n1 gd) hbx4 (by first | rfl | simp | assumption) rfl (by rfl) hns (fun w hcell hfr e he => by simp [go_sem, hcell, hfr, ev_bool, ev_slice, ev_ptr, ev_int, ev_chan, storedEv] at he; exact ⟨_, _, _, he⟩) (fun w hcell hfr K hK => ?_)
  go_simp
  refine hK _ fun t5 k5 hbx5 => ?_
  clear hK K hcell hfr w
  try walk_nrm
  refine opsS_nil M ?_
  try simp only [thenS, inBlockS]
  simp only [List.setIfInBounds_toArray, List.set_cons_zero] at hbx5
  have hlk5 := k5.sg _ hlk4 (by simpa using nb.symm)
  have hd5 := k5.sg _ hd4 (by simpa using ndb)
  have nb4 : ∀ g, (Value.slice gb n1 gd).ownBlock = some g → g ≠ bx ∧ g ≠ lk := fun g hg => (k4.new g hg).elim (fun h => ⟨(nrow g h).2.1, (nrow g h).1⟩) fun h => ⟨(h.1 _ (k2.all hbx1)).symm, (h.1 _ (k2.all hlk1)).symm⟩
  have hrow5 : OwnRow t5.sg (.slice gb n1 gd) (wl ++ [n]) := hrow4.keep fun c hc hg => k5.sg c hc (by simpa using (nb4 _ hg).1)
  have hns5 : ¬ wstrict t5.x := by rw [k5.x]; exact hns
  replace hns := hns5
  obtain ⟨hn0', hnL, -⟩ := hdom
  obtain ⟨k, rfl⟩ := Int.eq_ofNat_of_zero_le hn0'
  simp only [Int.toNat_natCast] at hnL
  obtain ⟨l, hli⟩ : ∃ l, LL[k]? = some l := ⟨LL[k], List.getElem?_eq_getElem hnL⟩
  obtain ⟨v, hv, hxv⟩ := h2 k l hli
  obtain ⟨b, o, rfl, hrd⟩ := (hrow.row.mono (s' := t5.sg) (by simp)).get k v hv
  have hxv6 : ∀ t' : Tau WX, RowAt B t'.sg v (l.map iv) := fun t' => hxv.row.mono (by simp)
  have hgd : LL.getD k [] = l := by rw [List.getD_eq_getElem?_getD, hli]; rfl
  obtain ⟨la, lc, rfl, -⟩ := hxv
  generalize (l.map iv).length = ln at *
  refine wpS_seq M ?_
  refine wpS_region M ?_
  simp only [List.size_toArray, List.length_cons, List.length_nil, Nat.reduceAdd, Nat.zero_add, List.range, List.range.loop]
  refine opsS_ld M (j := 0) hd5 (by first | rfl | simp | assumption) rfl (by rfl) hns (fun w hcell e he => by simp [go_sem, hcell] at he; exact ⟨_, he⟩) (fun w hcell K hK => ?_)
  go_simp
  refine hK _ ?_
  clear hK K hcell w
  try walk_nrm
  (refine opsS_look M rfl (by rfl) (fun w => by first | (simp [go_sem]; done) | fail) (fun w hs K hK => ?_); go_simp; refine hK _ ?_; clear hK K hs w; (try walk_nrm))
  (refine opsS_look M rfl (by rfl) (fun w => by first | (simp [go_sem, hnL]; done) | fail) (fun w hs K hK => ?_); go_simp; refine hK _ ?_; clear hK K hs w; (try walk_nrm))
  refine opsS_ldR M hrd rfl (by rfl) hns (fun w hcell e he => by simp [go_sem, hcell] at he; exact ⟨_, he⟩) (fun w hcell K hK => ?_)
  go_simp
  refine hK _ ?_
  clear hK K hcell w
  try walk_nrm
  (refine opsS_look M rfl (by rfl) (fun w => by first | (simp [go_sem]; done) | fail) (fun w hs K hK => ?_); go_simp; refine hK _ ?_; clear hK K hs w; (try walk_nrm))
  refine opsS_nil M ?_
  try simp only [thenS, inBlockS]
  refine wpS_ret M ?_
  refine leaveS_deferv M (by rfl) Try.func20 (by rfl) (by rfl) (dunlock_any M hns hlk5 rfl) fun t6 h6 => ?_
  obtain ⟨k6, hlk6⟩ := h6
  simp only [List.setIfInBounds_toArray, List.set_cons_zero] at hlk6
  have hnew : ∀ c ∈ t.sg, c.own = false → c ∈ t6.sg := fun c hc ho => by
    obtain ⟨e1, e2, e3⟩ := nown c hc ho
    exact k6.sg _ (k5.sg _ (k4.sg _ (k2.all (k1.sg _ hc (by simpa using e1))) e3) (by simpa using e2)) (by simpa using e1)
  refine leaveS_done M rfl Try.func18 (resultsC_tmp (by rfl) _) ?_
  simp only [Array.getD_eq_getD_getElem?, List.getElem?_toArray, List.getElem?_cons_succ, List.getElem?_cons_zero, Option.getD_some, Int.toNat_natCast]
  rw [hgd]
  exact ⟨hxv6 t6, ⟨hlk6, ⟨_, k6.sg _ hbx5 (by simpa using nb), hn1.out ▸ (hrow5.keep fun c hc hg => k6.sg c hc (by simpa using (nb4 _ hg).2))⟩, k6.sg _ hd5 (by simpa using nd)⟩, hnew, by rw [k6.d, k5.d, k4.d, k2.d, k1.d], by rw [k6.x, k5.x, k4.x, k2.x, k1.x]⟩
end

end Go.Proofs.Ytdmhgajamepgoaa.Q
