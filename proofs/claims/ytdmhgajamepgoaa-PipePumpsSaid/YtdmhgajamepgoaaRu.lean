/-
  OWN TEXT. PIPE: speaks: the example of the document.
-/
import Derived.Test.YtdmhgajamepgoaaRt
import Derived.Test.YtdmhgajamepgoaaRp
set_option linter.unusedVariables false
set_option linter.unusedSimpArgs false
set_option linter.unusedSectionVars false
namespace Go.Proofs.Ytdmhgajamepgoaa.Q
open Go Go.Conc

set_option maxRecDepth 100000 in
set_option maxHeartbeats 2000000 in
theorem speaks_any {B : World} {Post : Value → World → Prop} {t : Tau CX} (hx : t.x = .alone) (hd : t.d = 0) : CallsS (CMv Try.prog B Post) Try.prog 7 #[] t fun v t' => v = .bool true ∧ Keep [] t t' := by
  have M := cmoves Try.prog B Post
  have hns : ∀ x : CX, ¬ cstrict x := fun x h => h
  refine callsS_of M Try.func7 (by rfl) ?_
  simp only [Try.ntmps7, List.size_toArray, List.length_cons, List.length_nil, Nat.reduceAdd, Nat.reduceSub, Array.replicate_succ, Array.replicate_zero, List.push_toArray, List.append_toArray, List.nil_append, List.cons_append]
  refine wpS_facts M fun w0 hs0 => ?_
  have hnd0 := hs0.nodup
  clear hs0 w0
  refine wpS_seq M ?_
  refine wpS_region M ?_
  simp only [List.size_toArray, List.length_cons, List.length_nil, Nat.reduceAdd, Nat.zero_add, List.range, List.range.loop]
  (refine opsS_look M rfl (by rfl) (fun w => by first | (simp [go_sem]; done) | fail) (fun w hs K hK => ?_); go_simp; refine hK _ ?_; clear hK K hs w; (try walk_nrm))
  refine opsS_nil M ?_
  try simp only [thenS, inBlockS]
  refine wpS_seq M ?_
  refine wpS_region M ?_
  simp only [List.size_toArray, List.length_cons, List.length_nil, Nat.reduceAdd, Nat.zero_add, List.range, List.range.loop]
  refine opsS_callv M rfl (by rfl) rfl Try.func8 (by rfl) (by rfl) (new_any M 1 (by omega) (by omega) t) (by walk_nrm; rfl) ?_
  rintro v t1 ⟨q, c, rfl, k1, hQ, f1, g1, g2⟩
  try walk_nrm
  (refine opsS_look M rfl (by rfl) (fun w => by first | (simp [go_sem]; done) | fail) (fun w hs K hK => ?_); go_simp; refine hK _ ?_; clear hK K hs w; (try walk_nrm))
  (refine opsS_look M rfl (by rfl) (fun w => by first | (simp [go_sem]; done) | fail) (fun w hs K hK => ?_); go_simp; refine hK _ ?_; clear hK K hs w; (try walk_nrm))
  (refine opsS_look M rfl (by rfl) (fun w => by first | (simp [go_sem]; done) | fail) (fun w hs K hK => ?_); go_simp; refine hK _ ?_; clear hK K hs w; (try walk_nrm))
  (refine opsS_look M rfl (by rfl) (fun w => by first | (simp [go_sem]; done) | fail) (fun w hs K hK => ?_); go_simp; refine hK _ ?_; clear hK K hs w; (try walk_nrm))
  (refine opsS_look M rfl (by rfl) (fun w => by first | (simp [go_sem]; done) | fail) (fun w hs K hK => ?_); go_simp; refine hK _ ?_; clear hK K hs w; (try walk_nrm))
  refine opsS_nil M ?_
  try simp only [thenS, inBlockS]
  refine wpS_seq M ?_
  refine wpS_seq M ?_
  refine wpS_region M ?_
  simp only [List.size_toArray, List.length_cons, List.length_nil, Nat.reduceAdd, Nat.zero_add, List.range, List.range.loop]
  (refine opsS_look M rfl (by rfl) (fun w => by first | (simp [go_sem]; done) | fail) (fun w hs K hK => ?_); go_simp; refine hK _ ?_; clear hK K hs w; (try walk_nrm))
  refine opsS_look M rfl (by rfl) (fun w => by simp [go_sem, ptr_eqlE, ptr_eql0E]) (fun w hs K hK => ?_)
  have hpe := fun a => ptr_eql a w
  have hpn := ptr_eql0 w
  go_simp
  refine hK _ ?_
  clear hpe hpn hK K hs w
  try walk_nrm
  repeat (first | (refine opsS_look M rfl (by rfl) (fun w => by first | (simp [go_sem]; done) | fail) (fun w hs K hK => ?_); go_simp; refine hK _ ?_; clear hK K hs w; (try walk_nrm)) | (refine opsS_unwanted M rfl (by rfl) ?_; (try walk_nrm)))
  refine opsS_nil M ?_
  try simp only [thenS, inBlockS]
  refine wpS_cond M (v := false) (by rfl) ?_
  simp only [if_true, if_false, Bool.false_eq_true]
  refine wpS_skip M ?_
  try simp only [thenS, inBlockS]
  refine wpS_seq M ?_
  refine wpS_region M ?_
  simp only [List.size_toArray, List.length_cons, List.length_nil, Nat.reduceAdd, Nat.zero_add, List.range, List.range.loop]
  (refine opsS_look M rfl (by rfl) (fun w => by first | (simp [go_sem]; done) | fail) (fun w hs K hK => ?_); go_simp; refine hK _ ?_; clear hK K hs w; (try walk_nrm))
  refine opsS_callv M rfl (by rfl) rfl Try.func10 (by rfl) (by rfl) (put_any M (hns _) hQ 7) (by walk_nrm) ?_
  rintro v t2 ⟨rfl, hQ2, k2⟩
  try walk_nrm
  (refine opsS_look M rfl (by rfl) (fun w => by first | (simp [go_sem]; done) | fail) (fun w hs K hK => ?_); go_simp; refine hK _ ?_; clear hK K hs w; (try walk_nrm))
  refine opsS_callv M rfl (by rfl) rfl Try.func10 (by rfl) (by rfl) (put_any M (hns _) hQ2 8) (by walk_nrm) ?_
  rintro v t3 ⟨rfl, hQ3, k3⟩
  simp only [putV, putL, List.length_nil, List.nil_append, List.length_cons, Nat.zero_add, Nat.zero_lt_one, Nat.lt_irrefl, if_true, if_false, Bool.false_eq_true] at hQ3 ⊢
  try walk_nrm
  (refine opsS_look M rfl (by rfl) (fun w => by first | (simp [go_sem]; done) | fail) (fun w hs K hK => ?_); go_simp; refine hK _ ?_; clear hK K hs w; (try walk_nrm))
  (refine opsS_look M rfl (by rfl) (fun w => by first | (simp [go_sem]; done) | fail) (fun w hs K hK => ?_); go_simp; refine hK _ ?_; clear hK K hs w; (try walk_nrm))
  refine opsS_nil M ?_
  try simp only [thenS, inBlockS]
  refine wpS_seq M ?_
  refine wpS_region M ?_
  simp only [List.size_toArray, List.length_cons, List.length_nil, Nat.reduceAdd, Nat.zero_add, List.range, List.range.loop]
  (refine opsS_look M rfl (by rfl) (fun w => by first | (simp [go_sem]; done) | fail) (fun w hs K hK => ?_); go_simp; refine hK _ ?_; clear hK K hs w; (try walk_nrm))
  refine opsS_callv M rfl (by rfl) rfl Try.func13 (by rfl) (by rfl) (take_any M (hns _) hQ3) (by walk_nrm) ?_
  rintro v t4 ⟨rfl, hQ4, k4⟩
  simp only [takeV, List.tail_cons] at hQ4 ⊢
  try walk_nrm
  (refine opsS_look M rfl (by rfl) (fun w => by first | (simp [go_sem]; done) | fail) (fun w hs K hK => ?_); go_simp; refine hK _ ?_; clear hK K hs w; (try walk_nrm))
  (refine opsS_look M rfl (by rfl) (fun w => by first | (simp [go_sem]; done) | fail) (fun w hs K hK => ?_); go_simp; refine hK _ ?_; clear hK K hs w; (try walk_nrm))
  (refine opsS_look M rfl (by rfl) (fun w => by first | (simp [go_sem]; done) | fail) (fun w hs K hK => ?_); go_simp; refine hK _ ?_; clear hK K hs w; (try walk_nrm))
  (refine opsS_look M rfl (by rfl) (fun w => by first | (simp [go_sem]; done) | fail) (fun w hs K hK => ?_); go_simp; refine hK _ ?_; clear hK K hs w; (try walk_nrm))
  (refine opsS_look M rfl (by rfl) (fun w => by first | (simp [go_sem]; done) | fail) (fun w hs K hK => ?_); go_simp; refine hK _ ?_; clear hK K hs w; (try walk_nrm))
  refine opsS_nil M ?_
  try simp only [thenS, inBlockS]
  refine wpS_seq M ?_
  refine wpS_region M ?_
  simp only [List.size_toArray, List.length_cons, List.length_nil, Nat.reduceAdd, Nat.zero_add, List.range, List.range.loop]
  (refine opsS_look M rfl (by rfl) (fun w => by first | (simp [go_sem]; done) | fail) (fun w hs K hK => ?_); go_simp; refine hK _ ?_; clear hK K hs w; (try walk_nrm))
  refine opsS_callv M rfl (by rfl) rfl Try.func13 (by rfl) (by rfl) (take_any M (hns _) hQ4) (by walk_nrm) ?_
  rintro v t5 ⟨rfl, hQ5, k5⟩
  simp only [takeV, List.tail_nil] at hQ5 ⊢
  try walk_nrm
  (refine opsS_look M rfl (by rfl) (fun w => by first | (simp [go_sem]; done) | fail) (fun w hs K hK => ?_); go_simp; refine hK _ ?_; clear hK K hs w; (try walk_nrm))
  (refine opsS_look M rfl (by rfl) (fun w => by first | (simp [go_sem]; done) | fail) (fun w hs K hK => ?_); go_simp; refine hK _ ?_; clear hK K hs w; (try walk_nrm))
  (refine opsS_look M rfl (by rfl) (fun w => by first | (simp [go_sem]; done) | fail) (fun w hs K hK => ?_); go_simp; refine hK _ ?_; clear hK K hs w; (try walk_nrm))
  (refine opsS_look M rfl (by rfl) (fun w => by first | (simp [go_sem]; done) | fail) (fun w hs K hK => ?_); go_simp; refine hK _ ?_; clear hK K hs w; (try walk_nrm))
  (refine opsS_look M rfl (by rfl) (fun w => by first | (simp [go_sem]; done) | fail) (fun w hs K hK => ?_); go_simp; refine hK _ ?_; clear hK K hs w; (try walk_nrm))
  refine opsS_nil M ?_
  try simp only [thenS, inBlockS]
  have ht5 : ∀ ch ∈ t.sg, ch ∈ t5.sg := fun ch hc => k5.sg _ (k4.sg _ (k3.sg _ (k2.sg _ (k1.all hc) (by simp [f1 ch hc])) (by simp [f1 ch hc])) (by simp [f1 ch hc])) (by simp [f1 ch hc])
  have hx5 : t5.x = .alone := by rw [k5.x, k4.x, k3.x, k2.x, k1.x, hx]
  have hd5 : t5.d = 0 := by rw [k5.d, k4.d, k3.d, k2.d, k1.d, hd]
  clear hQ hQ2 hQ3 hQ4 hQ5
  refine wpS_seq M ?_
  refine wpS_region M ?_
  simp only [List.size_toArray, List.length_cons, List.length_nil, Nat.reduceAdd, Nat.zero_add, List.range, List.range.loop]
  refine opsS_new M (.cells #[.int .i64 1, .int .i64 2] 3) rfl (by rfl) (fun w hs => by simp [go_sem]) (fun w hs K hK => ?_)
  go_simp
  refine hK _ fun t6 k6 hN f6 g6 => ?_
  clear hK K
  generalize w.heap.size = N at *
  clear hs w
  try walk_nrm
  have hnd6 : ((t.sg ++ ([] ++ [(⟨N, .cells #[.int .i64 1, .int .i64 2] 3, false⟩ : Chunk)])).map Chunk.b).Nodup := by
    rw [List.map_append, List.nodup_append]
    refine ⟨hnd0, by simp, fun a ha b hb e => ?_⟩
    obtain ⟨ch, hc, rfl⟩ := List.mem_map.1 ha
    simp at hb
    exact f6 ch (ht5 ch hc) (e.trans hb)
  refine opsS_callv M rfl (by rfl) rfl Try.func15 (by rfl) (by rfl) (pump_any (Post := Post) (cbS (B := B)) (σ₀ := ()) (L := [1, 2]) (by simp [DomAll]) (by simp) (by simp [allOut]) (by rw [k6.x, hx5]) (by rw [k6.d, hd5])
    (ra := some ⟨N, 0, none⟩) (rl := 2) (rc := 2) (W := []) (RW := [⟨N, .cells #[.int .i64 1, .int .i64 2] 3, false⟩]) (FR := t.sg) (fun c hc => k6.all (ht5 c hc)) (by simp) (fun c hc => by simp at hc; subst hc; exact ⟨rfl, _, hN, rfl, rfl⟩) hnd6 trivial
    ⟨_, _, rfl, fun j u hj => ⟨N, 0, rfl, .inl ⟨_, 3, List.mem_cons_self .., by simpa [iv] using hj⟩⟩⟩ 1 3 (by omega) (by omega) (by omega)) (by walk_nrm; rfl) ?_
  rintro v t7 ⟨gv, rfl, hrow7, hx7, hd7, s, sw, _, _, _, hfr⟩
  obtain ⟨ga, gc, rfl⟩ := hrow7.slice
  simp only [allOut, List.append_nil, List.cons_append, List.nil_append, List.take_succ_cons, List.take_zero, List.length_cons, List.length_nil, Nat.zero_add, Nat.reduceAdd] at hrow7 ⊢
  try walk_nrm
  (refine opsS_look M rfl (by rfl) (fun w => by first | (simp [go_sem]; done) | fail) (fun w hs K hK => ?_); go_simp; refine hK _ ?_; clear hK K hs w; (try walk_nrm))
  (refine opsS_look M rfl (by rfl) (fun w => by first | (simp [go_sem]; done) | fail) (fun w hs K hK => ?_); go_simp; refine hK _ ?_; clear hK K hs w; (try walk_nrm))
  (refine opsS_look M rfl (by rfl) (fun w => by first | (simp [go_sem]; done) | fail) (fun w hs K hK => ?_); go_simp; refine hK _ ?_; clear hK K hs w; (try walk_nrm))
  (refine opsS_look M rfl (by rfl) (fun w => by first | (simp [go_sem]; done) | fail) (fun w hs K hK => ?_); go_simp; refine hK _ ?_; clear hK K hs w; (try walk_nrm))
  (refine opsS_look M rfl (by rfl) (fun w => by first | (simp [go_sem]; done) | fail) (fun w hs K hK => ?_); go_simp; refine hK _ ?_; clear hK K hs w; (try walk_nrm))
  refine opsS_nil M ?_
  try simp only [thenS, inBlockS]
  refine wpS_seq M ?_
  refine wpS_region M ?_
  simp only [List.size_toArray, List.length_cons, List.length_nil, Nat.reduceAdd, Nat.zero_add, List.range, List.range.loop]
  repeat (first | (refine opsS_look M rfl (by rfl) (fun w => by first | (simp [go_sem]; done) | fail) (fun w hs K hK => ?_); go_simp; refine hK _ ?_; clear hK K hs w; (try walk_nrm)) | (refine opsS_unwanted M rfl (by rfl) ?_; (try walk_nrm)))
  refine opsS_new M (.cells #[.int .i64 1, .int .i64 1, .int .i64 2] 3) rfl (by rfl) (fun w hs => by simp [go_sem]) (fun w hs K hK => ?_)
  go_simp
  refine hK _ fun t8 k8 hN8 f8 g8 => ?_
  clear hK K
  generalize w.heap.size = N8 at *
  clear hs w
  try walk_nrm
  refine opsS_callv M rfl (by rfl) rfl Try.func17 (by rfl) (by rfl) (same_any M (t := t8) (La := [1, 1, 2]) (Lb := [1, 1, 2]) (hns _) (hrow7.row.mono fun c hc => k8.all hc)
    ⟨some ⟨N8, 0, none⟩, 3, rfl, fun j u hj => ⟨N8, 0, rfl, .inl ⟨_, 3, true, hN8, by simpa [iv] using hj⟩⟩⟩ (by simp) (by simp)) (by (try walk_nrm) <;> rfl) ?_
  rintro v t9 ⟨rfl, rfl⟩
  simp only [decide_true]
  try walk_nrm
  repeat (first | (refine opsS_look M rfl (by rfl) (fun w => by first | (simp [go_sem]; done) | fail) (fun w hs K hK => ?_); go_simp; refine hK _ ?_; clear hK K hs w; (try walk_nrm)) | (refine opsS_unwanted M rfl (by rfl) ?_; (try walk_nrm)))
  refine opsS_nil M ?_
  try simp only [thenS, inBlockS]
  refine wpS_ret M ?_
  exact leaveS_done M rfl Try.func7 (resultsC_tmp (by rfl) _) ⟨rfl, fun c hc _ => k8.all (hfr c hc), by rw [k8.d, hd7, hd], by rw [k8.x, hx7, hx]⟩

end Go.Proofs.Ytdmhgajamepgoaa.Q
