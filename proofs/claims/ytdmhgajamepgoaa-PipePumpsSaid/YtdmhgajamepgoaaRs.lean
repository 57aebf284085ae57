/-
  OWN TEXT. PIPE: PUMP, WHOLE.
-/
import Derived.Test.YtdmhgajamepgoaaRr
set_option linter.unusedVariables false
set_option linter.unusedSimpArgs false
set_option linter.unusedSectionVars false
namespace Go.Proofs.Ytdmhgajamepgoaa.Q
open Go Go.Conc

theorem row1 {B : World} {s : List Chunk} {N : Nat} {y : Int} {own : Bool} (h : (⟨N, .cells #[.int .i64 y] 3, own⟩ : Chunk) ∈ s) : RowAt B s (.slice (some ⟨N, 0, none⟩) 1 1) ([y].map iv) :=
  ⟨some ⟨N, 0, none⟩, 1, rfl, fun j u hj => ⟨N, 0, rfl, .inl ⟨_, _, _, h, by
    cases j with
    | zero => simpa [iv] using hj
    | succ j => simp at hj⟩⟩⟩
theorem OwnRow.slice {s : List Chunk} {v : Value} {L : List Int} (h : OwnRow s v L) : ∃ ga gc, v = .slice ga L.length gc := by
  rcases h with ⟨rfl, rfl⟩ | ⟨g, C, rfl, _⟩
  · exact ⟨none, 0, rfl⟩
  · exact ⟨_, _, rfl⟩
theorem take_push {A : List Int} {r : Nat} {y : Int} (h : A[r]? = some y) : A.take r ++ [y] = A.take (r + 1) := by rw [List.take_add_one, h]; rfl

set_option maxRecDepth 100000 in
set_option maxHeartbeats 4000000 in
theorem pump_any {B : World} {Post : Value → World → Prop} {F : FuncId} {caps : Array Value} {S : Type} {I : S → List Chunk → Prop} {out : S → Int → List Int} {nx : S → Int → S} {Dom : S → Int → Prop} (hcb : Cb B F caps I out nx Dom)
    {σ₀ : S} {L : List Int} (hdom : DomAll nx Dom σ₀ L) (hlen : L.length < 9223372036854775807) (hlen2 : (allOut out nx σ₀ L).length ≤ 1000000000000)
    {t : Tau CX} (hx : t.x = .alone) (hd : t.d = 0) {ra : Option Addr} {rl rc : Nat} {W RW FR : List Chunk} (hFR : ∀ c ∈ FR, c ∈ t.sg) (hW : ∀ c ∈ W, c ∈ t.sg) (hRW : ∀ c ∈ RW, c.own = false ∧ ∃ c' ∈ t.sg, c'.b = c.b ∧ c'.o = c.o) (hnd : ((FR ++ (W ++ RW)).map Chunk.b).Nodup)
    (hI : I σ₀ W) (hrow : RowS B RW (.slice ra rl rc) (L.map iv)) (room most : Nat) (hr1 : 1 ≤ room) (hr2 : room ≤ 65536) (hm : most ≤ 1073741824) :
    CallsS (CMv Try.prog B Post) Try.prog 15 #[.slice ra rl rc, .func (.func F) #[] caps, .int .i64 room, .int .i64 most] t fun v t' =>
      ∃ gv, v = .tuple #[gv, .int .i64 0] ∧ OwnRow t'.sg gv ((allOut out nx σ₀ L).take most) ∧ t'.x = .alone ∧ t'.d = 0 ∧
        ∃ s sw, ((allOut out nx σ₀ L).take most).length ≤ s ∧ FinOf I out nx σ₀ L (decide ((allOut out nx σ₀ L).length < most)) s sw ∧ (∀ c ∈ sw, c ∈ t'.sg ∧ c.own = true) ∧ ∀ c ∈ FR, c ∈ t'.sg := by
  have M := cmoves Try.prog B Post
  have hns : ∀ x : CX, ¬ cstrict x := fun x h => h
  refine callsS_of M Try.func15 (by rfl) ?_
  simp only [Try.ntmps15, List.size_toArray, List.length_cons, List.length_nil, Nat.reduceAdd, Nat.reduceSub, Array.replicate_succ, Array.replicate_zero, List.push_toArray, List.append_toArray, List.nil_append, List.cons_append]
  refine wpS_seq M ?_
  refine wpS_region M ?_
  simp only [List.size_toArray, List.length_cons, List.length_nil, Nat.reduceAdd, Nat.zero_add, List.range, List.range.loop]
  refine opsS_new M (.cells #[.slice ra rl rc] 28) rfl (by rfl) (fun w hs => by simp [go_sem]) (fun w hs K hK => ?_)
  go_simp
  refine hK _ fun t1 k1 h4 f4 g4 => ?_
  clear hK K
  generalize w.heap.size = b4 at *
  clear hs w
  try walk_nrm
  refine opsS_new M (.cells #[.func (.func F) #[] caps] 42) rfl (by rfl) (fun w hs => by simp [go_sem]) (fun w hs K hK => ?_)
  go_simp
  refine hK _ fun t2 k2 h5 f5 g5 => ?_
  clear hK K
  generalize w.heap.size = b5 at *
  clear hs w
  try walk_nrm
  (refine opsS_look M rfl (by rfl) (fun w => by first | (simp [go_sem]; done) | fail) (fun w hs K hK => ?_); go_simp; refine hK _ ?_; clear hK K hs w; (try walk_nrm))
  (refine opsS_look M rfl (by rfl) (fun w => by first | (simp [go_sem]; done) | fail) (fun w hs K hK => ?_); go_simp; refine hK _ ?_; clear hK K hs w; (try walk_nrm))
  refine opsS_nil M ?_
  try simp only [thenS, inBlockS]
  refine wpS_seq M ?_
  refine wpS_seq M ?_
  refine wpS_region M ?_
  simp only [List.size_toArray, List.length_cons, List.length_nil, Nat.reduceAdd, Nat.zero_add, List.range, List.range.loop]
  have c1 : ¬ (room : Int) < 1 := by omega
  have c2 : ¬ (65536 : Int) < (room : Int) := by omega
  have c3 : ¬ (most : Int) < 0 := by omega
  have c4 : ¬ (1073741824 : Int) < (most : Int) := by omega
  repeat (first | (refine opsS_look M rfl (by rfl) (fun w => by first | (simp [go_sem]; done) | fail) (fun w hs K hK => ?_); go_simp; refine hK _ ?_; clear hK K hs w; (try walk_nrm)) | (refine opsS_unwanted M rfl (by rfl) ?_; (try walk_nrm)))
  refine opsS_nil M ?_
  try simp only [thenS, inBlockS]
  refine wpS_cond M (v := false) (by rfl) ?_
  simp only [if_true, if_false, Bool.false_eq_true]
  refine wpS_skip M ?_
  try simp only [thenS, inBlockS]
  clear c1 c2 c3 c4
  refine wpS_seq M ?_
  show wpS _ 15 (seqL (seqR (seqR code15))) _ _ _
  refine wpS_mono (region3 M (hns _) hr2 _ _ _ _ _ _ _ _ _ _ _ _ _ _ _ _ _ _ _ _ _ _ _ _ _ _ _ _ _ _ _ _ _ _ _ _ _ _ _ _ _ _ _ _ _ _ _ []) ?_
  rintro e a t3 ⟨rfl, O, Sx, b10, b11, h3, rfl⟩
  simp only [thenS]
  refine wpS_seq M ?_
  refine wpS_region M ?_
  simp only [List.size_toArray, List.length_cons, List.length_nil, Nat.reduceAdd, Nat.zero_add, List.range, List.range.loop]
  refine opsS_new M (wgO 68 0 0) rfl (by rfl) (fun w hs => by simp [go_sem]) (fun w hs K hK => ?_)
  go_simp
  refine hK _ fun t4 k4 hG f6 g6 => ?_
  clear hK K
  generalize w.heap.size = G at *
  clear hs w
  try walk_nrm
  refine opsS_nil M ?_
  try simp only [thenS, inBlockS]
  refine wpS_seq M ?_
  refine wpS_region M ?_
  simp only [List.size_toArray, List.length_cons, List.length_nil, Nat.reduceAdd, Nat.zero_add, List.range, List.range.loop]
  refine opsS_callv M rfl (by rfl) rfl Try.func24 (by rfl) (by rfl) (add_any M (hns _) hG) (by walk_nrm) ?_
  rintro v5 t5 ⟨k5, hG5⟩
  try walk_nrm
  refine opsS_nil M ?_
  try simp only [thenS, inBlockS]
  -- what stands now
  have m4 : (⟨b4, .cells #[.slice ra rl rc] 28, true⟩ : Chunk) ∈ t4.sg := k4.all (h3.k.all (k2.all h4))
  have m5 : (⟨b5, .cells #[.func (.func F) #[] caps] 42, true⟩ : Chunk) ∈ t4.sg := k4.all (h3.k.all h5)
  have mO := k4.all h3.o
  have mS := k4.all h3.s
  have m10 := k4.all h3.h10
  have m11 := k4.all h3.h11
  have mt : ∀ c ∈ t.sg, c ∈ t4.sg := fun c hc => k4.all (h3.k.all (k2.all (k1.all hc)))
  refine wpS_seq M ?_
  refine wpS_facts M fun w0 hs0 => ?_
  have notG : ∀ b o own, (⟨b, o, own⟩ : Chunk) ∈ t4.sg → b ≠ G → (⟨b, o, own⟩ : Chunk) ∈ t5.sg := fun b o own h hb => k5.sg _ h (by simpa using hb)
  have n4G : b4 ≠ G := f6 _ (h3.k.all (k2.all h4))
  have n5G : b5 ≠ G := f6 _ (h3.k.all h5)
  have nOG : O ≠ G := f6 _ h3.o
  have nSG : Sx ≠ G := f6 _ h3.s
  have n10G : b10 ≠ G := f6 _ h3.h10
  have n11G : b11 ≠ G := f6 _ h3.h11
  replace m4 := notG _ _ _ m4 n4G
  replace m5 := notG _ _ _ m5 n5G
  replace mO := notG _ _ _ mO nOG
  replace mS := notG _ _ _ mS nSG
  replace m10 := notG _ _ _ m10 n10G
  replace m11 := notG _ _ _ m11 n11G
  have frG : ∀ c ∈ t.sg, c.b ≠ G := fun c hc => f6 c (h3.k.all (k2.all (k1.all hc)))
  have frO : ∀ c ∈ t.sg, c.b ≠ O := fun c hc => h3.fo c (k2.all (k1.all hc))
  have frS : ∀ c ∈ t.sg, c.b ≠ Sx := fun c hc => h3.fs c (k2.all (k1.all hc))
  have fr10 : ∀ c ∈ t.sg, c.b ≠ b10 := fun c hc => h3.f10 c (k2.all (k1.all hc))
  have fr11 : ∀ c ∈ t.sg, c.b ≠ b11 := fun c hc => h3.f11 c (k2.all (k1.all hc))
  have fr5 : ∀ c ∈ t.sg, c.b ≠ b5 := fun c hc => f5 c (k1.all hc)
  replace mt : ∀ c ∈ t.sg, c ∈ t5.sg := fun c hc => k5.sg c (mt c hc) (by simpa using frG c hc)
  have n45 := ne_cells hs0 m4 m5 (by decide)
  have n410 := ne_cells hs0 m4 m10 (by decide)
  have n411 := ne_cells hs0 m4 m11 (by decide)
  have n510 := ne_cells hs0 m5 m10 (by decide)
  have n511 := ne_cells hs0 m5 m11 (by decide)
  have n1011 := ne_cells hs0 m10 m11 (by decide)
  have nO4 := chan_ne hs0 m4 mO
  have nO5 := chan_ne hs0 m5 mO
  have nO10 := chan_ne hs0 m10 mO
  have nO11 := chan_ne hs0 m11 mO
  have nS4 := chan_ne hs0 m4 mS
  have nS5 := chan_ne hs0 m5 mS
  have nS10 := chan_ne hs0 m10 mS
  have nS11 := chan_ne hs0 m11 mS
  have nOS : O ≠ Sx := fun e => by
    have := hs0.uniq mO mS e
    injection this with _ h _
    injection h with h
    omega
  have hold : ∀ c ∈ W ++ RW, ∃ c' ∈ t.sg, c'.b = c.b ∧ c'.o = c.o ∧ (c.own = true → c'.own = true) := fun c hc => by
    rcases List.mem_append.1 hc with hc | hc
    · exact ⟨c, hW c hc, rfl, rfl, id⟩
    · obtain ⟨h1, c', h2, h3, h4⟩ := hRW c hc
      exact ⟨c', h2, h3, h4, fun h => by rw [h1] at h; cases h⟩
  have x5 : t5.x = .alone := by rw [k5.x, k4.x, h3.k.x, k2.x, k1.x, hx]
  have d5 : t5.d = 0 := by rw [k5.d, k4.d, h3.k.d, k2.d, k1.d, hd]
  let p : PRec := ⟨O, Sx, G, room, 68, (allOut out nx σ₀ L).map iv, FinOf I out nx σ₀ L (decide ((allOut out nx σ₀ L).length < most)), decide ((allOut out nx σ₀ L).length < most)⟩
  let sc : List Chunk := FR ++ [⟨b10, .cells #[.chan (some O)] 57, false⟩, ⟨b11, .cells #[.chan (some Sx)] 61, false⟩]
  let box : List Chunk := [⟨b4, .cells #[.slice ra rl rc] 28, false⟩, ⟨b5, .cells #[.func (.func F) #[] caps] 42, false⟩, ⟨b10, .cells #[.chan (some O)] 57, false⟩, ⟨b11, .cells #[.chan (some Sx)] 61, false⟩]
  have hsc : ∀ c ∈ sc, c.b ≠ p.O ∧ c.b ≠ p.S ∧ c.b ≠ p.G ∧ ∃ c' ∈ t5.sg, c'.b = c.b ∧ c'.o = c.o ∧ (c.own = true → c'.own = true) := fun c hc => by
    simp only [sc, List.mem_append, List.mem_cons, List.not_mem_nil, or_false] at hc
    rcases hc with hc | rfl | rfl
    · exact ⟨frO c (hFR c hc), frS c (hFR c hc), frG c (hFR c hc), c, mt c (hFR c hc), rfl, rfl, id⟩
    · exact ⟨nO10.symm, nS10.symm, n10G, _, m10, rfl, rfl, fun _ => rfl⟩
    · exact ⟨nO11.symm, nS11.symm, n11G, _, m11, rfl, rfl, fun _ => rfl⟩
  have hbox : ∀ c ∈ box, c.b ≠ p.O ∧ c.b ≠ p.S ∧ c.b ≠ p.G ∧ ∃ c' ∈ t5.sg, c'.b = c.b ∧ c'.o = c.o ∧ (c.own = true → c'.own = true) := fun c hc => by
    simp only [box, List.mem_cons, List.not_mem_nil, or_false] at hc
    rcases hc with rfl | rfl | rfl | rfl
    · exact ⟨nO4.symm, nS4.symm, n4G, _, m4, rfl, rfl, fun _ => rfl⟩
    · exact ⟨nO5.symm, nS5.symm, n5G, _, m5, rfl, rfl, fun _ => rfl⟩
    · exact ⟨nO10.symm, nS10.symm, n10G, _, m10, rfl, rfl, fun _ => rfl⟩
    · exact ⟨nO11.symm, nS11.symm, n11G, _, m11, rfl, rfl, fun _ => rfl⟩
  have hsw : ∀ c ∈ W ++ RW ++ box, c.b ≠ p.O ∧ c.b ≠ p.S ∧ c.b ≠ p.G ∧ ∃ c' ∈ t5.sg, c'.b = c.b ∧ c'.o = c.o ∧ (c.own = true → c'.own = true) := fun c hc => by
    rcases List.mem_append.1 hc with hc | hc
    · obtain ⟨c', h1, h2, h3, h4⟩ := hold c hc
      exact ⟨h2 ▸ frO c' h1, h2 ▸ frS c' h1, h2 ▸ frG c' h1, c', mt c' h1, h2, h3, h4⟩
    · exact hbox c hc
  rw [List.map_append, List.nodup_append] at hnd
  obtain ⟨hndF, hnd, hndx⟩ := hnd
  have hdis : ∀ c ∈ sc, ∀ c' ∈ W ++ RW ++ box, c.b = c'.b → c.own = false ∧ c'.own = false := fun c hc c' hc' e => by
    simp only [sc, List.mem_append, List.mem_cons, List.not_mem_nil, or_false] at hc
    rcases hc with hc | hc
    · exfalso
      rcases List.mem_append.1 hc' with hc' | hc'
      · exact hndx _ (List.mem_map.2 ⟨c, hc, rfl⟩) _ (List.mem_map.2 ⟨c', hc', rfl⟩) e
      · simp only [box, List.mem_cons, List.not_mem_nil, or_false] at hc'
        rcases hc' with rfl | rfl | rfl | rfl
        · exact f4 c (hFR c hc) e
        · exact fr5 c (hFR c hc) e
        · exact fr10 c (hFR c hc) e
        · exact fr11 c (hFR c hc) e
    · rcases List.mem_append.1 hc' with hc' | hc'
      · exfalso
        obtain ⟨c2, h1, h2, _⟩ := hold c' hc'
        rcases hc with rfl | rfl
        · exact fr10 c2 h1 (h2.trans e.symm)
        · exact fr11 c2 h1 (h2.trans e.symm)
      · simp only [box, List.mem_cons, List.not_mem_nil, or_false] at hc'
        rcases hc with rfl | rfl <;> rcases hc' with rfl | rfl | rfl | rfl <;> first | exact ⟨rfl, rfl⟩
  have hnc : (sc.map Chunk.b).Nodup := by
    simp only [sc, List.map_append, List.nodup_append]
    refine ⟨hndF, by simp [n1011], fun a ha b hb e => ?_⟩
    obtain ⟨c, hc, rfl⟩ := List.mem_map.1 ha
    simp only [List.map_cons, List.map_nil, List.mem_cons, List.not_mem_nil, or_false] at hb
    rcases hb with rfl | rfl
    · exact fr10 c (hFR c hc) e
    · exact fr11 c (hFR c hc) e
  have hnw : ((W ++ RW ++ box).map Chunk.b).Nodup := by
    rw [List.map_append, List.nodup_append]
    refine ⟨hnd, by simp [box, n45, n410, n411, n510, n511, n1011], fun a ha b hb e => ?_⟩
    obtain ⟨c, hc, rfl⟩ := List.mem_map.1 ha
    obtain ⟨c', hc', rfl⟩ := List.mem_map.1 hb
    obtain ⟨c2, h1, h2, _⟩ := hold c hc
    simp only [box, List.mem_cons, List.not_mem_nil, or_false] at hc'
    rcases hc' with rfl | rfl | rfl | rfl
    · exact f4 c2 h1 (h2.trans e)
    · exact fr5 c2 h1 (h2.trans e)
    · exact fr10 c2 h1 (h2.trans e)
    · exact fr11 c2 h1 (h2.trans e)
  have hwork : J (WMv Try.prog B) ⟨W ++ RW ++ box, 0, ⟨p, 0, .run false⟩⟩ (born Try.prog { target := .fn (.func 25) #[.pointer (some ⟨G, 0, none⟩), .pointer (some ⟨b4, 0, none⟩), .pointer (some ⟨b5, 0, none⟩), .pointer (some ⟨b10, 0, none⟩), .pointer (some ⟨b11, 0, none⟩)], args := #[] }) :=
    worker_any (p := p) hcb rfl hdom hlen (by omega) (hrow.mono fun c hc _ => by simp [hc]) (hcb.mono _ _ _ (fun c hc _ => by simp [hc]) hI) (b4 := b4) (b5 := b5) (b10 := b10) (b11 := b11) (c4 := 28) (c5 := 42) (c10 := 57) (c11 := 61) (by simp [box]) (by simp [box]) (by simp [box, p]) (by simp [box, p]) (fun s sw h => h)
  refine wpS_region M ?_
  simp only [List.size_toArray, List.length_cons, List.length_nil, Nat.reduceAdd, Nat.zero_add, List.range, List.range.loop]
  refine opsS_pure M (v := .func (.func 25) #[] #[.pointer (some ⟨G, 0, none⟩), .pointer (some ⟨b4, 0, none⟩), .pointer (some ⟨b5, 0, none⟩), .pointer (some ⟨b10, 0, none⟩), .pointer (some ⟨b11, 0, none⟩)]) rfl (by rfl) (fun w => by unfold execOp; simp [Instr.makeFunc, Act.eval]) (fun w => by unfold execOp; simp [Instr.makeFunc]) ?_
  try walk_nrm
  refine opsC_spawn p sc (W ++ RW ++ box) { target := .fn (.func 25) #[.pointer (some ⟨G, 0, none⟩), .pointer (some ⟨b4, 0, none⟩), .pointer (some ⟨b5, 0, none⟩), .pointer (some ⟨b10, 0, none⟩), .pointer (some ⟨b11, 0, none⟩)], args := #[] } x5 d5 rfl (by rfl) (fun w => ?_) (fun w => ?_) rfl mO mS hG5 nOS hr1 hsc hsw hdis hnc hnw hwork ?_
  · go_simp
  · simp [go_sem]
  clear hsw hdis hnc hnw hwork hsc hbox hs0 w0
  try walk_nrm
  refine opsS_nil M ?_
  try simp only [thenS, inBlockS]
  refine wpS_seq M ?_
  refine wpS_region M ?_
  simp only [List.size_toArray, List.length_cons, List.length_nil, Nat.reduceAdd, Nat.zero_add, List.range, List.range.loop]
  (refine opsS_look M rfl (by rfl) (fun w => by first | (simp [go_sem]; done) | fail) (fun w hs K hK => ?_); go_simp; refine hK _ ?_; clear hK K hs w; (try walk_nrm))
  refine opsS_nil M ?_
  try simp only [thenS, inBlockS]
  have hpA : p.All = (allOut out nx σ₀ L).map iv := rfl
  have hpW : p.whole = decide ((allOut out nx σ₀ L).length < most) := rfl
  have hpF : ∀ s sw, p.Fin s sw → FinOf I out nx σ₀ L (decide ((allOut out nx σ₀ L).length < most)) s sw := fun _ _ h => h
  generalize hA : allOut out nx σ₀ L = A at *
  replace hpA := Hid.mk hpA
  replace hpW := Hid.mk hpW
  replace hpF := Hid.mk hpF
  have hscp : ∀ c ∈ sc, c ∈ sc := fun c h => h
  refine wpS_seq M ?_
  refine wpS_mono (Q := fun e a t' => e = .normal ∧ ∃ r ga gc, A.take most = A.take r ∧ r ≤ A.length ∧ OwnRow t'.sg (.slice ga r gc) (A.take r) ∧ (∃ u0 u1 u2 u4 u5 u6 u7 u8 u9 u14 u15 u16 u17 u18 u19 u20 u21 u22 u23 u24 u25 u26 u27 u28 u29 u30 u31 u32 u33 u34 u35 u36 u37 u38 u39 u40 u41 u42 u43 u44 u45 u46 u47 u48 u49 u50 u51 u52, a = ⟨#[u0, u1, u2, .int .i64 most, u4, u5, u6, u7, u8, u9, .pointer (some ⟨b10, 0, none⟩), .pointer (some ⟨b11, 0, none⟩), .pointer (some ⟨G, 0, none⟩), .slice ga r gc, u14, u15, u16, u17, u18, u19, u20, u21, u22, u23, u24, u25, u26, u27, u28, u29, u30, u31, u32, u33, u34, u35, u36, u37, u38, u39, u40, u41, u42, u43, u44, u45, u46, u47, u48, u49, u50, u51, u52], []⟩) ∧ (∃ c0, t'.x = .pump p r c0 ∧ (c0 = .recv ∧ p.whole = false ∨ c0 = .over)) ∧ t'.d = 0 ∧ (∀ c ∈ sc, c ∈ t'.sg)) ?_ ?_
  · refine wpS_block M ?_
    refine wpS_loopN M (I := fun n a t' => ∃ r ga gc, Hid (r + n = most) ∧ Hid (r ≤ A.length) ∧ OwnRow t'.sg (.slice ga r gc) (A.take r) ∧ (∃ u0 u1 u2 u4 u5 u6 u7 u8 u9 u14 u15 u16 u17 u18 u19 u20 u21 u22 u23 u24 u25 u26 u27 u28 u29 u30 u31 u32 u33 u34 u35 u36 u37 u38 u39 u40 u41 u42 u43 u44 u45 u46 u47 u48 u49 u50 u51 u52, a = ⟨#[u0, u1, u2, .int .i64 most, u4, u5, u6, u7, u8, u9, .pointer (some ⟨b10, 0, none⟩), .pointer (some ⟨b11, 0, none⟩), .pointer (some ⟨G, 0, none⟩), .slice ga r gc, u14, u15, u16, u17, u18, u19, u20, u21, u22, u23, u24, u25, u26, u27, u28, u29, u30, u31, u32, u33, u34, u35, u36, u37, u38, u39, u40, u41, u42, u43, u44, u45, u46, u47, u48, u49, u50, u51, u52], []⟩) ∧ t'.x = .pump p r .recv ∧ t'.d = 0 ∧ (∀ c ∈ sc, c ∈ t'.sg) ∧ (∀ c ∈ sc, ∀ g, (Value.slice ga r gc).ownBlock = some g → c.b ≠ g)) most ⟨0, none, 0, ⟨by omega⟩, ⟨by omega⟩, .inl ⟨rfl, by simp⟩, ⟨_, _, _, _, _, _, _, _, _, _, _, _, _, _, _, _, _, _, _, _, _, _, _, _, _, _, _, _, _, _, _, _, _, _, _, _, _, _, _, _, _, _, _, _, _, _, _, _, by rfl⟩, rfl, rfl, hscp, fun c _ g hg => by cases hg⟩ ?_
    rintro n a t' ⟨r, ga, gc, hn, hrA, hrow', ⟨u0, u1, u2, u4, u5, u6, u7, u8, u9, u14, u15, u16, u17, u18, u19, u20, u21, u22, u23, u24, u25, u26, u27, u28, u29, u30, u31, u32, u33, u34, u35, u36, u37, u38, u39, u40, u41, u42, u43, u44, u45, u46, u47, u48, u49, u50, u51, u52, rfl⟩, hx', hd', hsc', hne⟩
    refine wpS_seq M ?_
    refine wpS_seq M ?_
    refine wpS_region M ?_
    simp only [List.size_toArray, List.length_cons, List.length_nil, Nat.reduceAdd, Nat.zero_add, List.range, List.range.loop]
    cases n with
    | zero =>
      have hlt : ¬ ((r : Int) < (most : Int)) := by have := hn.out; omega
      (refine opsS_look M rfl (by rfl) (fun w => by first | (simp [go_sem]; done) | fail) (fun w hs K hK => ?_); go_simp; refine hK _ ?_; clear hK K hs w; (try walk_nrm))
      (refine opsS_look M rfl (by rfl) (fun w => by first | (simp [go_sem]; done) | fail) (fun w hs K hK => ?_); go_simp; refine hK _ ?_; clear hK K hs w; (try walk_nrm))
      (refine opsS_look M rfl (by rfl) (fun w => by first | (simp [go_sem]; done) | fail) (fun w hs K hK => ?_); go_simp; refine hK _ ?_; clear hK K hs w; (try walk_nrm))
      (refine opsS_look M rfl (by rfl) (fun w => by first | (simp [go_sem]; done) | fail) (fun w hs K hK => ?_); go_simp; refine hK _ ?_; clear hK K hs w; (try walk_nrm))
      refine opsS_nil M ?_
      try simp only [thenS, inBlockS]
      refine wpS_cond M (v := false) (by rfl) ?_
      simp only [if_true, if_false, Bool.false_eq_true]
      refine wpS_exit M ?_
      try simp only [thenS, inBlockS, if_true, if_false, eq_self, reduceIte, Nat.reduceEqDiff, OfNat.ofNat_ne_ofNat, OfNat.ofNat_ne_zero, OfNat.zero_ne_ofNat, Nat.zero_ne_one, Nat.one_ne_zero, OfNat.ofNat_ne_one, OfNat.one_ne_ofNat]
      exact ⟨by trivial, r, ga, gc, by rw [show most = r by have := hn.out; omega], hrA.out, hrow', ⟨_, _, _, _, _, _, _, _, _, _, _, _, _, _, _, _, _, _, _, _, _, _, _, _, _, _, _, _, _, _, _, _, _, _, _, _, _, _, _, _, _, _, _, _, _, _, _, _, rfl⟩, ⟨_, hx', .inl ⟨rfl, by rw [hpW.out]; have := hn.out; have := hrA.out; exact decide_eq_false (by omega)⟩⟩, hd', hsc'⟩
    | succ n =>
      have hlt : (r : Int) < (most : Int) := by have := hn.out; omega
      (refine opsS_look M rfl (by rfl) (fun w => by first | (simp [go_sem]; done) | fail) (fun w hs K hK => ?_); go_simp; refine hK _ ?_; clear hK K hs w; (try walk_nrm))
      (refine opsS_look M rfl (by rfl) (fun w => by first | (simp [go_sem]; done) | fail) (fun w hs K hK => ?_); go_simp; refine hK _ ?_; clear hK K hs w; (try walk_nrm))
      (refine opsS_look M rfl (by rfl) (fun w => by first | (simp [go_sem]; done) | fail) (fun w hs K hK => ?_); go_simp; refine hK _ ?_; clear hK K hs w; (try walk_nrm))
      (refine opsS_look M rfl (by rfl) (fun w => by first | (simp [go_sem]; done) | fail) (fun w hs K hK => ?_); go_simp; refine hK _ ?_; clear hK K hs w; (try walk_nrm))
      refine opsS_nil M ?_
      try simp only [thenS, inBlockS]
      refine wpS_cond M (v := true) (by rfl) ?_
      simp only [if_true, if_false, Bool.false_eq_true]
      refine wpS_skip M ?_
      try simp only [thenS, inBlockS]
      refine wpS_block M ?_
      refine wpS_seq M ?_
      refine wpS_region M ?_
      simp only [List.size_toArray, List.length_cons, List.length_nil, Nat.reduceAdd, Nat.zero_add, List.range, List.range.loop]
      have hns : ¬ cstrict t'.x := hns _
      have hc10 : (⟨b10, .cells #[.chan (some O)] 57, false⟩ : Chunk) ∈ t'.sg := hsc' _ (by simp [sc])
      refine opsS_ld M (j := 0) hc10 (by first | rfl | simp | assumption) rfl (by rfl) hns (fun w hcell e he => by simp [go_sem, hcell] at he; exact ⟨_, he⟩) (fun w hcell K hK => ?_)
      go_simp
      refine hK _ ?_
      clear hK K hcell w
      try walk_nrm
      refine opsC_recv (p := p) (r := r) (.int .i64 0) hx' hd' rfl (by rfl) (fun w => ?_) (fun w => ?_) (fun v hv => ?_) (fun hr => ?_)
      · go_simp
        rfl
      · simp [go_sem]
      · obtain ⟨y, hy, rfl⟩ : ∃ y, A[r]? = some y ∧ v = iv y := by
          have hv' := hv
          rw [hpA.out] at hv'
          rw [List.getElem?_map] at hv'
          cases hy : A[r]? with
          | none => rw [hy] at hv'; cases hv'
          | some y => rw [hy] at hv'; exact ⟨y, rfl, (Option.some.inj hv').symm⟩
        simp only [iv]
        try walk_nrm
        (refine opsS_look M rfl (by rfl) (fun w => by first | (simp [go_sem]; done) | fail) (fun w hs K hK => ?_); go_simp; refine hK _ ?_; clear hK K hs w; (try walk_nrm))
        (refine opsS_look M rfl (by rfl) (fun w => by first | (simp [go_sem]; done) | fail) (fun w hs K hK => ?_); go_simp; refine hK _ ?_; clear hK K hs w; (try walk_nrm))
        (refine opsS_look M rfl (by rfl) (fun w => by first | (simp [go_sem]; done) | fail) (fun w hs K hK => ?_); go_simp; refine hK _ ?_; clear hK K hs w; (try walk_nrm))
        (refine opsS_look M rfl (by rfl) (fun w => by first | (simp [go_sem]; done) | fail) (fun w hs K hK => ?_); go_simp; refine hK _ ?_; clear hK K hs w; (try walk_nrm))
        (refine opsS_look M rfl (by rfl) (fun w => by first | (simp [go_sem]; done) | fail) (fun w hs K hK => ?_); go_simp; refine hK _ ?_; clear hK K hs w; (try walk_nrm))
        refine opsS_nil M ?_
        try simp only [thenS, inBlockS]
        refine wpS_seq M ?_
        refine wpS_seq M ?_
        refine wpS_region M ?_
        simp only [List.size_toArray, List.length_cons, List.length_nil, Nat.reduceAdd, Nat.zero_add, List.range, List.range.loop]
        (refine opsS_look M rfl (by rfl) (fun w => by first | (simp [go_sem]; done) | fail) (fun w hs K hK => ?_); go_simp; refine hK _ ?_; clear hK K hs w; (try walk_nrm))
        (refine opsS_look M rfl (by rfl) (fun w => by first | (simp [go_sem]; done) | fail) (fun w hs K hK => ?_); go_simp; refine hK _ ?_; clear hK K hs w; (try walk_nrm))
        refine opsS_nil M ?_
        try simp only [thenS, inBlockS]
        refine wpS_cond M (v := false) (by rfl) ?_
        simp only [if_true, if_false, Bool.false_eq_true]
        refine wpS_skip M ?_
        try simp only [thenS, inBlockS]
        refine wpS_region M ?_
        simp only [List.size_toArray, List.length_cons, List.length_nil, Nat.reduceAdd, Nat.zero_add, List.range, List.range.loop]
        (refine opsS_look M rfl (by rfl) (fun w => by first | (simp [go_sem]; done) | fail) (fun w hs K hK => ?_); go_simp; refine hK _ ?_; clear hK K hs w; (try walk_nrm))
        (refine opsS_look M rfl (by rfl) (fun w => by first | (simp [go_sem]; done) | fail) (fun w hs K hK => ?_); go_simp; refine hK _ ?_; clear hK K hs w; (try walk_nrm))
        refine opsS_new M (.cells #[.int .i64 y] 3) rfl (by rfl) (fun w hs => by simp [go_sem]) (fun w hs K hK => ?_)
        go_simp
        refine hK _ fun t7 k7 hN f7 g7 => ?_
        clear hK K
        generalize w.heap.size = N at *
        clear hs w
        try walk_nrm
        have hrow7 : OwnRow t7.sg (.slice ga r gc) (A.take r) := hrow'.keep fun c hc _ => k7.all hc
        have hsc7 : ∀ c ∈ sc, c ∈ t7.sg := fun c hc => k7.all (hsc' c hc)
        have hlt3 : r < A.length := by
          rcases Nat.lt_or_ge r A.length with h | h
          · exact h
          · rw [List.getElem?_eq_none h] at hy; cases hy
        refine opsS_append M (L := A.take r) (news := [y]) hrow7 (row1 hN) (by simp; omega) rfl (by rfl) (fun h => h) rfl rfl rfl fun v' t8 k8 hrow8 => ?_
        rw [take_push hy] at hrow8
        obtain ⟨ga', gc', rfl⟩ := hrow8.slice
        rw [show (A.take (r + 1)).length = r + 1 by simp; omega] at hrow8 k8 ⊢
        try walk_nrm
        (refine opsS_look M rfl (by rfl) (fun w => by first | (simp [go_sem]; done) | fail) (fun w hs K hK => ?_); go_simp; refine hK _ ?_; clear hK K hs w; (try walk_nrm))
        refine opsS_nil M ?_
        try simp only [thenS, inBlockS]
        refine ⟨n, by omega, r + 1, ga', gc', ⟨by have := hn.out; omega⟩, ⟨by omega⟩, hrow8, ⟨_, _, _, _, _, _, _, _, _, _, _, _, _, _, _, _, _, _, _, _, _, _, _, _, _, _, _, _, _, _, _, _, _, _, _, _, _, _, _, _, _, _, _, _, _, _, _, _, rfl⟩, by rw [k8.x, k7.x], by rw [k8.d, k7.d]; exact hd', fun c hc => k8.sg c (hsc7 c hc) (hne c hc), fun c hc g hg => (k8.new g hg).elim (fun h => hne c hc g h) fun h => h.1 c (hsc7 c hc)⟩
      · replace hr := Hid.mk hr
        try walk_nrm
        (refine opsS_look M rfl (by rfl) (fun w => by first | (simp [go_sem]; done) | fail) (fun w hs K hK => ?_); go_simp; refine hK _ ?_; clear hK K hs w; (try walk_nrm))
        (refine opsS_look M rfl (by rfl) (fun w => by first | (simp [go_sem]; done) | fail) (fun w hs K hK => ?_); go_simp; refine hK _ ?_; clear hK K hs w; (try walk_nrm))
        (refine opsS_look M rfl (by rfl) (fun w => by first | (simp [go_sem]; done) | fail) (fun w hs K hK => ?_); go_simp; refine hK _ ?_; clear hK K hs w; (try walk_nrm))
        (refine opsS_look M rfl (by rfl) (fun w => by first | (simp [go_sem]; done) | fail) (fun w hs K hK => ?_); go_simp; refine hK _ ?_; clear hK K hs w; (try walk_nrm))
        (refine opsS_look M rfl (by rfl) (fun w => by first | (simp [go_sem]; done) | fail) (fun w hs K hK => ?_); go_simp; refine hK _ ?_; clear hK K hs w; (try walk_nrm))
        refine opsS_nil M ?_
        try simp only [thenS, inBlockS]
        refine wpS_seq M ?_
        refine wpS_seq M ?_
        refine wpS_region M ?_
        simp only [List.size_toArray, List.length_cons, List.length_nil, Nat.reduceAdd, Nat.zero_add, List.range, List.range.loop]
        (refine opsS_look M rfl (by rfl) (fun w => by first | (simp [go_sem]; done) | fail) (fun w hs K hK => ?_); go_simp; refine hK _ ?_; clear hK K hs w; (try walk_nrm))
        (refine opsS_look M rfl (by rfl) (fun w => by first | (simp [go_sem]; done) | fail) (fun w hs K hK => ?_); go_simp; refine hK _ ?_; clear hK K hs w; (try walk_nrm))
        refine opsS_nil M ?_
        try simp only [thenS, inBlockS]
        refine wpS_cond M (v := true) (by rfl) ?_
        simp only [if_true, if_false, Bool.false_eq_true]
        refine wpS_exit M ?_
        try simp only [thenS, inBlockS, if_true, if_false, eq_self, reduceIte, Nat.reduceEqDiff, OfNat.ofNat_ne_ofNat, OfNat.ofNat_ne_zero, OfNat.zero_ne_ofNat, Nat.zero_ne_one, Nat.one_ne_zero, OfNat.ofNat_ne_one, OfNat.one_ne_ofNat]
        have hrl : r = A.length := by
          have := hr.out
          rw [hpA.out] at this
          simpa using this
        exact ⟨by trivial, r, ga, gc, by rw [List.take_of_length_le (by omega), List.take_of_length_le (by have := hn.out; omega)], hrA.out, hrow', ⟨_, _, _, _, _, _, _, _, _, _, _, _, _, _, _, _, _, _, _, _, _, _, _, _, _, _, _, _, _, _, _, _, _, _, _, _, _, _, _, _, _, _, _, _, _, _, _, _, rfl⟩, ⟨_, rfl, .inr rfl⟩, hd', hsc'⟩
  · rintro e a t' ⟨rfl, r, ga, gc, htk, hrA, hrow', ⟨u0, u1, u2, u4, u5, u6, u7, u8, u9, u14, u15, u16, u17, u18, u19, u20, u21, u22, u23, u24, u25, u26, u27, u28, u29, u30, u31, u32, u33, u34, u35, u36, u37, u38, u39, u40, u41, u42, u43, u44, u45, u46, u47, u48, u49, u50, u51, u52, rfl⟩, ⟨c0, hx', hc0⟩, hd', hsc'⟩
    simp only [thenS]
    obtain ⟨sg', d', x'⟩ := t'
    simp only at hx' hd' hrow' hsc'
    subst hx' hd'
    refine wpS_seq M ?_
    refine wpS_region M ?_
    simp only [List.size_toArray, List.length_cons, List.length_nil, Nat.reduceAdd, Nat.zero_add, List.range, List.range.loop]
    have hns : ¬ cstrict (.pump p r c0) := hns _
    have hc11 : (⟨b11, .cells #[.chan (some Sx)] 61, false⟩ : Chunk) ∈ sg' := hsc' _ (by simp [sc])
    refine opsS_ld M (j := 0) hc11 (by first | rfl | simp | assumption) rfl (by rfl) hns (fun w hcell e he => by simp [go_sem, hcell] at he; exact ⟨_, he⟩) (fun w hcell K hK => ?_)
    go_simp
    refine hK _ ?_
    clear hK K hcell w
    try walk_nrm
    refine opsC_close (p := p) (r := r) (c := c0) rfl hc0 rfl rfl (by rfl) rfl (by rfl) (by rfl) ?_
    try walk_nrm
    refine opsS_nil M ?_
    try simp only [thenS, inBlockS]
    refine wpS_seq M ?_
    refine wpS_region M ?_
    simp only [List.size_toArray, List.length_cons, List.length_nil, Nat.reduceAdd, Nat.zero_add, List.range, List.range.loop]
    refine opsS_callv M rfl (by rfl) rfl Try.func28 (by rfl) (by rfl) (wait_any (p := p) (r := r) sg') (by walk_nrm; rfl) ?_
    rintro v t9 ⟨s, sw, h1, h2, h3', h4', h5', rfl⟩
    try walk_nrm
    refine opsS_nil M ?_
    try simp only [thenS, inBlockS]
    refine wpS_seq M ?_
    refine wpS_region M ?_
    simp only [List.size_toArray, List.length_cons, List.length_nil, Nat.reduceAdd, Nat.zero_add, List.range, List.range.loop]
    (refine opsS_look M rfl (by rfl) (fun w => by first | (simp [go_sem]; done) | fail) (fun w hs K hK => ?_); go_simp; refine hK _ ?_; clear hK K hs w; (try walk_nrm))
    (refine opsS_look M rfl (by rfl) (fun w => by first | (simp [go_sem]; done) | fail) (fun w hs K hK => ?_); go_simp; refine hK _ ?_; clear hK K hs w; (try walk_nrm))
    (refine opsS_look M rfl (by rfl) (fun w => by first | (simp [go_sem]; done) | fail) (fun w hs K hK => ?_); go_simp; refine hK _ ?_; clear hK K hs w; (try walk_nrm))
    refine opsS_nil M ?_
    try simp only [thenS, inBlockS]
    refine wpS_ret M ?_
    refine leaveS_done M rfl Try.func15 (resultsC_tmp2 (by rfl) _) ⟨_, rfl, ?_, rfl, rfl, s, sw, ?_, hpF.out _ _ h3', fun c hc => ⟨List.mem_append_right _ hc, h5' c hc⟩, fun c hc => List.mem_append_left _ (hsc' c (by simp [sc, hc]))⟩
    · rw [htk]
      exact hrow'.keep fun c hc _ => List.mem_append_left _ hc
    · rw [htk]; simp; omega

end Go.Proofs.Ytdmhgajamepgoaa.Q
