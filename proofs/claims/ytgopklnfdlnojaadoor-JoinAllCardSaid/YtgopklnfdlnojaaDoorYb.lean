/- A joiner beside rows of other things: what was told, packets. -/
import Derived.Test.YtgopklnfdlnojaaDoorNe
import Derived.Test.YtgopklnfdlnojaaDoorXx
namespace Go.Proofs.YtgopklnfdlnojaaDoor.Yb
open Go.RowKit Go.Proofs.YtgopklnfdlnojaaDoor.Ga Go.Proofs.YtgopklnfdlnojaaDoor.My Go.Proofs.YtgopklnfdlnojaaDoor.Gb Go.Proofs.YtgopklnfdlnojaaDoor.Gp Go.Proofs.YtgopklnfdlnojaaDoor.Sb Go.Proofs.YtgopklnfdlnojaaDoor.Ja Go.Proofs.YtgopklnfdlnojaaDoor.Jb Go.Proofs.YtgopklnfdlnojaaDoor.Jc Go.Proofs.YtgopklnfdlnojaaDoor.Jd Go.Proofs.YtgopklnfdlnojaaDoor.Je Go.Proofs.YtgopklnfdlnojaaDoor.Jf Go.Proofs.YtgopklnfdlnojaaDoor.Jg Go.Proofs.YtgopklnfdlnojaaDoor.Jh Go.Proofs.YtgopklnfdlnojaaDoor.Ji Go.Proofs.YtgopklnfdlnojaaDoor.Nb Go.Proofs.YtgopklnfdlnojaaDoor.Nc Go.Proofs.YtgopklnfdlnojaaDoor.Nd Go.Proofs.YtgopklnfdlnojaaDoor.Ne Go.Proofs.YtgopklnfdlnojaaDoorW.PrintWords Go.Proofs.YtgopklnfdlnojaaDoorW.PrintLast Go.Proofs.YtgopklnfdlnojaaDoorW.PrintMore
set_option linter.unusedVariables false
set_option linter.unusedSimpArgs false

/-- Nothing but blocks of type t has turned. -/
def Over (t : Nat) (W W' : World) : Prop := W.heap.size ≤ W'.heap.size ∧ ∀ (k : Nat) (o : Obj), W.heap[k]? = some o → (∀ cs, o ≠ .cells cs t (0, 0)) → W'.heap[k]? = some o
theorem over_grown {t : Nat} {W W' : World} {row : Option Nat} (hg : W.grownBy W' row) (hr : ∀ k, row = some k → ∃ cs, W.heap[k]? = some (Obj.cells cs t (0, 0))) : Over t W W' := by
  refine ⟨hg.size, fun k o ho hn => ?_⟩
  refine (hg.block k (Array.getElem?_eq_some_iff.1 ho).1 (fun e => ?_)).trans ho
  obtain ⟨cs, hc⟩ := hr k e.symm
  rw [ho] at hc
  exact hn cs (by simpa using hc)
theorem over_keeps {t u : Nat} {W W' : World} (h : Over t W W') (hu : u ≠ t) (k : Nat) (cs : Array Value) (hk : W.heap[k]? = some (Obj.cells cs u (0, 0))) : W'.heap[k]? = some (Obj.cells cs u (0, 0)) :=
  h.2 k _ hk (fun cs' e => by cases e; exact hu rfl)
theorem over_kept {t : Nat} {W W' : World} (h : Over t W W') : Kept W W' (fun k => ∃ cs, W.heap[k]? = some (Obj.cells cs t (0, 0))) := by
  refine ⟨h.1, fun k hk hn => ?_⟩
  cases ho : W.heap[k]? with
  | none => rw [Array.getElem?_eq_none_iff] at ho; omega
  | some o => exact h.2 k o ho (fun cs e => hn ⟨cs, by rw [ho, e]⟩)
theorem R_over {α : Type} {d : Kd α} {e base t : Nat} {W W' : World} {v : Value} {xs : List α} (hE : d.E = []) (h : d.R e W base (fun _ => True) v xs) (ho : Over t W W') (ht : e ≠ t) : d.R e W' base (fun _ => True) v xs :=
  R_stay hE h (over_kept ho) (fun k hk ⟨cs, hc⟩ => by
    obtain ⟨cs', hc'⟩ := own_type h k hk
    rw [hc] at hc'
    cases hc'
    exact ht rfl)
theorem Sl_over {t : Nat} {W W' : World} {X : Nat → Prop} {A : Option Addr} {n : Nat} {xs : List Int} (h : Sl W X A n xs) (ho : Over t W W') (ht : t ≠ 5) : Sl W' X A n xs :=
  h.typed ho.1 (fun k cs hk => (over_keeps ho (Ne.symm ht) k cs hk).trans hk.symm) (fun _ _ h => h)

section
variable {W W' : World} {base g bm : Nat} {vl vd : Value} {wv : List (Int × Value)} {J : Jn}
theorem JM_over {t : Nat} (h : JM W base g bm vl vd (.slice none 0 0) wv [] J) (ho : Over t W W') (h1 : t ≠ 102) (h2 : t ≠ 3) (h3 : t ≠ 5) : JM W' base g bm vl vd (.slice none 0 0) wv [] J := by
  have he : J.evs = [] := List.length_eq_zero_iff.1 h.hev.1.symm
  obtain ⟨es, clock, hm⟩ := map_blk h.hmap
  refine ⟨over_keeps ho (Ne.symm h1) _ _ h.hg, h.hgb, h.hbm, R_over rfl h.hlast ho (Ne.symm h2), R_over rfl h.hdata ho (Ne.symm h3), Kd.R_nil _ _ _ _ _, ?_, map_stay h.hmap ((ho.2 bm _ hm (fun cs e => by cases e)).trans hm.symm), h.hwv.imp fun x y ⟨q1, A, c, q2, q3, q4⟩ => ⟨q1, A, c, q2, q3, Sl_over q4 ho h3⟩, h.hsort⟩
  rw [he]
  exact ⟨rfl, fun j x y hx => by simp at hx⟩
/-- A joiner's blocks are of its own types. -/
theorem mut_typed {t : Nat} (h : JM W base g bm vl vd (.slice none 0 0) wv [] J) (h1 : t ≠ 102) (h2 : t ≠ 3) (h3 : t ≠ 5) (k : Nat) (cs : Array Value) (hk : W.heap[k]? = some (Obj.cells cs t (0, 0))) : ¬ Mut g bm vl vd (.slice none 0 0) k := by
  intro hm
  rcases hm with e | e | e | e | e
  · rw [e, h.hg] at hk; cases hk; exact h1 rfl
  · obtain ⟨es, clock, hb⟩ := map_blk h.hmap
    rw [e, hb] at hk; cases hk
  · obtain ⟨cs', hc⟩ := own_type h.hlast k e
    rw [hc] at hk; cases hk; exact h2 rfl
  · obtain ⟨cs', hc⟩ := own_type h.hdata k e
    rw [hc] at hk; cases hk; exact h3 rfl
  · simp [Value.ownBlock] at e
/-- A row of another type stays where a joiner works. -/
theorem R_joiner {α : Type} {d : Kd α} {e b : Nat} {v : Value} {xs : List α} (hE : d.E = []) (hr : d.R e W b (fun _ => True) v xs) (h : JM W base g bm vl vd (.slice none 0 0) wv [] J) (hk : Kept W W' (Mut g bm vl vd (.slice none 0 0))) (h1 : e ≠ 102) (h2 : e ≠ 3) (h3 : e ≠ 5) : d.R e W' b (fun _ => True) v xs :=
  R_stay hE hr hk (fun k hk1 => by
    obtain ⟨cs, hc⟩ := own_type hr k hk1
    exact mut_typed h h1 h2 h3 k cs hc)
end

/-- A packet that came in. -/
def PkOK (W : World) (x : List Int) (r : List Value) : Prop := ∃ A c, r = [.slice A x.length c] ∧ x.length ≤ c ∧ (Kd.int .u8).C W A x.length x
/-- A joiner, what it has told, packets. -/
structure Mem (W wr : World) (base g bm : Nat) (vl vd v14 v15 : Value) (wv : List (Int × Value)) (J : Jn) (pre : List Ev) (Ws : List (List Int)) : Prop where
  jm : JM wr base g bm vl vd (.slice none 0 0) wv [] J
  got : ∃ gr, (rawK 4).R 84 wr base (fun _ => True) v15 gr ∧ All2 (EvOK wr (Mut g bm vl vd (.slice none 0 0))) pre gr
  want : ∃ rr, (rawK 1).R 22 wr base (fun _ => True) v14 rr ∧ All2 (PkOK W) Ws rr
  below : Below W.heap.size W wr
  b0 : W.heap.size ≤ base
  b1 : base ≤ wr.heap.size

section
variable {W wr w' : World} {base g bm : Nat} {vl vd v14 v15 : Value} {wv : List (Int × Value)} {J : Jn} {pre : List Ev} {Ws : List (List Int)}
theorem EvOK.kept {W W' : World} {X X' : Nat → Prop} {x : Ev} {r : List Value} (h : EvOK W X x r) (hk : Kept W W' X) (hx : ∀ k, k < W.heap.size → X' k → X k) : EvOK W' X' x r := by
  obtain ⟨A, c, h1, h2, h3⟩ := h
  exact ⟨A, c, h1, h2, h3.kept hk hx⟩
theorem Mem.step (h : Mem W wr base g bm vl vd v14 v15 wv J pre Ws) (hb : Below wr.heap.size wr w') : Mem W w' base g bm vl vd v14 v15 wv J pre Ws := by
  obtain ⟨gr, g1, g2⟩ := h.got
  obtain ⟨rr, r1, r2⟩ := h.want
  exact ⟨jm_below h.jm hb, ⟨gr, Kd.R_below g1 hb, g2.imp fun x y hxy => EvOK.kept hxy (kept_of_below hb _) (fun _ _ h => h)⟩, ⟨rr, Kd.R_below r1 hb, r2⟩, below_step h.below hb, h.b0, Nat.le_trans h.b1 hb.size⟩
theorem Mem.fed {vd' : Value} {wv' : List (Int × Value)} {J' : Jn} (h : Mem W wr base g bm vl vd v14 v15 wv J pre Ws) (hj : JM w' base g bm vl vd' (.slice none 0 0) wv' [] J') (hk : Kept wr w' (Mut g bm vl vd (.slice none 0 0))) (hm : ∀ k, k < wr.heap.size → Mut g bm vl vd' (.slice none 0 0) k → Mut g bm vl vd (.slice none 0 0) k) (hb : Below base wr w') : Mem W w' base g bm vl vd' v14 v15 wv' J' pre Ws := by
  obtain ⟨gr, g1, g2⟩ := h.got
  obtain ⟨rr, r1, r2⟩ := h.want
  exact ⟨hj, ⟨gr, R_joiner rfl g1 h.jm hk (by decide) (by decide) (by decide), g2.imp fun x y hxy => EvOK.kept hxy hk hm⟩, ⟨rr, R_joiner rfl r1 h.jm hk (by decide) (by decide) (by decide), r2⟩, h.below.trans (hb.mono h.b0), h.b0, Nat.le_trans h.b1 hb.size⟩
theorem Mem.got' {v15' : Value} {es : List Ev} {er : List (List Value)} (h : Mem W wr base g bm vl vd v14 v15 wv J pre Ws) (gr : List (List Value)) (hg : (rawK 4).R 84 wr base (fun _ => True) v15 gr) (hg2 : All2 (EvOK wr (Mut g bm vl vd (.slice none 0 0))) pre gr)
    (he : All2 (EvOK wr (Mut g bm vl vd (.slice none 0 0))) es er) (hR : (rawK 4).R 84 w' base (fun _ => True) v15' (gr ++ er)) (hb : Below base wr w') (hgr : wr.grownBy w' v15.ownBlock) : Mem W w' base g bm vl vd v14 v15' wv J (pre ++ es) Ws := by
  have ho : Over 84 wr w' := over_grown hgr (fun k hk => own_type hg k hk.symm)
  obtain ⟨rr, r1, r2⟩ := h.want
  have hall : All2 (EvOK wr (Mut g bm vl vd (.slice none 0 0))) (pre ++ es) (gr ++ er) := by
    refine ⟨by rw [List.length_append, List.length_append, hg2.1, he.1], fun j x y hx hy => ?_⟩
    by_cases hj : j < pre.length
    · rw [List.getElem?_append_left hj] at hx
      rw [List.getElem?_append_left (by rw [hg2.1]; exact hj)] at hy
      exact hg2.2 j x y hx hy
    · rw [List.getElem?_append_right (by omega)] at hx
      rw [List.getElem?_append_right (by rw [hg2.1]; omega), hg2.1] at hy
      exact he.2 _ x y hx hy
  exact ⟨JM_over h.jm ho (by decide) (by decide) (by decide), ⟨gr ++ er, hR, hall.imp fun x y ⟨A, c, q1, q2, q3⟩ => ⟨A, c, q1, q2, Sl_over q3 ho (by decide)⟩⟩, ⟨rr, R_over rfl r1 ho (by decide), r2⟩, h.below.trans (hb.mono h.b0), h.b0, Nat.le_trans h.b1 hb.size⟩
theorem Mem.want' {v14' : Value} {x : List Int} {r : List Value} (h : Mem W wr base g bm vl vd v14 v15 wv J pre Ws) (rr : List (List Value)) (hr : (rawK 1).R 22 wr base (fun _ => True) v14 rr) (hr2 : All2 (PkOK W) Ws rr)
    (hx : PkOK W x r) (hR : (rawK 1).R 22 w' base (fun _ => True) v14' (rr ++ [r])) (hb : Below base wr w') (hgr : wr.grownBy w' v14.ownBlock) : Mem W w' base g bm vl vd v14' v15 wv J pre (Ws ++ [x]) := by
  have ho : Over 22 wr w' := over_grown hgr (fun k hk => own_type hr k hk.symm)
  obtain ⟨gr, g1, g2⟩ := h.got
  exact ⟨JM_over h.jm ho (by decide) (by decide) (by decide), ⟨gr, R_over rfl g1 ho (by decide), g2.imp fun x y ⟨A, c, q1, q2, q3⟩ => ⟨A, c, q1, q2, Sl_over q3 ho (by decide)⟩⟩, ⟨rr ++ [r], hR, All2.snoc hr2 hx⟩, h.below.trans (hb.mono h.b0), h.b0, Nat.le_trans h.b1 hb.size⟩
end

/-- A piece's cells; its octets lie in ok. -/
def PcK (W : World) (ok : Nat → Prop) (x : S29) (r : List Value) : Prop := ∃ A3 c3, r = [.bool x.f0, .bool x.f1, .int .i64 x.f2, .slice A3 x.f3.length c3] ∧ x.f3.length ≤ c3 ∧ Kd.F (Kd.int .u8) W ok A3 x.f3.length x.f3
theorem PcK.step {W W' : World} {ok : Nat → Prop} {x : S29} {r : List Value} (h : PcK W ok x r) (hk : ∀ k, ok k → k < W.heap.size → W'.heap[k]? = W.heap[k]?) : PcK W' ok x r := by
  obtain ⟨A, c, h1, h2, h3⟩ := h
  exact ⟨A, c, h1, h2, Kd.F_step h3 hk⟩
/-- Pieces of one's own: their cells. -/
theorem pieces_own {ws : World} {base : Nat} {v : Value} {xs : List S29} (h : k29.R 29 ws base (fun _ => True) v xs) :
    ∃ rr : List (List Value), (rawK 4).R 29 ws base (fun _ => True) v rr ∧ All2 (PcK ws (fun k => base ≤ k ∧ k < ws.heap.size)) xs rr := by
  obtain ⟨h0, inner, hown, hl, hr⟩ := h
  have hrl : ((List.range xs.length).map fun j => (inner.drop (j * 4)).take 4).length = xs.length := by simp
  have hget : ∀ (j : Nat) (r : List Value), ((List.range xs.length).map fun j => (inner.drop (j * 4)).take 4)[j]? = some r → j < xs.length ∧ r = (inner.drop (j * 4)).take 4 := by
    intro j r hj
    rw [List.getElem?_map] at hj
    by_cases hlt : j < xs.length
    · rw [List.getElem?_range hlt] at hj
      exact ⟨hlt, by simpa using hj.symm⟩
    · rw [List.getElem?_eq_none (by simpa using hlt)] at hj
      simp at hj
  have hM : ∀ j (hj : j < xs.length), ∃ v3, (inner.drop (j * 4)).take 4 = [.bool xs[j].f0, .bool xs[j].f1, .int .i64 xs[j].f2, v3] ∧ (Kd.int .u8).R 5 ws base (fun k => (fun x => True) k ∧ some k ≠ v.ownBlock) v3 xs[j].f3 := fun j hj => k29_openM (hr j _ (List.getElem?_eq_getElem hj))
  refine ⟨(List.range xs.length).map fun j => (inner.drop (j * 4)).take 4, ⟨h0, inner, by rw [hrl]; exact hown, by rw [hrl]; exact hl, fun j r hj => ?_⟩, hrl, fun j x r hx hj => ?_⟩
  · obtain ⟨hlt, rfl⟩ := hget j r hj
    obtain ⟨v3, e, hR⟩ := hM j hlt
    obtain ⟨A3, c3, rfl⟩ := Kd.R_slice hR
    refine ⟨rfl, by rw [e]; rfl, fun u hu => ?_⟩
    rw [e] at hu
    simp at hu
    rcases hu with rfl | rfl | rfl | rfl <;> rfl
  · obtain ⟨hlt, rfl⟩ := hget j r hj
    obtain ⟨v3, e, hR⟩ := hM j hlt
    have ex : xs[j] = x := by rw [List.getElem?_eq_getElem hlt] at hx; exact Option.some.inj hx
    rw [ex] at e hR
    obtain ⟨A3, c3, rfl⟩ := Kd.R_slice hR
    exact ⟨A3, c3, e, (Kd.R_reads' hR).2.1, Kd.F_mono (Kd.R_F (Kd.R_bound hR)) (fun k hk => ⟨hk.2.1, hk.2.2.1⟩)⟩

/-- Pieces in memory of their own. -/
def Pcs (W : World) (b : Nat) (ok : Nat → Prop) (v : Value) (xs : List S29) (rr : List (List Value)) : Prop := (rawK 4).R 29 W b (fun _ => True) v rr ∧ All2 (PcK W ok) xs rr
theorem Pcs.below {W W' : World} {b : Nat} {ok : Nat → Prop} {v : Value} {xs : List S29} {rr : List (List Value)} (h : Pcs W b ok v xs rr) (hb : Below W.heap.size W W') : Pcs W' b ok v xs rr :=
  ⟨Kd.R_below h.1 hb, h.2.imp fun x y hxy => hxy.step (fun k _ hk => hb.block k hk)⟩
theorem Pcs.fed {W W' : World} {b : Nat} {ok : Nat → Prop} {v : Value} {xs : List S29} {rr : List (List Value)} {base g bm : Nat} {vl vd : Value} {wv : List (Int × Value)} {J : Jn} (h : Pcs W b ok v xs rr) (hj : JM W base g bm vl vd (.slice none 0 0) wv [] J) (hk : Kept W W' (Mut g bm vl vd (.slice none 0 0))) (hap : ∀ k, ok k → ¬ Mut g bm vl vd (.slice none 0 0) k) : Pcs W' b ok v xs rr :=
  ⟨R_joiner rfl h.1 hj hk (by decide) (by decide) (by decide), h.2.imp fun x y hxy => hxy.step (fun k ho hl => hk.2 k hl (hap k ho))⟩
theorem Pcs.grown {W W' : World} {b : Nat} {ok : Nat → Prop} {v : Value} {xs : List S29} {rr : List (List Value)} {row : Option Nat} (h : Pcs W b ok v xs rr) (hg : W.grownBy W' row) (hr : ∀ k, row = some k → ∃ cs, W.heap[k]? = some (Obj.cells cs 84 (0, 0))) (hap : ∀ k, ok k → some k ≠ row) : Pcs W' b ok v xs rr :=
  ⟨R_over rfl h.1 (over_grown hg hr) (by decide), h.2.imp fun x y hxy => hxy.step (fun k ho hl => hg.block k hl (hap k ho))⟩
theorem Pcs.at {W : World} {b N c : Nat} {ok : Nat → Prop} {A : Option Addr} {xs : List S29} {rr : List (List Value)} (h : Pcs W b ok (.slice A N c) xs rr) (hN : xs.length = N) (j : Nat) (hj : j < N) :
    ∃ ad A3 c3, A = some ad ∧ W.cell? (ad.add (j * 4)) = some (.bool (xs.getD j z29).f0) ∧ W.cell? ⟨(ad.add (j * 4)).block, (ad.add (j * 4)).off + 1, none⟩ = some (.bool (xs.getD j z29).f1) ∧ W.cell? ⟨(ad.add (j * 4)).block, (ad.add (j * 4)).off + 2, none⟩ = some (.int .i64 (xs.getD j z29).f2) ∧ W.cell? ⟨(ad.add (j * 4)).block, (ad.add (j * 4)).off + 3, none⟩ = some (.slice A3 (xs.getD j z29).f3.length c3) ∧ (xs.getD j z29).f3.length ≤ c3 ∧ Kd.F (Kd.int .u8) W ok A3 (xs.getD j z29).f3.length (xs.getD j z29).f3 := by
  obtain ⟨ad, e, r, hr, hl, _, hc⟩ := raw_get (R_C h.1) j hj
  have hx : xs[j]? = some (xs.getD j z29) := by rw [List.getD_eq_getElem?_getD, List.getElem?_eq_getElem (by omega)]; rfl
  obtain ⟨A3, c3, rfl, l3, g3⟩ := h.2.2 j _ r hx hr
  exact ⟨ad, A3, c3, e, hc 0 _ rfl, by rw [← add_field _ _ 1 (by omega)]; exact hc 1 _ rfl, by rw [← add_field _ _ 2 (by omega)]; exact hc 2 _ rfl, by rw [← add_field _ _ 3 (by omega)]; exact hc 3 _ rfl, l3, g3⟩

/-- What was told, by its number. -/
theorem ev_at {W : World} {base n c : Nat} {A : Option Addr} {X : Nat → Prop} {T : List Ev} {gT : List (List Value)} (h : (rawK 4).R 84 W base (fun _ => True) (.slice A n c) gT) (h2 : All2 (EvOK W X) T gT) (s : Nat) (hs : s < n) :
    ∃ ad e A3 c3, A = some ad ∧ T[s]? = some e ∧ W.cell? (ad.add (s * 4)) = some (.int .i64 e.kind) ∧ W.cell? ⟨(ad.add (s * 4)).block, (ad.add (s * 4)).off + 1, none⟩ = some (.slice A3 e.data.length c3) ∧ W.cell? ⟨(ad.add (s * 4)).block, (ad.add (s * 4)).off + 2, none⟩ = some (.int .i64 e.from_) ∧ W.cell? ⟨(ad.add (s * 4)).block, (ad.add (s * 4)).off + 3, none⟩ = some (.int .i64 e.many) ∧ e.data.length ≤ c3 ∧ (Kd.int .u8).C W A3 e.data.length e.data := by
  obtain ⟨ad, e, r, hr, hl, _, hc⟩ := raw_get (R_C h) s hs
  have hlt := (List.getElem?_eq_some_iff.1 hr).1
  have hT : T[s]? = some (T[s]'(by rw [← h2.1]; exact hlt)) := List.getElem?_eq_getElem _
  obtain ⟨A3, c3, rfl, l3, g3⟩ := h2.2 s _ r hT hr
  exact ⟨ad, _, A3, c3, e, hT, hc 0 _ rfl, by rw [← add_field _ _ 1 (by omega)]; exact hc 1 _ rfl, by rw [← add_field _ _ 2 (by omega)]; exact hc 2 _ rfl, by rw [← add_field _ _ 3 (by omega)]; exact hc 3 _ rfl, l3, Kd.F_now g3⟩
theorem want_at {W0 W : World} {base n c : Nat} {A : Option Addr} {Ws : List (List Int)} {rr : List (List Value)} (h : (rawK 1).R 22 W base (fun _ => True) (.slice A n c) rr) (h2 : All2 (PkOK W0) Ws rr) (a : Nat) {x : List Int} (hx : Ws[a]? = some x) :
    ∃ ad A3 c3, A = some ad ∧ W.cell? (ad.add a) = some (.slice A3 x.length c3) ∧ x.length ≤ c3 ∧ (Kd.int .u8).C W0 A3 x.length x := by
  have hC := R_C h
  have hlt : a < n := by
    have h1 := (List.getElem?_eq_some_iff.1 hx).1
    have h3 := hC.1
    have h4 := h2.1
    omega
  obtain ⟨ad, e, r, hr, hl, _, hc⟩ := raw_get hC a hlt
  obtain ⟨A3, c3, rfl, l3, g3⟩ := h2.2 a x r hx hr
  exact ⟨ad, A3, c3, e, by have := hc 0 _ rfl; rwa [Nat.mul_one, Nat.add_zero] at this, l3, g3⟩

theorem eq_self (zs : List Int) : ∀ k i : Nat, i ≤ zs.length → zs.length < k + i → zs.length < 4611686018427387904 → marlineref01_Equal.l0 k zs zs (i : Int) = some true
  | 0, i, h, h2, _ => by omega
  | k + 1, i, h, h2, h3 => by
    rw [marlineref01_Equal.l0]
    by_cases hi : (i : Int) < (zs.length : Int)
    · rw [if_pos hi, if_pos (by omega), if_pos hi, if_pos rfl]
      have e : wrap64 ((i : Int) + 1) = ((i + 1 : Nat) : Int) := by unfold wrap64; omega
      rw [e]
      exact eq_self zs k (i + 1) (by omega) (by omega) h3
    · rw [if_neg hi]

theorem equal_self (zs : List Int) (h : zs.length < 4611686018427387904) : marlineref01_Equal.f (zs.length + 1) zs zs = some true := by
  rw [marlineref01_Equal.f, if_pos rfl]
  exact eq_self zs (zs.length + 1) 0 (by omega) (by omega) h

end Go.Proofs.YtgopklnfdlnojaaDoor.Yb
