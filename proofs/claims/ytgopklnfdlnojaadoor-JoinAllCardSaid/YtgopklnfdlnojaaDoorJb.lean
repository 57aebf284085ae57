/- A joiner's small methods: take, Kept, lose. -/
import Derived.Test.YtgopklnfdlnojaaDoorJa
import Derived.Deep.RegionHeld3
namespace Go.Proofs.YtgopklnfdlnojaaDoor.Jb
open Go.RowKit Go.Proofs.YtgopklnfdlnojaaDoor.Ga Go.Proofs.YtgopklnfdlnojaaDoor.My Go.Proofs.YtgopklnfdlnojaaDoor.Gb Go.Proofs.YtgopklnfdlnojaaDoor.Gp Go.Proofs.YtgopklnfdlnojaaDoor.Ja Go.Proofs.YtgopklnfdlnojaaDoorW.PrintWords Go.Proofs.YtgopklnfdlnojaaDoorW.PrintLast Go.Proofs.YtgopklnfdlnojaaDoorW.PrintMore
set_option linter.unusedVariables false
set_option linter.unusedSimpArgs false

section
variable {W : World} {base g bm : Nat} {vl vd ve : Value} {wv : List (Int × Value)} {er : List (List Value)} {J : Jn}

/-- The joiner's own cells are written, its data or its events let go. -/
theorem JM_cells {W' : World} {vd' ve' : Value} {er' : List (List Value)} {J' : Jn} (h : JM W base g bm vl vd ve wv er J) (hk : Kept W W' (fun k => k = g))
    (hg' : W'.heap[g]? = some (.cells #[.int .i64 J'.nm, .int .i64 J'.room, .int .i64 J'.most, vl, .map (some bm), .int .i64 J'.next, .int .i64 J'.mode, vd', ve'] 102 (0, 0)))
    (hd : (vd' = vd ∧ J'.data = J.data) ∨ (vd' = .slice none 0 0 ∧ J'.data = [])) (he : (ve' = ve ∧ er' = er ∧ J'.evs = J.evs) ∨ (ve' = .slice none 0 0 ∧ er' = [] ∧ J'.evs = []))
    (hl : J'.last = J.last) (hw : J'.wait = J.wait) :
    JM W' base g bm vl vd' ve' wv er' J' ∧ Kept W W' (Mut g bm vl vd ve) ∧ (∀ k, k < W.heap.size → Mut g bm vl vd' ve' k → Mut g bm vl vd ve k) := by
  obtain ⟨al, ad, ae, hgm⟩ := h.apart
  have hkM : Kept W W' (Mut g bm vl vd ve) := ⟨hk.1, fun k hk1 hs => hk.2 k hk1 (fun e => hs (.inl e))⟩
  have hmut : ∀ k, k < W.heap.size → Mut g bm vl vd' ve' k → Mut g bm vl vd ve k := fun k hk1 hm => by
    rcases hm with hm | hm | hm | hm | hm
    · exact .inl hm
    · exact .inr (.inl hm)
    · exact .inr (.inr (.inl hm))
    · rcases hd with ⟨e, _⟩ | ⟨e, _⟩
      · rw [e] at hm; exact .inr (.inr (.inr (.inl hm)))
      · rw [e] at hm; simp [Value.ownBlock] at hm
    · rcases he with ⟨e, _⟩ | ⟨e, _⟩
      · rw [e] at hm; exact .inr (.inr (.inr (.inr hm)))
      · rw [e] at hm; simp [Value.ownBlock] at hm
  refine ⟨⟨hg', h.hgb, h.hbm, hl ▸ R_stay rfl h.hlast hk (fun k hk1 hs => (al k hk1).1 hs), ?_, ?_, ?_, ?_, ?_, hw ▸ h.hsort⟩, hkM, hmut⟩
  · rcases hd with ⟨e, e2⟩ | ⟨e, e2⟩
    · rw [e, e2]; exact R_stay rfl h.hdata hk (fun k hk1 hs => (ad k hk1).1 hs)
    · rw [e, e2]; exact Kd.R_nil _ _ _ _ _
  · rcases he with ⟨e, e2, _⟩ | ⟨e, e2, _⟩
    · rw [e, e2]; exact R_stay rfl h.hevs hk (fun k hk1 hs => (ae k hk1).1 hs)
    · rw [e, e2]; exact Kd.R_nil _ _ _ _ _
  · rcases he with ⟨e, e2, e3⟩ | ⟨e, e2, e3⟩
    · rw [e2, e3]
      exact h.hev.imp fun x y ⟨A, c, h1, h2, h3⟩ => ⟨A, c, h1, h2, h3.kept hkM hmut⟩
    · rw [e2, e3]
      exact ⟨rfl, fun j x y hx => by simp at hx⟩
  · refine map_stay h.hmap (hk.2 bm ?_ (fun e => hgm e.symm))
    obtain ⟨es, clock, hm⟩ := map_blk h.hmap
    exact (Array.getElem?_eq_some_iff.1 hm).1
  · rw [hw]
    exact h.hwv.imp fun x y ⟨h1, A, c, h2, h3, h4⟩ => ⟨h1, A, c, h2, h3, h4.kept hkM hmut⟩
end

theorem kept_trans {W W1 W2 : World} {X X1 : Nat → Prop} (h : Kept W W1 X) (k : Kept W1 W2 X1) (hx : ∀ q, q < W.heap.size → X1 q → X q) : Kept W W2 X :=
  ⟨Nat.le_trans h.1 k.1, fun q hq hn => (k.2 q (Nat.lt_of_lt_of_le hq h.1) (fun e => hn (hx q hq e))).trans (h.2 q hq hn)⟩
theorem jm_drew {W : World} {base g bm : Nat} {vl vd ve : Value} {wv : List (Int × Value)} {er : List (List Value)} {J : Jn} (h : JM W base g bm vl vd ve wv er J) : JM W.drew base g bm vl vd ve wv er J :=
  ⟨h.hg, h.hgb, h.hbm, Kd.R_drew h.hlast, Kd.R_drew h.hdata, Kd.R_drew h.hevs, h.hev, h.hmap, h.hwv, h.hsort⟩
set_option maxHeartbeats 1000000 in
set_option maxRecDepth 100000 in
theorem take_any (W : World) (base g bm : Nat) (vl vd ve : Value) (wv : List (Int × Value)) (er : List (List Value)) (J : Jn) (h : JM W base g bm vl vd ve wv er J) :
    Calls Tryd.prog 48 #[.pointer (some ⟨g, 0, none⟩)] W fun e W' => e = .returned ve ∧
      JM W' base g bm vl vd (.slice none 0 0) wv [] { J with evs := [] } ∧ (rawK 4).R 84 W' base (fun _ => True) ve er ∧ All2 (EvOK W' (Mut g bm vl vd (.slice none 0 0))) J.evs er ∧
      Kept W W' (Mut g bm vl vd ve) ∧ (∀ k, k < W.heap.size → Mut g bm vl vd (.slice none 0 0) k → Mut g bm vl vd ve k) ∧ Below base W W' := by
  obtain ⟨Ae, ce, rfl⟩ := Kd.R_slice h.hevs
  have HJ := Aside0.mk h
  have hg := h.hg
  have c8 := blk_cell hg 8
  have fz : ∀ j, W.frozen? ⟨g, j, none⟩ = false := fun j => blk_frozen hg j
  simp at c8
  clear h hg
  go_enter Tryd.func48, Tryd.ntmps48
  go_wp2
  go_ret
  have hset := blk_set HJ.out.hg 8 (.slice none 0 0)
  have hk : Kept W (W.setCell ⟨g, 8, none⟩ (.slice none 0 0)) (fun k => k = g) := ⟨by simp [World.setCell], fun k _ hs => far_cell W g 8 k _ hs⟩
  obtain ⟨h1, h2, h3⟩ := JM_cells (J' := { J with evs := [] }) HJ.out hk (by simpa using hset) (.inl ⟨rfl, rfl⟩) (.inr ⟨rfl, rfl, rfl⟩) rfl rfl
  obtain ⟨al, ad, ae, hgm⟩ := HJ.out.apart
  exact ⟨rfl, h1, R_stay rfl HJ.out.hevs hk (fun k hk1 hs => (ae k hk1).1 hs), HJ.out.hev.imp fun x y ⟨A, c, q1, q2, q3⟩ => ⟨A, c, q1, q2, q3.kept h2 h3⟩, h2, h3, (Below.refl base W).setCell (p := ⟨g, 8, none⟩) HJ.out.hgb _⟩

set_option maxHeartbeats 1000000 in
set_option maxRecDepth 100000 in
theorem kept_any (W : World) (base g bm : Nat) (vl vd ve : Value) (wv : List (Int × Value)) (er : List (List Value)) (J : Jn) (h : JM W base g bm vl vd ve wv er J) :
    Calls Tryd.prog 36 #[.pointer (some ⟨g, 0, none⟩)] W fun e W' => e = .returned (.int .i64 J.wait.length) ∧ W' = W := by
  have HJ := Aside0.mk h
  have hg := h.hg
  have c4 := blk_cell hg 4
  simp at c4
  have hlw : wv.length = J.wait.length := h.hwv.1
  have hm := h.hmap
  clear h hg
  go_enter Tryd.func36, Tryd.ntmps36
  go_wp2_with (at_len; refine wpList_len_own _ rfl _ 99 rfl 3 29 Tryd.underlying99 elemR bm wv.length _ rfl hm ?_)
  go_ret
  refine ⟨?_, rfl⟩
  simp [Maps.size, hlw]

set_option maxHeartbeats 1000000 in
set_option maxRecDepth 100000 in
theorem lose_any (W : World) (base g bm : Nat) (vl vd ve : Value) (wv : List (Int × Value)) (er : List (List Value)) (J : Jn) (fin : Int) (h : JM W base g bm vl vd ve wv er J) (hnm : 0 < J.nm) (hb : base ≤ W.heap.size) (hlen : er.length ≤ 100000) (hw : IntKind.i64.wrap (fin - J.next) = fin - J.next) :
    Calls Tryd.prog 57 #[.pointer (some ⟨g, 0, none⟩), .int .i64 fin] W fun e W' => ∃ ve' er', (∃ v, e = .returned v) ∧ er'.length = er.length + 1 ∧
      JM W' base g bm vl (.slice none 0 0) ve' wv er' { tellJ J 1 J.next (fin - J.next) with next := fin, mode := 2, data := [] } ∧ Kept W W' (Mut g bm vl vd ve) ∧ (∀ k, k < W.heap.size → Mut g bm vl (.slice none 0 0) ve' k → Mut g bm vl vd ve k) ∧ Below base W W' := by
  have HJ := Aside0.mk h
  have hg := h.hg
  have c5 := blk_cell hg 5
  simp at c5
  clear h hg
  go_enter Tryd.func57, Tryd.ntmps57
  go_wp2_with (fail)
  go_region_held3 (fun w' => w'.cell? ⟨g, 5, none⟩ = some (.int .i64 J.next)) (first | go_keep)
    (first | (go_at_call 64; refine (tell_any _ base g bm vl vd ve wv er J 1 J.next (fin - J.next) (jm_drew HJ.out) hnm hb hlen).mono ?_; rintro e2 w2 ⟨ve', ⟨v2, rfl⟩, hJ2, hk2, hm2, hb2⟩; have HJ2 := Aside0.mk hJ2; have HK2 := Aside0.mk hk2; have HM2 := Aside0.mk hm2; have HB2 := Aside0.mk hb2; have y5 := blk_cell hJ2.hg 5; simp [tellJ] at y5; clear hJ2 hk2 hm2 hb2))
  have hg2 := HJ2.out.hg
  have y6 := blk_cell hg2 6
  have y7 := blk_cell hg2 7
  have fz : ∀ j, w2.frozen? ⟨g, j, none⟩ = false := fun j => blk_frozen hg2 j
  simp [tellJ] at y6 y7
  clear hg2
  go_wp2
  go_end0
  have hs := blk_set (blk_set (blk_set HJ2.out.hg 5 (.int .i64 fin)) 6 (.int .i64 2)) 7 (.slice none 0 0)
  have hk : Kept w2 (((w2.setCell ⟨g, 5, none⟩ (.int .i64 fin)).setCell ⟨g, 6, none⟩ (.int .i64 2)).setCell ⟨g, 7, none⟩ (.slice none 0 0)) (fun k => k = g) :=
    ⟨by simp [World.setCell], fun k _ hs => (far_cell _ g 7 k _ hs).trans ((far_cell _ g 6 k _ hs).trans (far_cell _ g 5 k _ hs))⟩
  obtain ⟨h1, h2, h3⟩ := JM_cells (J' := { tellJ J 1 J.next (fin - J.next) with next := fin, mode := 2, data := [] }) HJ2.out hk (by simpa [tellJ] using hs) (.inr ⟨rfl, rfl⟩) (.inl ⟨rfl, rfl, rfl⟩) rfl rfl
  refine ⟨_, _, ⟨_, rfl⟩, by simp, h1, kept_trans HK2.out h2 HM2.out, fun k hk1 hm => HM2.out k hk1 (h3 k (Nat.lt_of_lt_of_le hk1 HK2.out.1) hm), ?_⟩
  exact ((((below_drew (Below.refl base W)).trans HB2.out).setCell (p := ⟨g, 5, none⟩) HJ.out.hgb _).setCell (p := ⟨g, 6, none⟩) HJ.out.hgb _).setCell (p := ⟨g, 7, none⟩) HJ.out.hgb _

end Go.Proofs.YtgopklnfdlnojaaDoor.Jb
