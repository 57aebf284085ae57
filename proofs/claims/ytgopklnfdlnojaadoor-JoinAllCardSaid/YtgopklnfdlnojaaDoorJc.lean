/- A joiner goes through a piece (58). -/
import Derived.Test.YtgopklnfdlnojaaDoorJb
import Derived.Deep.CutBlock
import Derived.Test.YtgopklnfdlnojaaDoorSb
namespace Go.Proofs.YtgopklnfdlnojaaDoor.Jc
open Go.RowKit Go.Proofs.YtgopklnfdlnojaaDoor.Ga Go.Proofs.YtgopklnfdlnojaaDoor.My Go.Proofs.YtgopklnfdlnojaaDoor.Gb Go.Proofs.YtgopklnfdlnojaaDoor.Gp Go.Proofs.YtgopklnfdlnojaaDoor.Ja Go.Proofs.YtgopklnfdlnojaaDoor.Jb Go.Proofs.YtgopklnfdlnojaaDoorW.PrintWords Go.Proofs.YtgopklnfdlnojaaDoorW.PrintLast Go.Proofs.YtgopklnfdlnojaaDoorW.PrintMore
set_option linter.unusedVariables false
set_option linter.unusedSimpArgs false

/-- The first switch: a piece that doesn't fit is told. -/
def badJ (J : Jn) (place : Int) (b : Bool) : Jn := if (b && J.mode == 1) || (!b && J.mode == 0) then tellJ J 2 place 0 else J
/-- The last switch: too long, or whole. -/
def doneJ (J : Jn) (e : Bool) : Jn :=
  if J.most < (J.data.length : Int) then { J with evs := J.evs ++ [⟨3, [], 0, 0⟩], mode := 2, data := [] }
  else if e then { J with evs := J.evs ++ [⟨0, J.data, 0, 0⟩], mode := 0, data := [] } else J
/-- A joiner behind a piece. -/
def pieceJ (J : Jn) (place : Int) (p : S29) : Jn :=
  if p.f0 then doneJ { badJ J place p.f0 with mode := 1, data := p.f3 } p.f1
  else if (badJ J place p.f0).mode == 1 then doneJ { badJ J place p.f0 with data := (badJ J place p.f0).data ++ p.f3 } p.f1
  else { badJ J place p.f0 with mode := 2 }

theorem kept_of_below {W W' : World} (h : Below W.heap.size W W') (X : Nat → Prop) : Kept W W' X := ⟨h.size, fun k hk _ => h.block k hk⟩

section
variable {W W' : World} {base g bm : Nat} {vl vd ve : Value} {wv : List (Int × Value)} {er : List (List Value)} {J : Jn}
/-- New blocks do not touch a joiner. -/
theorem jm_below (h : JM W base g bm vl vd ve wv er J) (hb : Below W.heap.size W W') : JM W' base g bm vl vd ve wv er J := by
  have hkM := kept_of_below hb (Mut g bm vl vd ve)
  have hm : ∀ k, k < W.heap.size → Mut g bm vl vd ve k → Mut g bm vl vd ve k := fun _ _ h => h
  refine ⟨blk_keep h.hg hb, h.hgb, h.hbm, Kd.R_below h.hlast hb, Kd.R_below h.hdata hb, Kd.R_below h.hevs hb, h.hev.imp fun x y ⟨A, c, h1, h2, h3⟩ => ⟨A, c, h1, h2, h3.kept hkM hm⟩, ?_, h.hwv.imp fun x y ⟨h1, A, c, h2, h3, h4⟩ => ⟨h1, A, c, h2, h3, h4.kept hkM hm⟩, h.hsort⟩
  obtain ⟨es, clock, hmb⟩ := map_blk h.hmap
  exact map_stay h.hmap (hb.block bm (Array.getElem?_eq_some_iff.1 hmb).1)
/-- What a joiner writes lies in memory. -/
theorem mut_lt (h : JM W base g bm vl vd ve wv er J) (k : Nat) (hk : Mut g bm vl vd ve k) : k < W.heap.size := by
  obtain ⟨es, clock, hmb⟩ := map_blk h.hmap
  rcases hk with e | e | e | e | e
  · subst e; exact (Array.getElem?_eq_some_iff.1 h.hg).1
  · subst e; exact (Array.getElem?_eq_some_iff.1 hmb).1
  · exact Kd.R_lt h.hlast k e.symm
  · exact Kd.R_lt h.hdata k e.symm
  · exact Kd.R_lt h.hevs k e.symm
end

section
variable {W W' : World} {base g bm : Nat} {vl vd ve : Value} {wv : List (Int × Value)} {er : List (List Value)} {J J' : Jn}
/-- The joiner's data is written, or made anew. -/
theorem JM_data {vd' : Value} (h : JM W base g bm vl vd ve wv er J) (hk : Kept W W' (fun k => k = g ∨ some k = vd.ownBlock))
    (hg' : W'.heap[g]? = some (.cells #[.int .i64 J'.nm, .int .i64 J'.room, .int .i64 J'.most, vl, .map (some bm), .int .i64 J'.next, .int .i64 J'.mode, vd', ve] 102 (0, 0)))
    (hd : (Kd.int .u8).R 5 W' base (fun _ => True) vd' J'.data) (hv : ∀ k, k < W.heap.size → some k = vd'.ownBlock → some k = vd.ownBlock) (he : J'.evs = J.evs) (hl : J'.last = J.last) (hw : J'.wait = J.wait) :
    JM W' base g bm vl vd' ve wv er J' ∧ Kept W W' (Mut g bm vl vd ve) ∧ (∀ k, k < W.heap.size → Mut g bm vl vd' ve k → Mut g bm vl vd ve k) := by
  obtain ⟨al, ad, ae, hgm⟩ := h.apart
  have hkM : Kept W W' (Mut g bm vl vd ve) := ⟨hk.1, fun k hk1 hs => hk.2 k hk1 (fun e => hs (e.elim .inl (fun e => .inr (.inr (.inr (.inl e))))))⟩
  have hmut : ∀ k, k < W.heap.size → Mut g bm vl vd' ve k → Mut g bm vl vd ve k := fun k hk1 hm => by
    rcases hm with hm | hm | hm | hm | hm
    · exact .inl hm
    · exact .inr (.inl hm)
    · exact .inr (.inr (.inl hm))
    · exact .inr (.inr (.inr (.inl (hv k hk1 hm))))
    · exact .inr (.inr (.inr (.inr hm)))
  refine ⟨⟨hg', h.hgb, h.hbm, hl ▸ R_stay rfl h.hlast hk (fun k hk1 hs => hs.elim (al k hk1).1 (al k hk1).2.2.1), hd, R_stay rfl h.hevs hk (fun k hk1 hs => hs.elim (ae k hk1).1 (ae k hk1).2.2.2), ?_, ?_, ?_, hw ▸ h.hsort⟩, hkM, hmut⟩
  · rw [he]
    exact h.hev.imp fun x y ⟨A, c, h1, h2, h3⟩ => ⟨A, c, h1, h2, h3.kept hkM hmut⟩
  · refine map_stay h.hmap (hk.2 bm ?_ ?_)
    · obtain ⟨es, clock, hm⟩ := map_blk h.hmap
      exact (Array.getElem?_eq_some_iff.1 hm).1
    · rintro (e | e)
      · exact hgm e.symm
      · exact (ad bm e).2.1 rfl
  · rw [hw]
    exact h.hwv.imp fun x y ⟨h1, A, c, h2, h3, h4⟩ => ⟨h1, A, c, h2, h3, h4.kept hkM hmut⟩

/-- A whole packet is told: its octets are the event's now. -/
theorem JM_whole {w9 : World} {ve' : Value} {Ad : Option Addr} {cd : Nat} (h : JM W base g bm vl (.slice Ad J.data.length cd) ve wv er J) (ho : (rawK 4).R 84 w9 base (fun _ => True) ve' (er ++ [[.int .i64 0, .slice Ad J.data.length cd, .int .i64 0, .int .i64 0]])) (hb9 : Below base W w9) (hgr : W.grownBy w9 ve.ownBlock) (hat : ve'.ownBlock = ve.ownBlock ∨ ∃ b, ve'.ownBlock = some b ∧ W.heap.size ≤ b) :
    JM (((w9.setCell ⟨g, 8, none⟩ ve').setCell ⟨g, 6, none⟩ (.int .i64 0)).setCell ⟨g, 7, none⟩ (.slice none 0 0)) base g bm vl (.slice none 0 0) ve' wv (er ++ [[.int .i64 0, .slice Ad J.data.length cd, .int .i64 0, .int .i64 0]]) { J with evs := J.evs ++ [⟨0, J.data, 0, 0⟩], mode := 0, data := [] } ∧
      Kept W (((w9.setCell ⟨g, 8, none⟩ ve').setCell ⟨g, 6, none⟩ (.int .i64 0)).setCell ⟨g, 7, none⟩ (.slice none 0 0)) (Mut g bm vl (.slice Ad J.data.length cd) ve) ∧ (∀ k, k < W.heap.size → Mut g bm vl (.slice none 0 0) ve' k → Mut g bm vl (.slice Ad J.data.length cd) ve k) ∧
      Below base W (((w9.setCell ⟨g, 8, none⟩ ve').setCell ⟨g, 6, none⟩ (.int .i64 0)).setCell ⟨g, 7, none⟩ (.slice none 0 0)) := by
  obtain ⟨al, ad, ae, hgm⟩ := h.apart
  have hg9 : w9.heap[g]? = _ := blk_grown h.hg hgr (fun e => (ae g e).1 rfl)
  have hs := blk_set (blk_set (blk_set hg9 8 ve') 6 (.int .i64 0)) 7 (.slice none 0 0)
  have hR := Kd.R_set (Kd.R_set (Kd.R_set ho hg9 (by intro q hq; simp [rawK] at hq; subst hq; decide) 8 ve') (blk_set hg9 8 ve') (by intro q hq; simp [rawK] at hq; subst hq; decide) 6 (.int .i64 0)) (blk_set (blk_set hg9 8 ve') 6 (.int .i64 0)) (by intro q hq; simp [rawK] at hq; subst hq; decide) 7 (.slice none 0 0)
  have hfar : ∀ k, k ≠ g → (((w9.setCell ⟨g, 8, none⟩ ve').setCell ⟨g, 6, none⟩ (.int .i64 0)).setCell ⟨g, 7, none⟩ (.slice none 0 0)).heap[k]? = w9.heap[k]? := fun k hk => (far_cell _ g 7 k _ hk).trans ((far_cell _ g 6 k _ hk).trans (far_cell _ g 8 k _ hk))
  have hsz : (((w9.setCell ⟨g, 8, none⟩ ve').setCell ⟨g, 6, none⟩ (.int .i64 0)).setCell ⟨g, 7, none⟩ (.slice none 0 0)).heap.size = w9.heap.size := by simp [World.setCell]
  have hbel : Below base W (((w9.setCell ⟨g, 8, none⟩ ve').setCell ⟨g, 6, none⟩ (.int .i64 0)).setCell ⟨g, 7, none⟩ (.slice none 0 0)) := ((hb9.setCell (p := ⟨g, 8, none⟩) h.hgb _).setCell (p := ⟨g, 6, none⟩) h.hgb _).setCell (p := ⟨g, 7, none⟩) h.hgb _
  generalize ((w9.setCell ⟨g, 8, none⟩ ve').setCell ⟨g, 6, none⟩ (.int .i64 0)).setCell ⟨g, 7, none⟩ (.slice none 0 0) = WW at hs hR hfar hsz hbel ⊢
  have hkeep : Kept W WW (fun k => k = g ∨ some k = ve.ownBlock) := ⟨by rw [hsz]; exact hgr.size, fun k hk hs => (hfar k (fun e => hs (.inl e))).trans (hgr.block k hk (fun e => hs (.inr e)))⟩
  have hkM : Kept W WW (Mut g bm vl (.slice Ad J.data.length cd) ve) := ⟨hkeep.1, fun k hk hs => hkeep.2 k hk (fun e => hs (e.elim .inl (fun e => .inr (.inr (.inr (.inr e))))))⟩
  have hnew : ∀ k, k < W.heap.size → some k = ve'.ownBlock → some k = ve.ownBlock := fun k hk hm => by
    rcases hat with e | ⟨b, e, hb⟩
    · exact hm.trans e
    · rw [e] at hm; cases hm; omega
  have hmut : ∀ k, k < W.heap.size → Mut g bm vl (.slice none 0 0) ve' k → Mut g bm vl (.slice Ad J.data.length cd) ve k := fun k hk hm => by
    rcases hm with hm | hm | hm | hm | hm
    · exact .inl hm
    · exact .inr (.inl hm)
    · exact .inr (.inr (.inl hm))
    · simp [Value.ownBlock] at hm
    · exact .inr (.inr (.inr (.inr (hnew k hk hm))))
  have hdat := R_stay rfl h.hdata hkeep (fun k hk hs => hs.elim (ad k hk).1 (ad k hk).2.2.2)
  have hdlt := Kd.R_lt h.hdata
  refine ⟨⟨by simpa using hs, h.hgb, h.hbm, R_stay rfl h.hlast hkeep (fun k hk hs => hs.elim (al k hk).1 (al k hk).2.2.2), Kd.R_nil _ _ _ _ _, hR, ?_, ?_, h.hwv.imp fun x y ⟨h1, A, c, h2, h3, h4⟩ => ⟨h1, A, c, h2, h3, h4.kept hkM hmut⟩, h.hsort⟩, hkM, hmut, hbel⟩
  · refine All2.snoc (h.hev.imp fun x y ⟨A, c, h1, h2, h3⟩ => ⟨A, c, h1, h2, h3.kept hkM hmut⟩) ⟨Ad, cd, rfl, (Kd.R_reads' h.hdata).2.1, ?_⟩
    refine Kd.F_mono (Kd.R_F (Kd.R_tight rfl hdat)) fun k hk => ?_
    have hlt := hdlt k hk.symm
    have ha := ad k hk
    refine ⟨Nat.lt_of_lt_of_le hlt hkeep.1, fun hm => ?_, own_type hdat k hk⟩
    rcases hm with hm | hm | hm | hm | hm
    · exact ha.1 hm
    · exact ha.2.1 hm
    · exact ha.2.2.1 hm
    · simp [Value.ownBlock] at hm
    · exact ha.2.2.2 (hnew k hlt hm)
  · refine map_stay h.hmap (hkeep.2 bm ?_ ?_)
    · obtain ⟨es, clock, hm⟩ := map_blk h.hmap
      exact (Array.getElem?_eq_some_iff.1 hm).1
    · rintro (e | e)
      · exact hgm e.symm
      · exact (ae bm e).2.1 rfl
end

set_option maxHeartbeats 4000000 in
set_option maxRecDepth 100000 in
theorem piece_any (W : World) (base g bm : Nat) (vl vd ve : Value) (wv : List (Int × Value)) (er : List (List Value)) (J : Jn) (place : Int) (p : S29) (A : Option Addr) (c : Nat) (h : JM W base g bm vl vd ve wv er J) (hnm : 0 < J.nm) (hb : base ≤ W.heap.size) (hlen : er.length ≤ 90000) (hdl : J.data.length + p.f3.length ≤ 10000000)
    (hc : p.f3.length ≤ c) (hs : Sl W (Mut g bm vl vd ve) A p.f3.length p.f3) :
    Calls Tryd.prog 58 #[.pointer (some ⟨g, 0, none⟩), .int .i64 place, pc p.f0 p.f1 p.f2 A p.f3.length c] W fun e W' => ∃ vd' ve' er', (∃ v, e = .returned v) ∧ er'.length ≤ er.length + 2 ∧
      JM W' base g bm vl vd' ve' wv er' (pieceJ J place p) ∧ Kept W W' (Mut g bm vl vd ve) ∧ (∀ k, k < W.heap.size → Mut g bm vl vd' ve' k → Mut g bm vl vd ve k) ∧ Below base W W' := by
  have HJ0 := Aside0.mk h
  have HSL0 := Aside0.mk hs
  have HC := Aside0.mk hc
  have HDL := Aside0.mk hdl
  clear h hs hc hdl
  go_enter Tryd.func58, Tryd.ntmps58
  go_upto_block 0 with (fail)
  have hbw := below_alloc (Below.refl _ W) (.cells #[.bool p.f0, .bool p.f1, .int .i64 p.f2, .slice A p.f3.length c] 29)
  have HB1 := Aside0.mk hbw
  have HJ := Aside0.mk (jm_below HJ0.out hbw)
  have HSL := Aside0.mk (HSL0.out.kept (kept_of_below hbw _) (fun _ _ h => h))
  have HP := Aside0.mk (new1 W (.cells #[.bool p.f0, .bool p.f1, .int .i64 p.f2, .slice A p.f3.length c] 29))
  have hP5 : ¬ Mut g bm vl vd ve W.heap.size := fun e => absurd (mut_lt HJ0.out _ e) (Nat.lt_irrefl _)
  have HP5 := Aside0.mk hP5
  have HPG := Aside0.mk (show W.heap.size < (W.alloc (.cells #[.bool p.f0, .bool p.f1, .int .i64 p.f2, .slice A p.f3.length c] 29)).heap.size by rw [World.size_alloc]; omega)
  clear hbw hP5
  obtain ⟨g5, hg5⟩ : ∃ q, W.heap.size = q := ⟨_, rfl⟩
  rw [hg5] at HP HP5 HPG
  simp only [hg5]
  generalize W.alloc (.cells #[.bool p.f0, .bool p.f1, .int .i64 p.f2, .slice A p.f3.length c] 29) = W1 at HB1 HJ HSL HP HPG ⊢
  have hgg := HJ.out.hg
  have c6 := blk_cell hgg 6
  simp at c6
  obtain ⟨p0, p1, p2, p3⟩ := cells4 HP.out
  clear hgg
  generalize pc p.f0 p.f1 p.f2 A p.f3.length c = v2
  go_cut [5] (fun v5 wc => v5 = .pointer (some ⟨g5, 0, none⟩) ∧ ∃ ve1 er1, er1.length ≤ er.length + 1 ∧ JM wc base g bm vl vd ve1 wv er1 (badJ J place p.f0) ∧ Kept W1 wc (Mut g bm vl vd ve) ∧ (∀ k, k < W1.heap.size → Mut g bm vl vd ve1 k → Mut g bm vl vd ve k) ∧ Below base W1 wc)
  case first =>
    cases hb0 : p.f0 with
    | true =>
      have HB0 := Aside0.mk hb0
      rw [hb0] at p0
      clear hb0
      by_cases hm : J.mode = 1
      · have hm1 : (J.mode == 1) = true := by simpa using hm
        have HM := Aside0.mk hm
        clear hm
        go_wp2_with (fail)
        refine (tell_any W1 base g bm vl vd ve wv er J 2 place 0 HJ.out hnm (Nat.le_trans hb HB1.out.size) (by omega)).mono ?_
        rintro e2 w2 ⟨ve', ⟨v2', rfl⟩, hJ2, hk2, hm2, hb2⟩
        have HX := Aside0.mk (And.intro hJ2 (And.intro hk2 (And.intro hm2 hb2)))
        clear hJ2 hk2 hm2 hb2
        go_wp2
        go_meet
        refine ⟨rfl, ve', er ++ [[.int .i64 2, .slice none 0 0, .int .i64 (Int.tmod place J.nm), .int .i64 0]], by simp, ?_, HX.out.2.1, HX.out.2.2.1, HX.out.2.2.2⟩
        have e : badJ J place p.f0 = tellJ J 2 place 0 := by rw [badJ, HB0.out]; simp [HM.out]
        rw [e]
        exact HX.out.1
      · have hm1 : (J.mode == 1) = false := by simpa using hm
        have HM := Aside0.mk hm
        clear hm
        go_wp2
        go_meet
        refine ⟨rfl, ve, er, by omega, ?_, Kept.refl _ _, fun _ _ h => h, Below.refl _ _⟩
        have e : badJ J place p.f0 = J := by rw [badJ, HB0.out]; simp [HM.out]
        rw [e]
        exact HJ.out
    | false =>
      have HB0 := Aside0.mk hb0
      rw [hb0] at p0
      clear hb0
      by_cases hm : J.mode = 0
      · have hm1 : (J.mode == 0) = true := by simpa using hm
        have HM := Aside0.mk hm
        clear hm
        go_wp2_with (fail)
        refine (tell_any W1 base g bm vl vd ve wv er J 2 place 0 HJ.out hnm (Nat.le_trans hb HB1.out.size) (by omega)).mono ?_
        rintro e2 w2 ⟨ve', ⟨v2', rfl⟩, hJ2, hk2, hm2, hb2⟩
        have HX := Aside0.mk (And.intro hJ2 (And.intro hk2 (And.intro hm2 hb2)))
        clear hJ2 hk2 hm2 hb2
        go_wp2
        go_meet
        refine ⟨rfl, ve', er ++ [[.int .i64 2, .slice none 0 0, .int .i64 (Int.tmod place J.nm), .int .i64 0]], by simp, ?_, HX.out.2.1, HX.out.2.2.1, HX.out.2.2.2⟩
        have e : badJ J place p.f0 = tellJ J 2 place 0 := by rw [badJ, HB0.out]; simp [HM.out]
        rw [e]
        exact HX.out.1
      · have hm1 : (J.mode == 0) = false := by simpa using hm
        have HM := Aside0.mk hm
        clear hm
        go_wp2
        go_meet
        refine ⟨rfl, ve, er, by omega, ?_, Kept.refl _ _, fun _ _ h => h, Below.refl _ _⟩
        have e : badJ J place p.f0 = J := by rw [badJ, HB0.out]; simp [HM.out]
        rw [e]
        exact HJ.out
  case rest =>
    obtain ⟨rfl, ve1, er1, hle, hJ1, hk1, hm1, hbb1⟩ := hcut
    have HJ1 := Aside0.mk hJ1
    have HK1 := Aside0.mk hk1
    have HM1 := Aside0.mk hm1
    have HBB1 := Aside0.mk hbb1
    have HLE := Aside0.mk hle
    clear hJ1 hk1 hm1 hbb1 hle c6 p0 p1 p2 p3
    go_upto_block 1 with (fail)
    obtain ⟨W2, hW2⟩ : ∃ V, V = wc := ⟨_, rfl⟩
    subst hW2
    have HP2 := Aside0.mk ((HK1.out.2 g5 HPG.out HP5.out).trans HP.out)
    have HSL2 := Aside0.mk (HSL.out.kept HK1.out HM1.out)
    obtain ⟨J1, hJ1e⟩ : ∃ q, badJ J place p.f0 = q := ⟨_, rfl⟩
    have HJE := Aside0.mk hJ1e
    rw [hJ1e] at HJ1
    have hdl1 : J1.data.length + p.f3.length ≤ 10000000 := by rw [← hJ1e, badJ]; split <;> exact HDL.out
    have HDL1 := Aside0.mk hdl1
    clear hJ1e hdl1
    obtain ⟨p0, p1, p2, p3⟩ := cells4 HP2.out
    have hgg := HJ1.out.hg
    have c6 := blk_cell hgg 6
    have c7 := blk_cell hgg 7
    have fz : ∀ j, W2.frozen? ⟨g, j, none⟩ = false := fun j => blk_frozen hgg j
    simp at c6 c7
    obtain ⟨Ad, cd, rfl⟩ := Kd.R_slice HJ1.out.hdata
    clear hgg
    go_cut [5] (fun v5 wc => v5 = .pointer (some ⟨g5, 0, none⟩) ∧ ∃ vd2, JM wc base g bm vl vd2 ve1 wv er1 (if p.f0 then { J1 with mode := 1, data := p.f3 } else { J1 with data := J1.data ++ p.f3 }) ∧ (p.f0 = true ∨ J1.mode = 1) ∧ Kept W2 wc (Mut g bm vl (.slice Ad J1.data.length cd) ve1) ∧ (∀ k, k < W2.heap.size → Mut g bm vl vd2 ve1 k → Mut g bm vl (.slice Ad J1.data.length cd) ve1 k) ∧ Below base W2 wc)
    case first =>
      cases hb0 : p.f0 with
      | true =>
        have HB0 := Aside0.mk hb0
        rw [hb0] at p0
        clear hb0
        go_wp2_with (fail)
        refine (clone_any A p.f3.length c p.f3 W2 (Kd.F_now HSL2.out) HC.out (Sb.C_none (Kd.F_now HSL2.out)) (by have := HDL1.out; omega)).mono ?_
        rintro ex3 w3 ⟨A3, c3, rfl, hcc3, hR3, hb3⟩
        have HJ3 := Aside0.mk (jm_below HJ1.out hb3)
        have HR3 := Aside0.mk hR3
        have HB3 := Aside0.mk hb3
        have hg3 := HJ3.out.hg
        have y6 := blk_cell hg3 6
        have y7 := blk_cell hg3 7
        have fz3 : ∀ j, w3.frozen? ⟨g, j, none⟩ = false := fun j => blk_frozen hg3 j
        simp at y6 y7
        clear hcc3 hR3 hb3 hg3
        go_wp2
        go_meet
        have hs := blk_set (blk_set HJ3.out.hg 6 (.int .i64 1)) 7 (.slice A3 p.f3.length c3)
        have hk : Kept W2 ((w3.setCell ⟨g, 6, none⟩ (.int .i64 1)).setCell ⟨g, 7, none⟩ (.slice A3 p.f3.length c3)) (fun k => k = g ∨ some k = (Value.slice Ad J1.data.length cd).ownBlock) :=
          ⟨by simpa [World.setCell] using HB3.out.size, fun k hk1 hs => ((far_cell _ g 7 k _ (fun e => hs (.inl e))).trans (far_cell _ g 6 k _ (fun e => hs (.inl e)))).trans (HB3.out.block k hk1)⟩
        have hRn := Kd.R_set (Kd.R_set HR3.out HJ3.out.hg (by intro q hq; simp [Kd.int, Kd.scalar] at hq; subst hq; decide) 6 (.int .i64 1)) (blk_set HJ3.out.hg 6 (.int .i64 1)) (by intro q hq; simp [Kd.int, Kd.scalar] at hq; subst hq; decide) 7 (.slice A3 p.f3.length c3)
        have hfresh := Kd.R_base HR3.out
        have hbW2 : base ≤ W2.heap.size := Nat.le_trans hb (Nat.le_trans HB1.out.size HK1.out.1)
        obtain ⟨h1, h2, h3⟩ := JM_data (J' := { J1 with mode := 1, data := p.f3 }) HJ1.out hk (by simpa using hs) (Kd.R_lower hRn hbW2) (fun k hk1 hm => absurd (hfresh k hm.symm) (by omega)) rfl rfl rfl
        refine ⟨rfl, _, by rw [if_pos HB0.out]; exact h1, .inl HB0.out, h2, h3, ?_⟩
        exact ((HB3.out.mono hbW2).setCell (p := ⟨g, 6, none⟩) HJ1.out.hgb _).setCell (p := ⟨g, 7, none⟩) HJ1.out.hgb _
      | false =>
        have HB0 := Aside0.mk hb0
        rw [hb0] at p0
        clear hb0
        by_cases hm : J1.mode = 1
        · have hm1 : (J1.mode == 1) = true := by simpa using hm
          have HM := Aside0.mk hm
          clear hm
          go_wp2_with (fail)
          have hbW2 : base ≤ W2.heap.size := Nat.le_trans hb (Nat.le_trans HB1.out.size HK1.out.1)
          go_region_law (refine Kd.R_append_rows_step (Kd.int .u8) (w0 := W2) (W := W2.drew) base ?aW (.tmp 54) (.tmp 56) 22 5 (.int .u8 0) 1 ?aU Tryd.underlying22 info5 rfl (by decide) (by decide) (.slice Ad J1.data.length cd) J1.data p.f3 A p.f3.length c (fun _ => True) (fun _ => False) ?aV ?aX ?aO ?aR (fun _ _ h => h) (fun _ h => h.elim) (fun _ _ => trivial) ?aB ?aS ?aL ?_; (case aW => rfl); (case aU => rfl); (case aV => rfl); (case aX => rfl); (case aO => exact Kd.R_drew HJ1.out.hdata); (case aR => exact Kd.C_drew (Kd.F_now HSL2.out)); (case aB => exact below_drew (Below.refl _ _)); (case aS => exact hbW2); (case aL => have := HDL1.out; omega); intro v1 w9 ho hb9 hg hat; obtain ⟨A9, c9, rfl⟩ := Kd.R_slice ho; have HO := Aside0.mk ho; have HBB := Aside0.mk hb9; have HG := Aside0.mk hg; have HAT := Aside0.mk hat; have hg9 := blk_grown (w := W2.drew) HJ1.out.hg hg (Kd.R_ne HJ1.out.hdata HJ1.out.hg (by decide)); have HG9 := Aside0.mk hg9; have y7 := blk_cell hg9 7; have fz9 : ∀ j, w9.frozen? ⟨g, j, none⟩ = false := fun j => blk_frozen hg9 j; simp at y7; clear ho hb9 hg hat hg9)
          all_goals
            go_wp2
            go_meet
            have hHO := HO.out
            have hs := blk_set HG9.out 7 (.slice A9 (J1.data ++ p.f3).length c9)
            have hk : Kept W2 (w9.setCell ⟨g, 7, none⟩ (.slice A9 (J1.data ++ p.f3).length c9)) (fun k => k = g ∨ some k = (Value.slice Ad J1.data.length cd).ownBlock) :=
              ⟨by simpa [World.setCell] using HG.out.size, fun k hk1 hs => (far_cell _ g 7 k _ (fun e => hs (.inl e))).trans (HG.out.block k hk1 (fun e => hs (.inr e)))⟩
            have hRn := Kd.R_set hHO HG9.out (by intro q hq; simp [Kd.int, Kd.scalar] at hq; subst hq; decide) 7 (.slice A9 (J1.data ++ p.f3).length c9)
            obtain ⟨h1, h2, h3⟩ := JM_data (J' := { J1 with data := J1.data ++ p.f3 }) HJ1.out hk (by simpa using hs) hRn (fun k hk1 hm => by
              rcases HAT.out with e | ⟨b, e, hb'⟩
              · exact hm.trans e
              · rw [e] at hm; cases hm; exact absurd hb' (Nat.not_le.2 hk1)) rfl rfl rfl
            have hbf := HBB.out.setCell (p := ⟨g, 7, none⟩) HJ1.out.hgb (.slice A9 (J1.data ++ p.f3).length c9)
            simp only [List.length_append] at h1 h2 h3 hbf
            exact ⟨rfl, _, by rw [if_neg (by rw [HB0.out]; decide)]; exact h1, .inr HM.out, h2, h3, hbf⟩
        · have hm1 : (J1.mode == 1) = false := by simpa using hm
          have HM := Aside0.mk hm
          clear hm
          go_wp2
          refine bodyPost_ret (results_none rfl _ _ _) rfl ?_
          have hs := blk_set HJ1.out.hg 6 (.int .i64 2)
          have hk : Kept W2 (W2.setCell ⟨g, 6, none⟩ (.int .i64 2)) (fun k => k = g) := ⟨by simp [World.setCell], fun k _ hs => far_cell _ g 6 k _ hs⟩
          obtain ⟨h1, h2, h3⟩ := JM_cells (J' := { J1 with mode := 2 }) HJ1.out hk (by simpa using hs) (.inl ⟨rfl, rfl⟩) (.inl ⟨rfl, rfl, rfl⟩) rfl rfl
          have hp : pieceJ J place p = { J1 with mode := 2 } := by
            rw [pieceJ, HJE.out, if_neg (by rw [HB0.out]; decide), if_neg (by rw [hm1]; decide)]
          rw [hp]
          have hk01 := kept_trans (kept_of_below HB1.out (Mut g bm vl (.slice Ad J1.data.length cd) ve)) HK1.out (fun _ _ h => h)
          refine ⟨_, _, _, ⟨_, rfl⟩, by have := HLE.out; omega, h1, kept_trans hk01 h2 (fun k hk1 hm => HM1.out k (Nat.lt_of_lt_of_le hk1 HB1.out.size) hm), fun k hk1 hm => HM1.out k (Nat.lt_of_lt_of_le hk1 HB1.out.size) (h3 k (Nat.lt_of_lt_of_le hk1 hk01.1) hm), ?_⟩
          exact ((HB1.out.mono hb).trans HBB1.out).setCell (p := ⟨g, 6, none⟩) HJ1.out.hgb _
    case rest =>
      obtain ⟨rfl, vd2, hJ3, hor, hk3, hm3, hbb3⟩ := hcut
      obtain ⟨W3, hW3⟩ : ∃ V, V = wc := ⟨_, rfl⟩
      subst hW3
      have HP3 := Aside0.mk ((hk3.2 g5 (Nat.lt_of_lt_of_le HPG.out HK1.out.1) (fun e => HP5.out (HM1.out g5 HPG.out e))).trans HP2.out)
      have hk01 := kept_trans (kept_of_below HB1.out (Mut g bm vl (.slice Ad J1.data.length cd) ve)) HK1.out (fun _ _ h => h)
      obtain ⟨J2, hJ2e⟩ : ∃ q, (if p.f0 then { J1 with mode := 1, data := p.f3 } else { J1 with data := J1.data ++ p.f3 } : Jn) = q := ⟨_, rfl⟩
      rw [hJ2e] at hJ3
      have hpe : pieceJ J place p = doneJ J2 p.f1 := by
        rw [← hJ2e, pieceJ, HJE.out]
        rcases hor with h | h
        · rw [if_pos h, if_pos h]
        · by_cases h0 : p.f0 = true
          · rw [if_pos h0, if_pos h0]
          · rw [if_neg h0, if_neg h0, if_pos (by simpa using h)]
      obtain ⟨A2, c2, rfl⟩ := Kd.R_slice hJ3.hdata
      obtain ⟨Ae, ce, rfl⟩ := Kd.R_slice hJ3.hevs
      have HJ3 := Aside0.mk hJ3
      have hbW3 : base ≤ W3.heap.size := Nat.le_trans hb (Nat.le_trans hk01.1 hk3.1)
      have HBW3 := Aside0.mk hbW3
      have hm01 : ∀ k, k < W.heap.size → Mut g bm vl (.slice Ad J1.data.length cd) (.slice Ae er1.length ce) k → Mut g bm vl (.slice Ad J1.data.length cd) ve k := fun k hk1 hm => HM1.out k (Nat.lt_of_lt_of_le hk1 HB1.out.size) hm
      have HK03 := Aside0.mk (kept_trans hk01 hk3 hm01)
      have HM03 := Aside0.mk (show ∀ k, k < W.heap.size → Mut g bm vl (.slice A2 J2.data.length c2) (.slice Ae er1.length ce) k → Mut g bm vl (.slice Ad J1.data.length cd) ve k from fun k hk1 hm => hm01 k hk1 (hm3 k (Nat.lt_of_lt_of_le hk1 hk01.1) hm))
      have HB03 := Aside0.mk (((HB1.out.mono hb).trans HBB1.out).trans hbb3)
      have HPE := Aside0.mk hpe
      have hlen1 : er1.length ≤ 90001 := by have := HLE.out; omega
      obtain ⟨p0, p1, p2, p3⟩ := cells4 HP3.out
      have hgg := hJ3.hg
      have c7 := blk_cell hgg 7
      have c2' := blk_cell hgg 2
      have c8 := blk_cell hgg 8
      have fz : ∀ j, W3.frozen? ⟨g, j, none⟩ = false := fun j => blk_frozen hgg j
      have t8 : ∀ o : Obj, (W3.alloc o).cell? ⟨g, 8, none⟩ = some (.slice Ae er1.length ce) := fun o => by have := blk_cell (blk_keep hgg (below_alloc (Below.refl _ W3) o)) 8; simpa using this
      have t7 : ∀ o : Obj, (W3.alloc o).cell? ⟨g, 7, none⟩ = some (.slice A2 J2.data.length c2) := fun o => by have := blk_cell (blk_keep hgg (below_alloc (Below.refl _ W3) o)) 7; simpa using this
      simp at c7 c2' c8
      clear hgg hJ3 hor hk3 hm3 hbb3 hk01 hm01 hJ2e hpe hbW3
      go_wp2_with (fail)
      go_region_held3 (fun w' => w'.cell? ⟨g, 7, none⟩ = some (.slice A2 J2.data.length c2) ∧ w'.cell? ⟨g, 2, none⟩ = some (.int .i64 J2.most)) (first | go_keep) (first | fail)
      have HJ4 := Aside0.mk (jm_drew HJ3.out)
      have HP4 := Aside0.mk (show W3.drew.heap[g5]? = _ from HP3.out)
      have HBW4 := Aside0.mk (show base ≤ W3.drew.heap.size from HBW3.out)
      have HK04 := Aside0.mk (show Kept W W3.drew (Mut g bm vl (.slice Ad J1.data.length cd) ve) from HK03.out)
      have HB04 := Aside0.mk (below_drew HB03.out)
      clear c7 c2' c8 fz t8 t7 p0 p1 p2 p3
      generalize W3.drew = W4 at HJ4 HP4 HBW4 HK04 HB04 ⊢
      obtain ⟨p0, p1, p2, p3⟩ := cells4 HP4.out
      have hgg := HJ4.out.hg
      have c6 := blk_cell hgg 6
      have c7 := blk_cell hgg 7
      have c8 := blk_cell hgg 8
      have fz : ∀ j, W4.frozen? ⟨g, j, none⟩ = false := fun j => blk_frozen hgg j
      have t8 : ∀ o : Obj, (W4.alloc o).cell? ⟨g, 8, none⟩ = some (.slice Ae er1.length ce) := fun o => by have := blk_cell (blk_keep hgg (below_alloc (Below.refl _ W4) o)) 8; simpa using this
      have t7 : ∀ o : Obj, (W4.alloc o).cell? ⟨g, 7, none⟩ = some (.slice A2 J2.data.length c2) := fun o => by have := blk_cell (blk_keep hgg (below_alloc (Below.refl _ W4) o)) 7; simpa using this
      simp at c6 c7 c8
      clear hgg
      by_cases hmost : J2.most < (J2.data.length : Int)
      · have hd1 : decide (J2.most < (J2.data.length : Int)) = true := decide_eq_true hmost
        have HD := Aside0.mk hmost
        go_wp2_with (at_builtin; (refine Kd.R_append (rawK 4) (w0 := W4) (W := W4) base ?aW (.tmp 75) (.tmp 77) 72 84 (.agg #[.int .i64 0, .slice none 0 0, .int .i64 0, .int .i64 0]) 48 ?aU Tryd.underlying72 info84 rfl (by decide) (by decide) (.slice Ae er1.length ce) er1 [.int .i64 3, .slice none 0 0, .int .i64 0, .int .i64 0] [.int .i64 3, .slice none 0 0, .int .i64 0, .int .i64 0] (fun _ => True) (fun _ => False) ?aV ?aX ?aP (fun _ h => h.elim) (fun _ _ => trivial) ?aO ?aB ?aS ?aL ?_); (case aW => rfl); (case aU => rfl); (case aV => rfl); (case aX => rfl); (case aP => exact raw_M _ _ _ _ rfl (by simp [Value.oneCell'])); (case aO => exact HJ4.out.hevs); (case aB => exact Below.refl _ _); (case aS => exact HBW4.out); (case aL => omega); intro v1 w9 ho hb9 hg hat; obtain ⟨A9, c9, rfl⟩ := Kd.R_slice ho; have HO := Aside0.mk ho; have HBB := Aside0.mk hb9; have HG := Aside0.mk hg; have HAT := Aside0.mk hat; have hg9 := blk_grown HJ4.out.hg hg (Kd.R_ne HJ4.out.hevs HJ4.out.hg (by decide)); have HG9 := Aside0.mk hg9; have y8 := blk_cell hg9 8; have y7 := blk_cell hg9 7; have y6 := blk_cell hg9 6; have fz9 : ∀ j, w9.frozen? ⟨g, j, none⟩ = false := fun j => blk_frozen hg9 j; simp at y8 y7 y6; clear ho hb9 hg hat hg9)
        go_end0
        obtain ⟨h1, h2, h3, h4⟩ := JM_event HJ4.out HO.out HBB.out HG.out HAT.out (e := ⟨3, [], 0, 0⟩) ⟨none, 0, rfl, Nat.le_refl _, Kd.F_nil _ _ _⟩
        have hs := blk_set (blk_set h1.hg 6 (.int .i64 2)) 7 (.slice none 0 0)
        have hk : Kept (w9.setCell ⟨g, 8, none⟩ (.slice A9 (er1 ++ [([.int .i64 3, .slice none 0 0, .int .i64 0, .int .i64 0] : List Value)]).length c9)) (((w9.setCell ⟨g, 8, none⟩ (.slice A9 (er1 ++ [([.int .i64 3, .slice none 0 0, .int .i64 0, .int .i64 0] : List Value)]).length c9)).setCell ⟨g, 6, none⟩ (.int .i64 2)).setCell ⟨g, 7, none⟩ (.slice none 0 0)) (fun k => k = g) :=
          ⟨by simp [World.setCell], fun k _ hs => (far_cell _ g 7 k _ hs).trans (far_cell _ g 6 k _ hs)⟩
        obtain ⟨q1, q2, q3⟩ := JM_cells (J' := { J2 with evs := J2.evs ++ [⟨3, [], 0, 0⟩], mode := 2, data := [] }) h1 hk (by simpa using hs) (.inr ⟨rfl, rfl⟩) (.inl ⟨rfl, rfl, rfl⟩) rfl rfl
        have hbf := (h4.setCell (p := ⟨g, 6, none⟩) HJ4.out.hgb (.int .i64 2)).setCell (p := ⟨g, 7, none⟩) HJ4.out.hgb (.slice none 0 0)
        have hdn : doneJ J2 p.f1 = { J2 with evs := J2.evs ++ [⟨3, [], 0, 0⟩], mode := 2, data := [] } := by rw [doneJ, if_pos hmost]
        rw [HPE.out, hdn]
        have hkk := kept_trans HK04.out (kept_trans h2 q2 h3) (fun k hk1 hm => HM03.out k hk1 hm)
        have hmm : ∀ k, k < W.heap.size → Mut g bm vl (.slice none 0 0) (.slice A9 (er1 ++ [([.int .i64 3, .slice none 0 0, .int .i64 0, .int .i64 0] : List Value)]).length c9) k → Mut g bm vl (.slice Ad J1.data.length cd) ve k := fun k hk1 hm => HM03.out k hk1 (h3 k (Nat.lt_of_lt_of_le hk1 HK04.out.1) (q3 k (Nat.lt_of_lt_of_le (Nat.lt_of_lt_of_le hk1 HK04.out.1) h2.1) hm))
        have hbel := HB04.out.trans hbf
        have hle3 : (er1 ++ [([.int .i64 3, .slice none 0 0, .int .i64 0, .int .i64 0] : List Value)]).length ≤ er.length + 2 := by rw [List.length_append]; have := HLE.out; simp; omega
        simp only [List.length_append, List.length_singleton] at q1 hkk hmm hbel
        exact ⟨_, _, _, ⟨_, rfl⟩, hle3, q1, hkk, hmm, hbel⟩
      · have hd1 : decide (J2.most < (J2.data.length : Int)) = false := decide_eq_false hmost
        have HD := Aside0.mk hmost
        cases hb1 : p.f1 with
        | true =>
          have HB1' := Aside0.mk hb1
          rw [hb1] at p1
          clear hb1
          go_wp2_with (fail)
          go_region_law (refine Kd.R_append_step (rawK 4) (w0 := W4) (W := W4.drew) base ?aW (.tmp 94) (.tmp 100) 72 84 (.agg #[.int .i64 0, .slice none 0 0, .int .i64 0, .int .i64 0]) 48 ?aU Tryd.underlying72 info84 rfl (by decide) (by decide) (.slice Ae er1.length ce) er1 [.int .i64 0, .slice A2 J2.data.length c2, .int .i64 0, .int .i64 0] [.int .i64 0, .slice A2 J2.data.length c2, .int .i64 0, .int .i64 0] (fun _ => True) (fun _ => False) ?aV ?aX ?aP (fun _ h => h.elim) (fun _ _ => trivial) ?aO ?aB ?aS ?aL ?_; (case aW => rfl); (case aU => rfl); (case aV => rfl); (case aX => rfl); (case aP => exact raw_M _ _ _ _ rfl (by simp [Value.oneCell'])); (case aO => exact Kd.R_drew HJ4.out.hevs); (case aB => exact below_drew (Below.refl _ _)); (case aS => exact HBW4.out); (case aL => omega); intro v1 w9 ho hb9 hg hat; obtain ⟨A9, c9, rfl⟩ := Kd.R_slice ho; have HO := Aside0.mk ho; have HBB := Aside0.mk hb9; have HG := Aside0.mk (show W4.grownBy w9 _ from ⟨hg.os, hg.tape, hg.output, hg.size, hg.block⟩); have HAT := Aside0.mk hat; have hg9 := blk_grown (w := W4.drew) HJ4.out.hg hg (Kd.R_ne HJ4.out.hevs HJ4.out.hg (by decide)); have HG9 := Aside0.mk hg9; have y8 := blk_cell hg9 8; have y7 := blk_cell hg9 7; have y6 := blk_cell hg9 6; have fz9 : ∀ j, w9.frozen? ⟨g, j, none⟩ = false := fun j => blk_frozen hg9 j; simp at y8 y7 y6; clear ho hb9 hg hat hg9)
          all_goals go_wp2
          all_goals
            go_end0
            obtain ⟨h1, h2, h3, h4⟩ := JM_whole HJ4.out HO.out HBB.out HG.out HAT.out
            have hdn : doneJ J2 p.f1 = { J2 with evs := J2.evs ++ [⟨0, J2.data, 0, 0⟩], mode := 0, data := [] } := by rw [doneJ, if_neg (by have := HD.out; omega), HB1'.out, if_pos rfl]
            rw [HPE.out, hdn]
            have hkk := kept_trans HK04.out h2 (fun k hk1 hm => HM03.out k hk1 hm)
            have hmm : ∀ k, k < W.heap.size → Mut g bm vl (.slice none 0 0) (.slice A9 (er1 ++ [([.int .i64 0, .slice A2 J2.data.length c2, .int .i64 0, .int .i64 0] : List Value)]).length c9) k → Mut g bm vl (.slice Ad J1.data.length cd) ve k := fun k hk1 hm => HM03.out k hk1 (h3 k (Nat.lt_of_lt_of_le hk1 HK04.out.1) hm)
            have hbel := HB04.out.trans h4
            have hle3 : (er1 ++ [([.int .i64 0, .slice A2 J2.data.length c2, .int .i64 0, .int .i64 0] : List Value)]).length ≤ er.length + 2 := by rw [List.length_append]; have := HLE.out; simp; omega
            simp only [List.length_append, List.length_singleton] at h1 hkk hmm hbel
            exact ⟨_, _, _, ⟨_, rfl⟩, hle3, h1, hkk, hmm, hbel⟩
        | false =>
          have HB1' := Aside0.mk hb1
          rw [hb1] at p1
          clear hb1
          go_wp2
          go_end0
          have e : doneJ J2 p.f1 = J2 := by rw [doneJ, if_neg (by have := HD.out; omega), HB1'.out]; rfl
          rw [HPE.out, e]
          exact ⟨⟨_, rfl⟩, _, _, er1, by have := HLE.out; omega, HJ4.out, HK04.out, fun k hk1 hm => HM03.out k (by rw [hg5]; exact hk1) hm, HB04.out⟩

end Go.Proofs.YtgopklnfdlnojaaDoor.Jc
