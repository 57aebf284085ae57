/- The joiner of the document is fed. -/
import Derived.Test.YtgopklnfdlnojaaDoorPj6
import Derived.Test.YtgopklnfdlnojaaDoorPj4
namespace Go.Proofs.YtgopklnfdlnojaaDoor.Lg
open Go.RowKit Go.Proofs.YtgopklnfdlnojaaDoor.Lz Go.Proofs.YtgopklnfdlnojaaDoor.La Go.Proofs.YtgopklnfdlnojaaDoor.Lb Go.Proofs.YtgopklnfdlnojaaDoor.Ga Go.Proofs.YtgopklnfdlnojaaDoor.My Go.Proofs.YtgopklnfdlnojaaDoor.Gb Go.Proofs.YtgopklnfdlnojaaDoor.Gp Go.Proofs.YtgopklnfdlnojaaDoor.Ja Go.Proofs.YtgopklnfdlnojaaDoor.Jb Go.Proofs.YtgopklnfdlnojaaDoor.Jc Go.Proofs.YtgopklnfdlnojaaDoor.Je Go.Proofs.YtgopklnfdlnojaaDoor.Ka Go.Proofs.YtgopklnfdlnojaaDoorW.PrintWords Go.Proofs.YtgopklnfdlnojaaDoorW.PrintLast Go.Proofs.YtgopklnfdlnojaaDoorW.PrintMore Go.Proofs.YtgopklnfdlnojaaDoor.Lc Go.Proofs.YtgopklnfdlnojaaDoor.Ld Go.Proofs.YtgopklnfdlnojaaDoor.Le Go.Proofs.YtgopklnfdlnojaaDoor.Lf Go.Proofs.YtgopklnfdlnojaaDoor.Jg Go.Proofs.YtgopklnfdlnojaaDoor.Jh
set_option linter.unusedVariables false
set_option linter.unusedSimpArgs false

/-- While the document is fed: the joiner, the piece in a block of its own; nothing elder has been written. -/
structure DG (W0 W : World) (base : Nat) (P : Nat → Prop) (g1 g2 g3 : Nat) (u : Option Nat) (vl vw vd vt : Value) (ws : List (Int × S29)) (J : Jn) (p : S29) (A : Option Addr) (c : Nat) : Prop where
  dj : DJ W0 W base P g1 g2 u vl vw vd vt ws J
  nb : Below W0.heap.size W0 W
  b3 : W.heap[g3]? = some (.cells #[.bool p.f0, .bool p.f1, .int .i64 p.f2, .slice A p.f3.length c] 24 (0, 0))
  pv : Kd.V (Kd.int .u8) 5 W base (fun k => Not2 P g1 g2 k ∧ some k ≠ vt.ownBlock) (.slice A p.f3.length c) p.f3
  n31 : g3 ≠ g1
  n32 : g3 ≠ g2

section
variable {W0 W W' : World} {base g1 g2 g3 : Nat} {P : Nat → Prop} {u : Option Nat} {vl vw vd vt : Value} {ws : List (Int × S29)} {J : Jn} {p : S29} {A : Option Addr} {c : Nat}
theorem DG.below (h : DG W0 W base P g1 g2 g3 u vl vw vd vt ws J p A c) (hb : Below W.heap.size W W') : DG W0 W' base P g1 g2 g3 u vl vw vd vt ws J p A c :=
  ⟨h.dj.below hb, h.nb.trans (hb.mono h.nb.size), blk_keep h.b3 hb, Kd.V_below h.pv hb, h.n31, h.n32⟩
theorem DG.cells (h : DG W0 W base P g1 g2 g3 u vl vw vd vt ws J p A c) : W.cell? ⟨g3, 0, none⟩ = some (.bool p.f0) ∧ W.cell? ⟨g3, 1, none⟩ = some (.bool p.f1) ∧ W.cell? ⟨g3, 2, none⟩ = some (.int .i64 p.f2) ∧ W.cell? ⟨g3, 3, none⟩ = some (.slice A p.f3.length c) := cells4 h.b3
theorem DG.put {vl' vw' vd' : Value} {u' : Option Nat} {ws' : List (Int × S29)} {J' : Jn} {i : Nat} {x : Value} (h : DG W0 W base P g1 g2 g3 u vl vw vd vt ws J p A c) (hj : DJ W0 (W.setCell ⟨g1, i, none⟩ x) base P g1 g2 u' vl' vw' vd' vt ws' J') :
    DG W0 (W.setCell ⟨g1, i, none⟩ x) base P g1 g2 g3 u' vl' vw' vd' vt ws' J' p A c := by
  have hk : Kept W (W.setCell ⟨g1, i, none⟩ x) (fun k => k = g1 ∨ k = g2) := ⟨by simp [World.setCell], fun k _ hs => far_cell W g1 i k _ (fun e => hs (.inl e))⟩
  exact ⟨hj, h.nb.setCell (p := ⟨g1, i, none⟩) h.dj.new1 x, (far_cell W g1 i g3 x h.n31).trans h.b3, Kd.V_kept h.pv hk (fun k hk => hk.1.2), h.n31, h.n32⟩
theorem DJ.setLast (h : DJ W0 W base P g1 g2 u vl vw vd vt ws J) (vl' : Value) (ls : List Int) (hd : Kd.V (Kd.int .i64) 3 W base (fun k => Not2 P g1 g2 k ∧ some k ≠ vt.ownBlock) vl' ls) : DJ W0 (W.setCell ⟨g1, 3, none⟩ vl') base P g1 g2 u vl' vw vd vt ws { J with last := ls } := by
  have hk : Kept W (W.setCell ⟨g1, 3, none⟩ vl') (fun k => k = g1 ∨ k = g2) := ⟨by simp [World.setCell], fun k _ hs => far_cell W g1 3 k _ (fun e => hs (.inl e))⟩
  have hdv : DV W base (Not2 P g1 g2) vl' vw vd vt ws { J with last := ls } := ⟨h.dv.perm, h.dv.nm, hd, h.dv.wait, h.dv.data, h.dv.told⟩
  refine ⟨by have := blk_set h.b1 3 vl'; simpa using this, (far_cell W g1 3 g2 vl' (fun e => h.ne e.symm)).trans h.b2, h.new1, h.new2, h.ne, hdv.kept hk (fun k hk => hk.2), ?_, h.own, h.bel.setCell (p := ⟨g1, 3, none⟩) (Nat.le_trans h.hb h.new1) vl', h.hb, h.hP⟩
  exact h.kept.setCell (p := ⟨g1, 3, none⟩) (.inr h.new1) vl'
/-- Two rows that are new. -/
theorem DJ.okNew (h : DJ W0 W base P g1 g2 u vl vw vd vt ws J) (k : Nat) (hk : W.heap.size ≤ k) : Not2 P g1 g2 k ∧ some k ≠ vt.ownBlock :=
  ⟨h.hP2 k hk, fun e => by have := Kd.N_lt h.dv.told k e.symm; omega⟩
end

/-- The joiner behind which nothing is told. -/
abbrev mute (J : Jn) : Jn := { J with evs := [] }
theorem place_form {J : Jn} {link num : Int} (h : 0 < J.nm) : placeJ J link num = J.last.getD link.toNat 0 + 1 + (num - (J.last.getD link.toNat 0 + 1)) % J.nm := by
  unfold placeJ
  rw [place_eq _ _ _ h]
theorem row_form {W : World} {base e : Nat} {ok : Nat → Prop} {v : Value} {xs : List Int} (h : (Kd.int .i64).R e W base ok v xs) (hne : xs ≠ []) : ∃ gl cap, v = .slice (some ⟨gl, 0, none⟩) xs.length cap ∧ base ≤ gl := by
  obtain ⟨inner, hown⟩ := Kd.R_own h
  have hpos : 0 < xs.length := List.length_pos_iff.2 hne
  rcases hown.2 with ⟨_, hz⟩ | ⟨gl, cap, cur, rfl, hb, _⟩
  · omega
  · exact ⟨gl, cap, rfl, hb⟩
/-- A place m short of the one that is sought has another number. -/
theorem not_yet {place num m : Int} (h0 : 0 ≤ place - m) (h1 : place % 4096 = num % 4096) (h2 : 0 ≤ num) (h3 : num < 4096) (h4 : 0 < m) (h5 : m < 4096) : Int.tmod (place - m) 4096 ≠ num := by
  rw [Int.tmod_eq_emod_of_nonneg h0]
  omega
theorem at_last {place num : Int} (h0 : 0 ≤ place) (h1 : place % 4096 = num % 4096) (h2 : 0 ≤ num) (h3 : num < 4096) : Int.tmod place 4096 = num := by
  rw [Int.tmod_eq_emod_of_nonneg h0]
  omega
theorem insK_perm {α : Type} (x : Int × α) : ∀ l, (insK x l).Perm (x :: l)
  | [] => List.Perm.refl _
  | y :: r => by
    unfold insK
    split
    · exact List.Perm.refl _
    · exact ((insK_perm x r).cons y).trans (List.Perm.swap x y r)
section
variable {P : Program} {ops : Array Oper} {Q : Exit → Act → World → Prop} {md : Region.Mode} {S : World → Prop} {z : Nat}
/-- Two may come up. -/
theorem AnyT.two {i j : Nat} {o o2 : Oper} {n : Nat} {listed : Array Bool} {a : Act} {w : World} (hr : Region.ready md ops listed = [i, j]) (ho : ops[i]? = some o) (ho2 : ops[j]? = some o2)
    (h : ∀ K : Act → World → Prop, Shut (∀ a w, (i = z ∨ S w) → AnyT P md ops Q S z n (listed.setIfInBounds i true) a w → K a w) → if Region.wanted o (yielded ops a.tmps) = true then Oper.wp P o a w K Q else K (a.put o.dst undef) w)
    (h2 : ∀ K : Act → World → Prop, Shut (∀ a w, (j = z ∨ S w) → AnyT P md ops Q S z n (listed.setIfInBounds j true) a w → K a w) → if Region.wanted o2 (yielded ops a.tmps) = true then Oper.wp P o2 a w K Q else K (a.put o2.dst undef) w) : AnyT P md ops Q S z (n + 1) listed a w := by
  refine ⟨fun h0 => (by rw [h0] at hr; cases hr), fun k hk => ?_⟩
  rw [hr] at hk
  rcases List.mem_cons.1 hk with e | e
  · subst e
    exact wpOp_step ho (fun K' hK => h K' (fun a w hS hW => hK a w ⟨hS, hW⟩))
  · obtain rfl := List.mem_singleton.1 e
    exact wpOp_step ho2 (fun K' hK => h2 K' (fun a w hS hW => hK a w ⟨hS, hW⟩))
end
section
variable {P : Program} {ops : Array Oper} {Q : Exit → Act → World → Prop} {S : World → Prop} {z : Nat}
/-- The same steps, all lists written out. -/
theorem AnyT.beginN {id : Nat} {a : Act} {w : World} (z : Nat) (S : World → Prop) (n : Nat) (l : Array Bool) (hm : P.follows .mixedOrders = true) (hn : ops.size = n) (hl : Array.replicate n false = l)
    (h : AnyT P .any ops Q S z n l a w.drew) : (Code.region id ops true).wp P Q a w := by
  refine AnyT.begin_ z S hm ?_
  rw [hn, hl]
  exact h
theorem AnyT.takeN {i : Nat} {oi : Oper} {v : Value} {n : Nat} {l : Array Bool} {a : Act} {w : World} (N : Option Tmp) (l' : Array Bool) (hi : ops[i]? = some oi) (hN : oi.dst = N) (hl : (l.setIfInBounds i true == l') = true) (hz : Region.waitsFor .any ops z i = true)
    (hs : Region.noSelect ops = true) (hf : Region.free .any ops l i = true) (hr : (Region.ready .any ops l).contains i = true)
    (hQ : ∀ c a w, Q (.panic c) (a.put oi.dst v) w → Q (.panic c) a w) (hy : YieldsIf P ops S oi v a) (hS : S w)
    (h : AnyT P .any ops Q S z n l' (a.put N v) w) : AnyT P .any ops Q S z (n + 1) l a w := by
  have e : l.setIfInBounds i true = l' := by simpa using hl
  subst e
  subst hN
  exact AnyT.take hi hz hs hf hr hQ hy hS h
theorem AnyT.oneN {i : Nat} {o : Oper} {n : Nat} {l : Array Bool} {a : Act} {w : World} (l' : Array Bool) (hr : (Region.ready .any ops l == [i]) = true) (ho : ops[i]? = some o) (hl : (l.setIfInBounds i true == l') = true)
    (h : ∀ K : Act → World → Prop, Shut (∀ a w, (i = z ∨ S w) → AnyT P .any ops Q S z n l' a w → K a w) → if Region.wanted o (yielded ops a.tmps) = true then Oper.wp P o a w K Q else K (a.put o.dst undef) w) : AnyT P .any ops Q S z (n + 1) l a w := by
  have e : l.setIfInBounds i true = l' := by simpa using hl
  subst e
  exact AnyT.one (by simpa using hr) ho h
theorem AnyT.twoN {i j : Nat} {o o2 : Oper} {n : Nat} {l : Array Bool} {a : Act} {w : World} (l1 l2 : Array Bool) (hr : (Region.ready .any ops l == [i, j]) = true) (ho : ops[i]? = some o) (ho2 : ops[j]? = some o2) (hl1 : (l.setIfInBounds i true == l1) = true) (hl2 : (l.setIfInBounds j true == l2) = true)
    (h : ∀ K : Act → World → Prop, Shut (∀ a w, (i = z ∨ S w) → AnyT P .any ops Q S z n l1 a w → K a w) → if Region.wanted o (yielded ops a.tmps) = true then Oper.wp P o a w K Q else K (a.put o.dst undef) w)
    (h2 : ∀ K : Act → World → Prop, Shut (∀ a w, (j = z ∨ S w) → AnyT P .any ops Q S z n l2 a w → K a w) → if Region.wanted o2 (yielded ops a.tmps) = true then Oper.wp P o2 a w K Q else K (a.put o2.dst undef) w) : AnyT P .any ops Q S z (n + 1) l a w := by
  have e1 : l.setIfInBounds i true = l1 := by simpa using hl1
  have e2 : l.setIfInBounds j true = l2 := by simpa using hl2
  subst e1
  subst e2
  exact AnyT.two (by simpa using hr) ho ho2 h h2
theorem AnyT.doneN {l : Array Bool} {a : Act} {w : World} (hr : (Region.ready .any ops l == []) = true) (h : Q .normal a w) : ∀ n, AnyT P .any ops Q S z n l a w := AnyT.done (by simpa using hr) h
end

set_option maxHeartbeats 16000000 in
set_option maxRecDepth 100000 in
theorem feed_doc (W : World) (base : Nat) (P : Nat → Prop) (vl vw vd vt : Value) (ws : List (Int × S29)) (J : Jn) (K link : Int) (p : S29) (A : Option Addr) (c : Nat) (h : DV W base P vl vw vd vt ws J) (ok : OkJ (mute J) K) (hst : stepJ (mute J) = none) (hK : K ≤ 100000000000) (hroom : 0 ≤ J.room) (hP : ∀ k, W.heap.size ≤ k → P k) (hb : base ≤ W.heap.size) (hlen : 2 * phi (mute J) ≤ 60000) (hll : J.last.length ≤ 100)
    (hp : Kd.V (Kd.int .u8) 5 W base (fun k => P k ∧ some k ≠ vt.ownBlock) (.slice A p.f3.length c) p.f3) (hpl : p.f3.length ≤ 1000) :
    Calls Tryd.prog 34 #[dagg J vl vw vd vt, .int .i64 link, pc p.f0 p.f1 p.f2 A p.f3.length c] W fun e W' => ∃ vl' vw' vd' vt' ws' J' vt2 m, e = .returned (.tuple #[dagg J' vl' vw' vd' vt', vt2, .int .i64 m]) ∧
      DV W' base P vl' vw' vd' vt' ws' J' ∧ Below W.heap.size W W' ∧ feedJ (mute J) link p = (if m = 0 then J' else mute J, m) ∧ ((m ≠ 0 ∧ J' = J ∧ vt2 = .slice none 0 0) ∨ (m = 0 ∧ vt2 = vt')) := by
  obtain ⟨Al, cl, rfl⟩ := Kd.V_slice h.last
  obtain ⟨Aw, nw, cw, rfl⟩ := V_sl h.wait
  obtain ⟨Ad, nd, cd, rfl⟩ := V_sl h.data
  obtain ⟨At, nt, ct, rfl⟩ := N_sl h.told
  have hu63 := Tryd.underlying63
  have HJ := Aside0.mk h
  have HPV := Aside0.mk (And.intro hp hpl)
  have HPP := Aside0.mk hP
  have HOK := Aside0.mk (And.intro ok hst)
  have HLEN := Aside0.mk hlen
  have HLL := Aside0.mk hll
  have HRM := Aside0.mk hroom
  clear h ok hst hlen hll hp hpl hP hroom
  go_enter Tryd.func34, Tryd.ntmps34
  go_upto_region 1 with (fail)
  obtain ⟨hB1, hB3, hB2, hBl, hsz⟩ := three_new W (.cells (dcells J (.slice Al J.last.length cl) (.slice Aw nw cw) (.slice Ad nd cd) (.slice At nt ct)).toArray 63) (.cells #[.bool p.f0, .bool p.f1, .int .i64 p.f2, .slice A p.f3.length c] 24) (.cells zcells 63)
  obtain ⟨g1, hg1⟩ : ∃ g, W.heap.size = g := ⟨_, rfl⟩
  have hs0 : W.heap.size ≤ g1 := by omega
  rw [hg1] at hB1 hB3 hB2
  simp only [hg1]
  obtain ⟨g3, hg3⟩ : ∃ g, g1 + 1 = g := ⟨_, rfl⟩
  have hB2' : (((W.alloc (.cells (dcells J (.slice Al J.last.length cl) (.slice Aw nw cw) (.slice Ad nd cd) (.slice At nt ct)).toArray 63)).alloc (.cells #[.bool p.f0, .bool p.f1, .int .i64 p.f2, .slice A p.f3.length c] 24)).alloc (.cells zcells 63)).heap[g1 + 1 + 1]? = some (.cells zcells 63) := hB2
  clear hB2
  rw [hg3] at hB3 hB2'
  simp only [hg3]
  obtain ⟨g2, hg2⟩ : ∃ g, g3 + 1 = g := ⟨_, rfl⟩
  rw [hg2] at hB2'
  simp only [hg2]
  have hdg : DG W (((W.alloc (.cells (dcells J (.slice Al J.last.length cl) (.slice Aw nw cw) (.slice Ad nd cd) (.slice At nt ct)).toArray 63)).alloc (.cells #[.bool p.f0, .bool p.f1, .int .i64 p.f2, .slice A p.f3.length c] 24)).alloc (.cells zcells 63)) base P g1 g2 g3 (Value.slice At nt ct).ownBlock (.slice Al J.last.length cl) (.slice Aw nw cw) (.slice Ad nd cd) (.slice At nt ct) ws J p A c := by
    refine ⟨DJ.start HJ.out HPP.out hb hBl hB1 hB2' hs0 (by omega) (by omega), hBl, hB3, ?_, by omega, by omega⟩
    refine Kd.V_mono (Kd.V_below (Kd.V_bound HPV.out.1) hBl) (fun k hk => ⟨⟨hk.1.1, by omega⟩, hk.1.2⟩)
  clear hB1 hB3 hB2' hBl hsz hs0 hg1 hg2 hg3
  generalize (((W.alloc (.cells (dcells J (.slice Al J.last.length cl) (.slice Aw nw cw) (.slice Ad nd cd) (.slice At nt ct)).toArray 63)).alloc (.cells #[.bool p.f0, .bool p.f1, .int .i64 p.f2, .slice A p.f3.length c] 24)).alloc (.cells zcells 63)) = W1 at hdg ⊢
  have HD := Aside0.mk hdg
  clear hdg
  generalize pc p.f0 p.f1 p.f2 A p.f3.length c = v2
  obtain ⟨c0, c1, c2, c3, c4, c5, c6, c7, c8⟩ := HD.out.dj.cells
  have fy : ∀ j, W1.frozen? ⟨g2, j, none⟩ = false := fun j => blk_frozen HD.out.dj.b2 j
  obtain ⟨y0, y1, y2, y3, y4, y5, y6, y7, y8⟩ := cells9 HD.out.dj.b2
  have hne12 : g1 ≠ g2 := HD.out.dj.ne
  obtain ⟨bl, hbl⟩ : ∃ b, (decide (link < 0) || decide ((J.last.length : Int) ≤ link)) = b := ⟨_, rfl⟩
  have HBL := Aside0.mk hbl
  clear hbl
  go_cut [22] (fun v22 wc => v22 = .bool bl ∧ wc = W1)
  case first =>
    have hbl := HBL.out
    by_cases hl : link < 0
    · have hd : decide (link < 0) = true := decide_eq_true hl
      have e : bl = true := by rw [← hbl, hd]; rfl
      subst e
      clear hl hbl
      go_wp2
      go_meet
      exact ⟨rfl, rfl⟩
    · have hd : decide (link < 0) = false := decide_eq_false hl
      rw [hd, Bool.false_or] at hbl
      clear hl
      cases bl with
      | true =>
        go_wp2
        go_meet
        exact ⟨rfl, rfl⟩
      | false =>
        go_wp2
        go_meet
        exact ⟨rfl, rfl⟩
  case rest =>
    obtain ⟨rfl, rfl⟩ := hcut
    obtain ⟨W1, hW1⟩ : ∃ V, V = wc := ⟨_, rfl⟩
    subst hW1
    cases bl with
    | true =>
      go_wp2
      obtain ⟨X, hX⟩ : ∃ X, (((((((((W1.setCell ⟨g2, 0, none⟩ (.bool true)).setCell ⟨g2, 1, none⟩ (.int .i64 J.room)).setCell ⟨g2, 2, none⟩ (.int .i64 J.most)).setCell ⟨g2, 3, none⟩ (.slice Al J.last.length cl)).setCell ⟨g2, 4, none⟩ (.slice Aw nw cw)).setCell ⟨g2, 5, none⟩ (.int .i64 J.next)).setCell ⟨g2, 6, none⟩ (.int .i64 J.mode)).setCell ⟨g2, 7, none⟩ (.slice Ad nd cd)).setCell ⟨g2, 8, none⟩ (.slice At nt ct)) = X := ⟨_, rfl⟩
      obtain ⟨r1, r2, r3, r4, r5⟩ := HD.out.dj.answer hX.symm
      have r6 : Below W.heap.size W X := by
        have hB := HD.out.nb
        have n2 := HD.out.dj.new2
        rw [← hX]
        exact ((((((((hB.setCell (p := ⟨g2, 0, none⟩) n2 _).setCell (p := ⟨g2, 1, none⟩) n2 _).setCell (p := ⟨g2, 2, none⟩) n2 _).setCell (p := ⟨g2, 3, none⟩) n2 _).setCell (p := ⟨g2, 4, none⟩) n2 _).setCell (p := ⟨g2, 5, none⟩) n2 _).setCell (p := ⟨g2, 6, none⟩) n2 _).setCell (p := ⟨g2, 7, none⟩) n2 _).setCell (p := ⟨g2, 8, none⟩) n2 _
      rw [hX]
      obtain ⟨x0, x1, x2, x3, x4, x5, x6, x7, x8⟩ := cells9 r1
      refine bodyPost_ret (v := .tuple #[dagg J (.slice Al J.last.length cl) (.slice Aw nw cw) (.slice Ad nd cd) (.slice At nt ct), .slice none 0 0, .int .i64 1]) (by simp [results, Tryd.results34, go_sem, x0, x1, x2, x3, x4, x5, x6, x7, x8]) rfl ?_
      refine ⟨_, _, _, _, ws, J, _, 1, rfl, r2, r6, ?_, .inl ⟨by decide, rfl, rfl⟩⟩
      rw [if_neg (by decide)]
      unfold feedJ
      rw [if_pos (by
        have := HBL.out
        simp only [Bool.or_eq_true, decide_eq_true_eq] at this
        exact this)]
    | false =>
      have hbl := HBL.out
      simp only [Bool.or_eq_false_iff, decide_eq_false_iff_not] at hbl
      have HLK := Aside0.mk (show 0 ≤ link ∧ link < (J.last.length : Int) by omega)
      clear hbl HBL
      obtain ⟨p0, p1, p2, p3⟩ := HD.out.cells
      go_upto_region 4 with (first | (go_at_call 40; refine (mod_true _).mono ?_; rintro e2 w2 ⟨rfl, h2⟩; subst w2))
      obtain ⟨bn, hbn⟩ : ∃ b, (decide (p.f2 < 0) || decide ((4096 : Int) ≤ p.f2)) = b := ⟨_, rfl⟩
      have HBN := Aside0.mk hbn
      clear hbn
      go_cut [35] (fun v35 wc => v35 = .bool bn ∧ wc = W1)
      case first =>
        have hbn := HBN.out
        by_cases hl : p.f2 < 0
        · have hd : decide (p.f2 < 0) = true := decide_eq_true hl
          have e : bn = true := by rw [← hbn, hd]; rfl
          subst e
          clear hl hbn
          go_wp2
          go_meet
          exact ⟨rfl, rfl⟩
        · have hd : decide (p.f2 < 0) = false := decide_eq_false hl
          rw [hd, Bool.false_or] at hbn
          clear hl
          cases bn with
          | true =>
            go_wp2
            go_meet
            exact ⟨rfl, rfl⟩
          | false =>
            go_wp2
            go_meet
            exact ⟨rfl, rfl⟩
      case rest =>
        obtain ⟨rfl, rfl⟩ := hcut
        obtain ⟨W1, hW1⟩ : ∃ V, V = wc := ⟨_, rfl⟩
        subst hW1
        cases bn with
        | true =>
          go_wp2
          obtain ⟨X, hX⟩ : ∃ X, (((((((((W1.setCell ⟨g2, 0, none⟩ (.bool true)).setCell ⟨g2, 1, none⟩ (.int .i64 J.room)).setCell ⟨g2, 2, none⟩ (.int .i64 J.most)).setCell ⟨g2, 3, none⟩ (.slice Al J.last.length cl)).setCell ⟨g2, 4, none⟩ (.slice Aw nw cw)).setCell ⟨g2, 5, none⟩ (.int .i64 J.next)).setCell ⟨g2, 6, none⟩ (.int .i64 J.mode)).setCell ⟨g2, 7, none⟩ (.slice Ad nd cd)).setCell ⟨g2, 8, none⟩ (.slice At nt ct)) = X := ⟨_, rfl⟩
          obtain ⟨r1, r2, r3, r4, r5⟩ := HD.out.dj.answer hX.symm
          have r6 : Below W.heap.size W X := by
            have hB := HD.out.nb
            have n2 := HD.out.dj.new2
            rw [← hX]
            exact ((((((((hB.setCell (p := ⟨g2, 0, none⟩) n2 _).setCell (p := ⟨g2, 1, none⟩) n2 _).setCell (p := ⟨g2, 2, none⟩) n2 _).setCell (p := ⟨g2, 3, none⟩) n2 _).setCell (p := ⟨g2, 4, none⟩) n2 _).setCell (p := ⟨g2, 5, none⟩) n2 _).setCell (p := ⟨g2, 6, none⟩) n2 _).setCell (p := ⟨g2, 7, none⟩) n2 _).setCell (p := ⟨g2, 8, none⟩) n2 _
          rw [hX]
          obtain ⟨x0, x1, x2, x3, x4, x5, x6, x7, x8⟩ := cells9 r1
          refine bodyPost_ret (v := .tuple #[dagg J (.slice Al J.last.length cl) (.slice Aw nw cw) (.slice Ad nd cd) (.slice At nt ct), .slice none 0 0, .int .i64 5]) (by simp [results, Tryd.results34, go_sem, x0, x1, x2, x3, x4, x5, x6, x7, x8]) rfl ?_
          refine ⟨_, _, _, _, ws, J, _, 5, rfl, r2, r6, ?_, .inl ⟨by decide, rfl, rfl⟩⟩
          rw [if_neg (by decide)]
          unfold feedJ
          have hl := HLK.out
          rw [if_neg (by show ¬ (link < 0 ∨ (J.last.length : Int) ≤ link); omega), if_pos (by
            have := HBN.out
            simp only [Bool.or_eq_true, decide_eq_true_eq] at this
            show p.f2 < 0 ∨ J.nm ≤ p.f2
            rw [HJ.out.nm]
            exact this)]
        | false =>
          have hbn := HBN.out
          simp only [Bool.or_eq_false_iff, decide_eq_false_iff_not] at hbn
          have HNB := Aside0.mk (show 0 ≤ p.f2 ∧ p.f2 < 4096 by omega)
          clear hbn HBN fy y0 y1 y2 y3 y4 y5 y6 y7 y8 hne12
          have hlk := HLK.out
          have hC := (Kd.V_reads' HD.out.dj.dv.last).2.2
          obtain ⟨ad, hAl, hcell⟩ := Kd.at_int hC link hlk.1 hlk.2
          subst hAl
          obtain ⟨k, hk⟩ : ∃ k : Nat, link = (k : Int) := ⟨link.toNat, by omega⟩
          subst hk
          simp only [Int.toNat_natCast] at hcell
          have hkl : k < J.last.length := by omega
          obtain ⟨x0, hx0⟩ : ∃ x, rd J.last (k : Int) = x := ⟨_, rfl⟩
          rw [hx0] at hcell
          have hx0' : J.last.getD k 0 = x0 := by rw [← hx0]; simp [rd]
          have hb0 := place_bound (num := p.f2) HOK.out.1 hlk.1 hlk.2
          have hpf := place_form (J := mute J) (link := (k : Int)) (num := p.f2) HOK.out.1.nm0
          have hnm := HJ.out.nm
          obtain ⟨place, hplace⟩ : ∃ q, placeJ (mute J) (k : Int) p.f2 = q := ⟨_, rfl⟩
          rw [hplace] at hb0 hpf
          simp only [Int.toNat_natCast] at hb0 hpf
          rw [hx0', hnm] at hb0 hpf
          obtain ⟨m0, hm0⟩ : ∃ m : Nat, (p.f2 - (x0 + 1)) % 4096 = (m : Int) := ⟨((p.f2 - (x0 + 1)) % 4096).toNat, by omega⟩
          rw [hm0] at hpf
          have hx1 : IntKind.i64.wrap (x0 + 1) = x0 + 1 := IntWalk.i64_in _ (by omega)
          have hst0 : x0 + 1 = place - (m0 : Int) := by omega
          have HPL := Aside0.mk (And.intro hplace (And.intro hb0 (And.intro hpf (And.intro (show m0 < 4096 by omega) (And.intro hst0 (And.intro hnm (And.intro hkl hx0')))))))
          clear hC hlk c0 c1 c2 c4 c5 c6 c7 c8 p0 p1 p3 hplace hb0 hpf hm0 hst0 hnm hx0 hx0'
          go_upto_block 0 with (fail)
          clear c3 hcell p2
          have hst0 := HPL.out.2.2.2.2.1
          rw [hst0]
          clear hst0 hx1
          go_wp2_with (fail)
          go_loopg [10] m0 (fun kq v10 wr => ∃ m : Nat, kq = m ∧ v10 = .int .i64 (place - (m : Int)) ∧ Aside0 (m < 4096 ∧ (m : Int) ≤ place) ∧ Aside0 (DG W wr base P g1 g2 g3 (Value.slice At nt ct).ownBlock (.slice (some ad) J.last.length cl) (.slice Aw nw cw) (.slice Ad nd cd) (.slice At nt ct) ws J p A c))
          case atStart => exact ⟨m0, rfl, rfl, ⟨HPL.out.2.2.2.1, by have h1 := HPL.out.2.1; have h2 := HPL.out.2.2.1; omega⟩, ⟨HD.out⟩⟩
          case round =>
            obtain ⟨mq, rfl, rfl, hmb, hdr⟩ := hrel
            clear HD
            obtain ⟨-, -, p2, -⟩ := hdr.out.cells
            obtain ⟨pl, hpl⟩ : ∃ q, place - (gk : Int) = q := ⟨_, rfl⟩
            have HQ := Aside0.mk hpl
            simp only [hpl]
            by_cases hm : gk = 0
            · have ht : Int.tmod pl 4096 = p.f2 := by
                have h1 := HPL.out.2.1
                have h2 := HNB.out
                rw [← hpl, hm]
                simpa using at_last (by omega) h1.2.2.2.1 h2.1 h2.2
              have ht1 : (Int.tmod pl 4096 == p.f2) = true := by simpa using ht
              have ht2 : (Int.tmod pl 4096 != p.f2) = false := by simp [ht]
              have hpe : pl = place := by omega
              have HPE := Aside0.mk hpe
              clear hm ht hpl hpe
              go_upto_region 7 with (fail)
              go_quiet (fail)
              have HDG := Aside0.mk (hdr.out.below (pw_below_drewN (Below.refl _ _) nq))
              have HPE := Aside0.mk HPE.out
              rw [HPE.out]
              clear hdr p2 HPE HQ hmb
              generalize wr.drewN nq = W9 at HDG ⊢
              obtain ⟨-, -, -, c3, -, -, -, -, -⟩ := HDG.out.dj.cells
              go_upto_region 10 with (first
                | ((with_reducible refine gate_dst (N := 51) rfl ?_); refine Kd.R_lit (Kd.int .i64) (w0 := W9) (W := W9) W9.heap.size 3 ?lG (N := 51) ?lD (xs := ([] : List Int)) (inner := []) (ok := fun _ => True) (okp := fun _ => True) ?lR ?lP (fun _ hk => hk) trivial (Below.refl _ _) (Nat.le_refl _) (by simp) ?lN; (case lD => rfl); (case lG => rfl); (case lR => first | (go_simp; done) | (go_simp; rfl)); (case lP => exact (Reps.none _ _)); intro v51 wA ho hbA hgA hatA; have HOA := Aside0.mk ho; have HBA := Aside0.mk hbA; have hDA := HDG.out.below hbA; obtain ⟨-, -, -, c3, -, -, -, -, -⟩ := hDA.dj.cells; have HDA := Aside0.mk hDA; clear ho hbA hgA hatA hDA)
                | ((with_reducible refine gate_builtin (b := .append) (xs := #[.tmp 51, .tmp 53]) rfl ?_); at_builtin; refine Kd.R_append_rows (Kd.int .i64) (w0 := W9) (W := wA) W9.heap.size rfl (.tmp 51) (.tmp 53) 59 3 (.int .i64 0) 8 rfl Tryd.underlying59 info3 rfl (by decide) (by decide) v51 [] J.last (some ad) J.last.length cl (fun _ => True) (fun _ => False) rfl rfl ?kO ?kR (fun _ _ h => h) (fun _ h => h.elim) (fun _ _ => trivial) ?kB ?kS ?kL ?kN; (case kO => exact HOA.out); (case kR => exact (Kd.V_reads' HDA.out.dj.dv.last).2.2); (case kB => exact HBA.out); (case kS => exact HBA.out.size); (case kL => have := HLL.out; simp; omega); intro v54 wB ho hbB hgB hatB; have HOB := Aside0.mk ho; have HBB := Aside0.mk hbB; clear ho hbB hgB hatB))
              have hob := HOB.out
              simp only [List.nil_append] at hob
              obtain ⟨gl, cap, rfl, hgl⟩ := row_form hob HOK.out.1.last0
              have HOB' := Aside0.mk hob
              have hkl := HPL.out.2.2.2.2.2.2.1
              have hcell := Kd.R_celln (0 : Int) hob (k : Int) (by omega) (by omega)
              simp only [Int.toNat_natCast] at hcell
              obtain ⟨hc1, hc2⟩ := hcell
              clear HOB hob c3 HDA HOA HBA
              go_upto_region 11 with (fail)
              have hR11 := Kd.R_putn HOB'.out (k : Int) place
              simp only [Int.toNat_natCast] at hR11
              have hB11 : Below W9.heap.size W9 (wB.setCell ⟨gl, k, none⟩ (.int .i64 place)) := HBB.out.setCell (p := ⟨gl, k, none⟩) hgl _
              clear hc1 hc2 hkl HOB' HBB
              generalize wB.setCell ⟨gl, k, none⟩ (.int .i64 place) = W11 at hR11 hB11 ⊢
              have hD11 := HDG.out.below hB11
              have hV11 : Kd.V (Kd.int .i64) 3 W11 base (fun k => Not2 P g1 g2 k ∧ some k ≠ (Value.slice At nt ct).ownBlock) (.slice (some ⟨gl, 0, none⟩) J.last.length cap) (J.last.set k place) := R_V hR11 (fun k _ hk1 _ => DJ.okNew HDG.out.dj k hk1)
              have HD11 := Aside0.mk hD11
              have HV11 := Aside0.mk hV11
              obtain ⟨-, -, -, c3, -, -, -, -, -⟩ := hD11.dj.cells
              have fx : ∀ j, W11.frozen? ⟨g1, j, none⟩ = false := hD11.dj.fz
              clear hR11 hB11 hgl hD11 hV11 HDG
              go_upto_region 12 with (fail)
              have hD12 := HD11.out.put (DJ.setLast HD11.out.dj _ _ HV11.out)
              clear c3 fx HD11 HV11
              generalize W11.setCell ⟨g1, 3, none⟩ (.slice (some ⟨gl, 0, none⟩) J.last.length cap) = W12 at hD12 ⊢
              obtain ⟨J1, hJ1⟩ : ∃ q : Jn, { J with last := J.last.set k place } = q := ⟨_, rfl⟩
              rw [hJ1] at hD12
              have hJ1a : J1.wait = J.wait ∧ J1.next = J.next ∧ J1.room = J.room ∧ J1.last = J.last.set k place := by rw [← hJ1]; exact ⟨rfl, rfl, rfl, rfl⟩
              have HJ1 := Aside0.mk (And.intro hJ1 hJ1a)
              have HD12 := Aside0.mk hD12
              clear hJ1 hJ1a hD12
              obtain ⟨hs, hhs⟩ : ∃ b, hasJ J place = b := ⟨_, rfl⟩
              have hwl : ws.length ≤ 100000 := by
                have h1 := HJ.out.perm.length_eq
                have h2 : 3 * (mute J).wait.length ≤ phi (mute J) := by unfold phi; omega
                have h3 := HLEN.out
                have h4 : (mute J).wait.length = J.wait.length := rfl
                omega
              have hat : ∃ r1 r2 r3 r4, atR ((ws.map T110).find? (fun x => x.f0 == place)) = some (r1, r2, r3, r4, hs) := by
                have hp := HJ.out.perm
                cases hf : (ws.map T110).find? (fun x => x.f0 == place) with
                | none =>
                  refine ⟨false, false, 0, [], ?_⟩
                  have : hs = false := by
                    rw [← hhs]
                    unfold hasJ
                    rw [List.any_eq_false]
                    intro x hx
                    have h1 := List.find?_eq_none.1 hf (T110 x) (List.mem_map.2 ⟨x, hp.mem_iff.2 hx, rfl⟩)
                    simpa [T110] using h1
                  rw [this]
                  rfl
                | some y =>
                  refine ⟨y.f1.f0, y.f1.f1, y.f1.f2, y.f1.f3, ?_⟩
                  have : hs = true := by
                    rw [← hhs]
                    unfold hasJ
                    rw [List.any_eq_true]
                    obtain ⟨x, hx, rfl⟩ := List.mem_map.1 (List.mem_of_find?_eq_some hf)
                    have h1 := List.find?_some hf
                    exact ⟨x, hp.mem_iff.1 hx, by simpa [T110] using h1⟩
                  rw [this]
                  rfl
              obtain ⟨r1, r2, r3, r4, hat⟩ := hat
              have hatc := at_doc HD12.out.dj.dv (by omega) place hat
              have HHS := Aside0.mk (And.intro hhs hwl)
              clear hhs hat hwl
              obtain ⟨c0, c1, c2, c3, c4, c5, c6, c7, c8⟩ := HD12.out.dj.cells
              go_upto_region 13 with (first
                | (go_at_call 49; refine hatc.mono ?_; rintro e w13 ⟨A13, c13, rfl, hv, hbb⟩; have HB13 := Aside0.mk hbb; clear hv hbb))
              have hD13 := (HD12.out.below HB13.out).below (below_alloc (Below.refl _ w13) (.cells #[.bool r1, .bool r2, .int .i64 r3, .slice A13 r4.length c13] 24))
              obtain ⟨g4, hg4⟩ : ∃ q, w13.heap.size = q := ⟨_, rfl⟩
              simp only [hg4]
              clear hg4 c0 c1 c2 c3 c4 c5 c6 c7 c8
              generalize w13.alloc (.cells #[.bool r1, .bool r2, .int .i64 r3, .slice A13 r4.length c13] 24) = W14 at hD13 ⊢
              have HD14 := Aside0.mk hD13
              clear hD13 HD12 HB13
              obtain ⟨ly, hly⟩ : ∃ b, (!hs && decide (J1.next ≤ place)) = b := ⟨_, rfl⟩
              have HLY := Aside0.mk hly
              clear hly
              obtain ⟨-, -, -, -, -, c5, -, -, -⟩ := HD14.out.dj.cells
              go_cut [74] (fun v74 wc => v74 = .bool ly ∧ wc = W14)
              case first =>
                have hly := HLY.out
                cases hs with
                | true =>
                  have e : ly = false := by rw [← hly]; rfl
                  subst e
                  clear hly
                  go_wp2
                  go_meet
                  exact ⟨rfl, rfl⟩
                | false =>
                  rw [Bool.not_false, Bool.true_and] at hly
                  cases ly with
                  | true =>
                    go_wp2
                    go_meet
                    exact ⟨rfl, rfl⟩
                  | false =>
                    go_wp2
                    go_meet
                    exact ⟨rfl, rfl⟩
              case rest =>
                obtain ⟨rfl, rfl⟩ := hcut
                obtain ⟨W14, hW14⟩ : ∃ V, V = wc := ⟨_, rfl⟩
                subst hW14
                clear c5
                have hlj : laidJ J (k : Int) p = if ly then { J1 with wait := insK (place, p) J.wait } else J1 := by
                  have h1 := HLY.out
                  have h2 := HHS.out.1
                  have h3 := HJ1.out
                  have h4 := HPL.out.1
                  have h5 : placeJ J (k : Int) p.f2 = place := h4
                  unfold laidJ
                  simp only [h5, Int.toNat_natCast]
                  rw [h2, ← h3.1]
                  have h6 : J1.next = J.next := h3.2.2.1
                  rw [h6] at h1
                  rw [h1]
                go_upto_if 74 with (fail)
                go_cut [] (fun wc => ∃ vw1 ws1, DG W wc base P g1 g2 g3 (Value.slice At nt ct).ownBlock (.slice (some ⟨gl, 0, none⟩) J.last.length cap) vw1 (.slice Ad nd cd) (.slice At nt ct) ws1 (laidJ J (k : Int) p) p A c)
                case first =>
                  cases ly with
                  | false =>
                    have HLJ := Aside0.mk (show laidJ J (k : Int) p = J1 from hlj)
                    clear hlj
                    go_wp2
                    go_meet
                    exact ⟨_, ws, by rw [HLJ.out]; exact HD14.out⟩
                  | true =>
                    have HLJ := Aside0.mk (show laidJ J (k : Int) p = { J1 with wait := insK (place, p) J.wait } from hlj)
                    clear hlj
                    have HWL := Aside0.mk HHS.out.2
                    have HPM := Aside0.mk (show (ws ++ [(place, p)]).Perm (insK (place, p) J.wait) from (List.perm_append_comm.trans (HJ.out.perm.cons (place, p))).trans (insK_perm (place, p) J.wait).symm)
                    go_upto_region 14 with (fail)
                    refine AnyT.beginN 10 (fun w' : World => w'.cell? ⟨g1, 4, none⟩ = some (.slice Aw nw cw) ∧ w'.cell? ⟨g3, 0, none⟩ = some (.bool p.f0) ∧ w'.cell? ⟨g3, 1, none⟩ = some (.bool p.f1) ∧ w'.cell? ⟨g3, 2, none⟩ = some (.int .i64 p.f2) ∧ w'.cell? ⟨g3, 3, none⟩ = some (.slice A p.f3.length c)) 11 #[false, false, false, false, false, false, false, false, false, false, false] (by kernel_rfl) rfl rfl ?_
                    have HD15 := Aside0.mk (HD14.out.below (below_drew (Below.refl _ _)))
                    clear HD14
                    generalize W14.drew = W15 at HD15 ⊢
                    have hS : (fun w' : World => w'.cell? ⟨g1, 4, none⟩ = some (.slice Aw nw cw) ∧ w'.cell? ⟨g3, 0, none⟩ = some (.bool p.f0) ∧ w'.cell? ⟨g3, 1, none⟩ = some (.bool p.f1) ∧ w'.cell? ⟨g3, 2, none⟩ = some (.int .i64 p.f2) ∧ w'.cell? ⟨g3, 3, none⟩ = some (.slice A p.f3.length c)) W15 := ⟨HD15.out.dj.cells.2.2.2.2.1, HD15.out.cells.1, HD15.out.cells.2.1, HD15.out.cells.2.2.1, HD15.out.cells.2.2.2⟩
                    have HPQ := Aside0.mk (show Kd.V (Kd.int .u8) 5 W15 base (fun k => (Not2 P g1 g2 k ∧ some k ≠ (Value.slice At nt ct).ownBlock) ∧ k < W15.heap.size) (.slice A p.f3.length c) p.f3 from Kd.V_mono (Kd.V_bound HD15.out.pv) (fun k hk => ⟨hk.1, hk.2⟩))
                    refine AnyT.takeN (i := 1) (v := .pointer (some ⟨g1, 4, none⟩)) (some 76) #[false, true, false, false, false, false, false, false, false, false, false] rfl rfl (by kernel_rfl) (by kernel_rfl) (by kernel_rfl) (by kernel_rfl) (by kernel_rfl) (fun _ _ _ h => h) (Or.inl ⟨by rfl, ?hyq1⟩) hS ?restq1
                    case hyq1 =>
                      intro w hSw
                      go_split_ands
                      go_simp
                      try (with_reducible rfl)
                    (try simp only [Act.put, List.setIfInBounds_toArray, List.set_cons_zero, List.set_cons_succ])
                    refine AnyT.takeN (i := 2) (v := .slice Aw nw cw) (some 77) #[false, true, true, false, false, false, false, false, false, false, false] rfl rfl (by kernel_rfl) (by kernel_rfl) (by kernel_rfl) (by kernel_rfl) (by kernel_rfl) (fun _ _ _ h => h) (Or.inl ⟨by rfl, ?hyq2⟩) hS ?restq2
                    case hyq2 =>
                      intro w hSw
                      go_split_ands
                      go_simp
                      try (with_reducible rfl)
                    (try simp only [Act.put, List.setIfInBounds_toArray, List.set_cons_zero, List.set_cons_succ])
                    refine AnyT.takeN (i := 4) (v := .int .i64 place) (some 79) #[false, true, true, false, true, false, false, false, false, false, false] rfl rfl (by kernel_rfl) (by kernel_rfl) (by kernel_rfl) (by kernel_rfl) (by kernel_rfl) (fun _ _ _ h => h) (Or.inl ⟨by rfl, ?hyq4⟩) hS ?restq4
                    case hyq4 =>
                      intro w hSw
                      go_split_ands
                      go_simp
                      try (with_reducible rfl)
                    (try simp only [Act.put, List.setIfInBounds_toArray, List.set_cons_zero, List.set_cons_succ])
                    refine AnyT.takeN (i := 5) (v := .agg #[.bool p.f0, .bool p.f1, .int .i64 p.f2, .slice A p.f3.length c]) (some 80) #[false, true, true, false, true, true, false, false, false, false, false] rfl rfl (by kernel_rfl) (by kernel_rfl) (by kernel_rfl) (by kernel_rfl) (by kernel_rfl) (fun _ _ _ h => h) (Or.inl ⟨by rfl, ?hyq5⟩) hS ?restq5
                    case hyq5 =>
                      intro w hSw
                      go_split_ands
                      go_simp
                      try (with_reducible rfl)
                    (try simp only [Act.put, List.setIfInBounds_toArray, List.set_cons_zero, List.set_cons_succ])
                    refine AnyT.takeN (i := 6) (v := .agg #[.int .i64 place, .bool p.f0, .bool p.f1, .int .i64 p.f2, .slice A p.f3.length c]) (some 81) #[false, true, true, false, true, true, true, false, false, false, false] rfl rfl (by kernel_rfl) (by kernel_rfl) (by kernel_rfl) (by kernel_rfl) (by kernel_rfl) (fun _ _ _ h => h) (Or.inl ⟨by rfl, ?hyq6⟩) hS ?restq6
                    case hyq6 =>
                      intro w hSw
                      go_split_ands
                      go_simp
                      try (with_reducible rfl)
                    (try simp only [Act.put, List.setIfInBounds_toArray, List.set_cons_zero, List.set_cons_succ])
                    refine AnyT.twoN (i := 0) (j := 7) #[true, true, true, false, true, true, true, false, false, false, false] #[false, true, true, false, true, true, true, true, false, false, false] (by kernel_rfl) rfl rfl (by kernel_rfl) (by kernel_rfl) (fun K1 hK1 => ?_) (fun K1 hK1 => ?_)
                    · clear hS
                      refine Kd.N_lit_step k110 (w0 := W15) (W := W15) W15.heap.size 110 ?xaW (N' := 75) ?xaD (xs := ([] : List S110)) (inner := []) (ok := (fun k => Not2 P g1 g2 k ∧ some k ≠ (Value.slice At nt ct).ownBlock)) (okp := (fun k => Not2 P g1 g2 k ∧ some k ≠ (Value.slice At nt ct).ownBlock)) ?xaR ?xaP (fun _ h => h) (DJ.okNew HD15.out.dj _ (Below.refl W15.heap.size W15).size) (Below.refl W15.heap.size W15) (Below.refl W15.heap.size W15).size (by simp) ?xaN
                      case xaW => rfl
                      case xaD => rfl
                      case xaR => first | (go_simp; done) | (go_simp; rfl)
                      case xaP => exact Reps.none _ _
                      intro v75 w0 ho75 hb75 hg75 hat75
                      have HN75 := Aside0.mk ho75
                      have HB_w0 := Aside0.mk hb75
                      have HAT75 := Aside0.mk hat75
                      have HG75 := Aside0.mk (show Below W15.heap.size W15 w0 from ⟨hg75.os, hg75.tape, hg75.output, hg75.size, fun k hk => hg75.block k hk (by simp)⟩)
                      clear ho75 hb75 hg75 hat75
                      have hS_w0 : (fun w' : World => w'.cell? ⟨g1, 4, none⟩ = some (.slice Aw nw cw) ∧ w'.cell? ⟨g3, 0, none⟩ = some (.bool p.f0) ∧ w'.cell? ⟨g3, 1, none⟩ = some (.bool p.f1) ∧ w'.cell? ⟨g3, 2, none⟩ = some (.int .i64 p.f2) ∧ w'.cell? ⟨g3, 3, none⟩ = some (.slice A p.f3.length c)) w0 := ⟨(HD15.out.below HB_w0.out).dj.cells.2.2.2.2.1, (HD15.out.below HB_w0.out).cells.1, (HD15.out.below HB_w0.out).cells.2.1, (HD15.out.below HB_w0.out).cells.2.2.1, (HD15.out.below HB_w0.out).cells.2.2.2⟩
                      refine hK1.out _ _ (.inr hS_w0) ?_
                      show AnyT _ _ _ _ _ _ _ _ (Act.put _ (some 75) v75) _
                      (try simp only [Act.put, List.setIfInBounds_toArray, List.set_cons_zero, List.set_cons_succ])
                      clear hK1 K1
                      have H75 := Aside0.mk (show ∀ k, v75.ownBlock = some k → k < w0.heap.size from fun k hk => Kd.N_lt HN75.out k hk)
                      refine AnyT.twoN (i := 3) (j := 7) #[true, true, true, true, true, true, true, false, false, false, false] #[true, true, true, false, true, true, true, true, false, false, false] (by kernel_rfl) rfl rfl (by kernel_rfl) (by kernel_rfl) (fun K2 hK2 => ?_) (fun K2 hK2 => ?_)
                      · refine Kd.N_append_rows_step k110 (w0 := W15) (W := w0) W15.heap.size ?ycW (.tmp 75) (.tmp 77) 60 110 (.agg #[.int .i64 0, .bool false, .bool false, .int .i64 0, .slice none 0 0]) 48 ?ycU Tryd.underlying60 info110 rfl (by decide) (by decide) v75 [] (ws.map T110) Aw nw cw (fun k => Not2 P g1 g2 k ∧ some k ≠ (Value.slice At nt ct).ownBlock) (fun k => (Not2 P g1 g2 k ∧ some k ≠ (Value.slice At nt ct).ownBlock) ∧ k < W15.heap.size) ?ycV ?ycX HN75.out ?ycR ?ycK (fun k hk => DJ.okNew HD15.out.dj k (Nat.le_trans HB_w0.out.size hk)) HB_w0.out HB_w0.out.size ?ycL ?ycN
                        case ycW => rfl
                        case ycU => rfl
                        case ycV => rfl
                        case ycX => rfl
                        case ycR => exact Kd.V_F (Kd.V_below (Kd.V_bound HD15.out.dj.dv.wait) HB_w0.out)
                        case ycK =>
                          intro k hk
                          refine ⟨hk.1, fun e => ?_⟩
                          have := Kd.N_base HN75.out k e.symm
                          omega
                        case ycL => have h1 := HWL.out; have h2 := (Kd.V_at HD15.out.dj.dv.wait).1; simp at h2; simp; omega
                        intro v78 w1 ho78 hb78 hg78 hat78
                        have HN78 := Aside0.mk ho78
                        have HB_w1 := Aside0.mk hb78
                        have HG78 := Aside0.mk hg78
                        have HAT78 := Aside0.mk hat78
                        clear ho78 hb78 hg78 hat78
                        have hS_w1 : (fun w' : World => w'.cell? ⟨g1, 4, none⟩ = some (.slice Aw nw cw) ∧ w'.cell? ⟨g3, 0, none⟩ = some (.bool p.f0) ∧ w'.cell? ⟨g3, 1, none⟩ = some (.bool p.f1) ∧ w'.cell? ⟨g3, 2, none⟩ = some (.int .i64 p.f2) ∧ w'.cell? ⟨g3, 3, none⟩ = some (.slice A p.f3.length c)) w1 := ⟨(HD15.out.below HB_w1.out).dj.cells.2.2.2.2.1, (HD15.out.below HB_w1.out).cells.1, (HD15.out.below HB_w1.out).cells.2.1, (HD15.out.below HB_w1.out).cells.2.2.1, (HD15.out.below HB_w1.out).cells.2.2.2⟩
                        refine hK2.out _ _ (.inr hS_w1) ?_
                        show AnyT _ _ _ _ _ _ _ _ (Act.put _ (some 78) v78) _
                        (try simp only [Act.put, List.setIfInBounds_toArray, List.set_cons_zero, List.set_cons_succ])
                        clear hK2 K2 HN75
                        refine AnyT.oneN (i := 7) #[true, true, true, true, true, true, true, true, false, false, false] (by kernel_rfl) rfl (by kernel_rfl) (fun K3 hK3 => ?_)
                        refine Kd.N_lit_step k110 (w0 := W15) (W := w1) W15.heap.size 110 ?ybW (N' := 82) ?ybD (xs := [T110 (place, p)]) (inner := [.int .i64 place, .bool p.f0, .bool p.f1, .int .i64 p.f2, .slice A p.f3.length c]) (ok := (fun k => (Not2 P g1 g2 k ∧ some k ≠ (Value.slice At nt ct).ownBlock) ∧ (k < W15.heap.size ∨ k = w1.heap.size))) (okp := (fun k => (Not2 P g1 g2 k ∧ some k ≠ (Value.slice At nt ct).ownBlock) ∧ k < W15.heap.size)) ?ybR ?ybP (fun k h => ⟨h.1, .inl h.2⟩) ⟨DJ.okNew HD15.out.dj _ HB_w1.out.size, .inr rfl⟩ HB_w1.out HB_w1.out.size (by simp) ?ybN
                        case ybW => rfl
                        case ybD => rfl
                        case ybR => first | (go_simp; done) | (go_simp; rfl)
                        case ybP =>
                          have h1 := Kd.V_below HPQ.out HB_w1.out
                          have h2 := k110_mkF w1 _ (T110 (place, p)) (Kd.V_at h1).2.1 (Kd.V_at h1).2.2
                          have h3 := Reps.snoc (Reps.none (Kd.FK k110 w1 (fun k => (Not2 P g1 g2 k ∧ some k ≠ (Value.slice At nt ct).ownBlock) ∧ k < W15.heap.size)) 5) h2 rfl
                          exact h3
                        intro v82 w2 ho82 hb82 hg82 hat82
                        obtain ⟨s7, hs7⟩ : ∃ q, w1.heap.size = q := ⟨_, rfl⟩
                        rw [hs7] at ho82 hat82
                        have HS7e := Aside0.mk hs7
                        clear hs7
                        have HS7 := Aside0.mk (show s7 < w2.heap.size by
                          obtain ⟨b, e1, e2⟩ := hat82
                          have := Kd.N_lt ho82 b e1
                          omega)
                        have HN82 := Aside0.mk ho82
                        have HB_w2 := Aside0.mk hb82
                        have HG82 := Aside0.mk (show Below w1.heap.size w1 w2 from ⟨hg82.os, hg82.tape, hg82.output, hg82.size, fun k hk => hg82.block k hk (by simp)⟩)
                        clear ho82 hb82 hg82 hat82
                        have hS_w2 : (fun w' : World => w'.cell? ⟨g1, 4, none⟩ = some (.slice Aw nw cw) ∧ w'.cell? ⟨g3, 0, none⟩ = some (.bool p.f0) ∧ w'.cell? ⟨g3, 1, none⟩ = some (.bool p.f1) ∧ w'.cell? ⟨g3, 2, none⟩ = some (.int .i64 p.f2) ∧ w'.cell? ⟨g3, 3, none⟩ = some (.slice A p.f3.length c)) w2 := ⟨(HD15.out.below HB_w2.out).dj.cells.2.2.2.2.1, (HD15.out.below HB_w2.out).cells.1, (HD15.out.below HB_w2.out).cells.2.1, (HD15.out.below HB_w2.out).cells.2.2.1, (HD15.out.below HB_w2.out).cells.2.2.2⟩
                        refine hK3.out _ _ (.inr hS_w2) ?_
                        show AnyT _ _ _ _ _ _ _ _ (Act.put _ (some 82) v82) _
                        (try simp only [Act.put, List.setIfInBounds_toArray, List.set_cons_zero, List.set_cons_succ])
                        clear hK3 K3
                        have H78 := Aside0.mk (show ∀ k, v78.ownBlock = some k → k ≠ s7 from fun k hk => by have h1 := Kd.N_lt HN78.out k hk; have h2 := HS7e.out; omega)
                        have hN78 := Aside0.mk (Kd.N_below HN78.out HG82.out)
                        clear HN78
                        have HN78 := hN78
                        clear hN78
                        obtain ⟨A82, c82, rfl⟩ := Kd.N_slice HN82.out
                        refine AnyT.oneN (i := 8) #[true, true, true, true, true, true, true, true, true, false, false] (by kernel_rfl) rfl (by kernel_rfl) (fun K4 hK4 => ?_)
                        refine Kd.N_append_rows_step k110 (w0 := W15) (W := w2) W15.heap.size ?ydW (.tmp 78) (.tmp 82) 60 110 (.agg #[.int .i64 0, .bool false, .bool false, .int .i64 0, .slice none 0 0]) 48 ?ydU Tryd.underlying60 info110 rfl (by decide) (by decide) v78 ([] ++ ws.map T110) [T110 (place, p)] A82 1 c82 (fun k => Not2 P g1 g2 k ∧ some k ≠ (Value.slice At nt ct).ownBlock) (fun k => (Not2 P g1 g2 k ∧ some k ≠ (Value.slice At nt ct).ownBlock) ∧ (k < W15.heap.size ∨ k = s7)) ?ydV ?ydX HN78.out ?ydR ?ydK (fun k hk => DJ.okNew HD15.out.dj k (Nat.le_trans HB_w2.out.size hk)) HB_w2.out HB_w2.out.size ?ydL ?ydN
                        case ydW => rfl
                        case ydU => rfl
                        case ydV => rfl
                        case ydX => rfl
                        case ydR => exact Kd.N_F HN82.out
                        case ydK =>
                          intro k hk
                          refine ⟨hk.1, fun e => ?_⟩
                          have h1 := Kd.N_base HN78.out k e.symm
                          have h2 := H78.out k e.symm
                          rcases hk.2 with h3 | h3 <;> omega
                        case ydL => have h1 := HWL.out; simp; omega
                        intro v83 wz ho83 hb83 hg83 hat83
                        obtain ⟨A83, n83, c83, rfl⟩ := N_sl ho83
                        have hDz := HD15.out.below hb83
                        have hVz : Kd.V k110 110 wz base (fun k => Not2 P g1 g2 k ∧ some k ≠ (Value.slice At nt ct).ownBlock) (.slice A83 n83 c83) ((ws ++ [(place, p)]).map T110) := by
                          have e : ([] ++ ws.map T110) ++ [T110 (place, p)] = (ws ++ [(place, p)]).map T110 := by simp
                          rw [e] at ho83
                          have hn := (Kd.N_reads' ho83).1
                          subst hn
                          exact Kd.V_mk (Kd.N_reads' ho83).2.1 (Kd.N_F ho83)
                        have HDz := Aside0.mk hDz
                        have HVz := Aside0.mk hVz
                        clear ho83 hb83 hg83 hat83 hDz hVz
                        have hSz : (fun w' : World => w'.cell? ⟨g1, 4, none⟩ = some (.slice Aw nw cw) ∧ w'.cell? ⟨g3, 0, none⟩ = some (.bool p.f0) ∧ w'.cell? ⟨g3, 1, none⟩ = some (.bool p.f1) ∧ w'.cell? ⟨g3, 2, none⟩ = some (.int .i64 p.f2) ∧ w'.cell? ⟨g3, 3, none⟩ = some (.slice A p.f3.length c)) wz := ⟨HDz.out.dj.cells.2.2.2.2.1, HDz.out.cells.1, HDz.out.cells.2.1, HDz.out.cells.2.2.1, HDz.out.cells.2.2.2⟩
                        refine hK4.out _ _ (.inr hSz) ?_
                        clear hK4 K4
                        show AnyT _ _ _ _ _ _ _ _ (Act.put _ (some 83) (.slice A83 n83 c83)) _
                        (try simp only [Act.put, List.setIfInBounds_toArray, List.set_cons_zero, List.set_cons_succ])
                        refine AnyT.takeN (i := 9) (v := .pointer (some ⟨g1, 4, none⟩)) (some 84) #[true, true, true, true, true, true, true, true, true, true, false] rfl rfl (by kernel_rfl) (by kernel_rfl) (by kernel_rfl) (by kernel_rfl) (by kernel_rfl) (fun _ _ _ h => h) (Or.inl ⟨by rfl, ?hyy9⟩) hSz ?resty9
                        case hyy9 =>
                          intro w hSw
                          go_split_ands
                          go_simp
                          try (with_reducible rfl)
                        (try simp only [Act.put, List.setIfInBounds_toArray, List.set_cons_zero, List.set_cons_succ])
                        have fz : ∀ j, wz.frozen? ⟨g1, j, none⟩ = false := HDz.out.dj.fz
                        obtain ⟨-, -, -, -, z4, -, -, -, -⟩ := HDz.out.dj.cells
                        refine AnyT.oneN (i := 10) #[true, true, true, true, true, true, true, true, true, true, true] (by kernel_rfl) rfl (by kernel_rfl) (fun K4' hK4' => ?_)
                        go_simp
                        refine hK4'.out _ _ (.inl rfl) ?_
                        clear hK4' K4' hSz z4 fz
                        (try simp only [Act.put, List.setIfInBounds_toArray, List.set_cons_zero, List.set_cons_succ])
                        refine AnyT.doneN (by kernel_rfl) ?_ _
                        have hfin := HDz.out.put (HDz.out.dj.setWait _ (ws ++ [(place, p)]) (insK (place, p) J.wait) HPM.out HVz.out)
                        have HFIN := Aside0.mk hfin
                        clear hfin HDz HVz
                        generalize wz.setCell ⟨g1, 4, none⟩ (.slice A83 n83 c83) = WF at HFIN ⊢
                        go_wp2
                        go_meet
                        exact ⟨_, ws ++ [(place, p)], by rw [HLJ.out]; exact HFIN.out⟩
                      · refine Kd.N_lit_step k110 (w0 := W15) (W := w0) W15.heap.size 110 ?zbW (N' := 82) ?zbD (xs := [T110 (place, p)]) (inner := [.int .i64 place, .bool p.f0, .bool p.f1, .int .i64 p.f2, .slice A p.f3.length c]) (ok := (fun k => (Not2 P g1 g2 k ∧ some k ≠ (Value.slice At nt ct).ownBlock) ∧ (k < W15.heap.size ∨ k = w0.heap.size))) (okp := (fun k => (Not2 P g1 g2 k ∧ some k ≠ (Value.slice At nt ct).ownBlock) ∧ k < W15.heap.size)) ?zbR ?zbP (fun k h => ⟨h.1, .inl h.2⟩) ⟨DJ.okNew HD15.out.dj _ HB_w0.out.size, .inr rfl⟩ HB_w0.out HB_w0.out.size (by simp) ?zbN
                        case zbW => rfl
                        case zbD => rfl
                        case zbR => first | (go_simp; done) | (go_simp; rfl)
                        case zbP =>
                          have h1 := Kd.V_below HPQ.out HB_w0.out
                          have h2 := k110_mkF w0 _ (T110 (place, p)) (Kd.V_at h1).2.1 (Kd.V_at h1).2.2
                          have h3 := Reps.snoc (Reps.none (Kd.FK k110 w0 (fun k => (Not2 P g1 g2 k ∧ some k ≠ (Value.slice At nt ct).ownBlock) ∧ k < W15.heap.size)) 5) h2 rfl
                          exact h3
                        intro v82 w1 ho82 hb82 hg82 hat82
                        obtain ⟨s7, hs7⟩ : ∃ q, w0.heap.size = q := ⟨_, rfl⟩
                        rw [hs7] at ho82 hat82
                        have HS7e := Aside0.mk hs7
                        clear hs7
                        have HS7 := Aside0.mk (show s7 < w1.heap.size by
                          obtain ⟨b, e1, e2⟩ := hat82
                          have := Kd.N_lt ho82 b e1
                          omega)
                        have HN82 := Aside0.mk ho82
                        have HB_w1 := Aside0.mk hb82
                        have HG82 := Aside0.mk (show Below w0.heap.size w0 w1 from ⟨hg82.os, hg82.tape, hg82.output, hg82.size, fun k hk => hg82.block k hk (by simp)⟩)
                        clear ho82 hb82 hg82 hat82
                        have hS_w1 : (fun w' : World => w'.cell? ⟨g1, 4, none⟩ = some (.slice Aw nw cw) ∧ w'.cell? ⟨g3, 0, none⟩ = some (.bool p.f0) ∧ w'.cell? ⟨g3, 1, none⟩ = some (.bool p.f1) ∧ w'.cell? ⟨g3, 2, none⟩ = some (.int .i64 p.f2) ∧ w'.cell? ⟨g3, 3, none⟩ = some (.slice A p.f3.length c)) w1 := ⟨(HD15.out.below HB_w1.out).dj.cells.2.2.2.2.1, (HD15.out.below HB_w1.out).cells.1, (HD15.out.below HB_w1.out).cells.2.1, (HD15.out.below HB_w1.out).cells.2.2.1, (HD15.out.below HB_w1.out).cells.2.2.2⟩
                        refine hK2.out _ _ (.inr hS_w1) ?_
                        show AnyT _ _ _ _ _ _ _ _ (Act.put _ (some 82) v82) _
                        (try simp only [Act.put, List.setIfInBounds_toArray, List.set_cons_zero, List.set_cons_succ])
                        clear hK2 K2
                        have hN75 := Aside0.mk (Kd.N_below HN75.out HG82.out)
                        clear HN75
                        have HN75 := hN75
                        clear hN75
                        have H75e := Aside0.mk (show ∀ k, v75.ownBlock = some k → k ≠ s7 from fun k hk => by have h1 := H75.out k hk; have h2 := HS7e.out; omega)
                        refine AnyT.oneN (i := 3) #[true, true, true, true, true, true, true, true, false, false, false] (by kernel_rfl) rfl (by kernel_rfl) (fun K3 hK3 => ?_)
                        refine Kd.N_append_rows_step k110 (w0 := W15) (W := w1) W15.heap.size ?zcW (.tmp 75) (.tmp 77) 60 110 (.agg #[.int .i64 0, .bool false, .bool false, .int .i64 0, .slice none 0 0]) 48 ?zcU Tryd.underlying60 info110 rfl (by decide) (by decide) v75 [] (ws.map T110) Aw nw cw (fun k => Not2 P g1 g2 k ∧ some k ≠ (Value.slice At nt ct).ownBlock) (fun k => (Not2 P g1 g2 k ∧ some k ≠ (Value.slice At nt ct).ownBlock) ∧ k < W15.heap.size) ?zcV ?zcX HN75.out ?zcR ?zcK (fun k hk => DJ.okNew HD15.out.dj k (Nat.le_trans HB_w1.out.size hk)) HB_w1.out HB_w1.out.size ?zcL ?zcN
                        case zcW => rfl
                        case zcU => rfl
                        case zcV => rfl
                        case zcX => rfl
                        case zcR => exact Kd.V_F (Kd.V_below (Kd.V_bound HD15.out.dj.dv.wait) HB_w1.out)
                        case zcK =>
                          intro k hk
                          refine ⟨hk.1, fun e => ?_⟩
                          have := Kd.N_base HN75.out k e.symm
                          omega
                        case zcL => have h1 := HWL.out; have h2 := (Kd.V_at HD15.out.dj.dv.wait).1; simp at h2; simp; omega
                        intro v78 w2 ho78 hb78 hg78 hat78
                        have HN78 := Aside0.mk ho78
                        have HB_w2 := Aside0.mk hb78
                        have HG78 := Aside0.mk hg78
                        have HAT78 := Aside0.mk hat78
                        clear ho78 hb78 hg78 hat78
                        have hS_w2 : (fun w' : World => w'.cell? ⟨g1, 4, none⟩ = some (.slice Aw nw cw) ∧ w'.cell? ⟨g3, 0, none⟩ = some (.bool p.f0) ∧ w'.cell? ⟨g3, 1, none⟩ = some (.bool p.f1) ∧ w'.cell? ⟨g3, 2, none⟩ = some (.int .i64 p.f2) ∧ w'.cell? ⟨g3, 3, none⟩ = some (.slice A p.f3.length c)) w2 := ⟨(HD15.out.below HB_w2.out).dj.cells.2.2.2.2.1, (HD15.out.below HB_w2.out).cells.1, (HD15.out.below HB_w2.out).cells.2.1, (HD15.out.below HB_w2.out).cells.2.2.1, (HD15.out.below HB_w2.out).cells.2.2.2⟩
                        refine hK3.out _ _ (.inr hS_w2) ?_
                        show AnyT _ _ _ _ _ _ _ _ (Act.put _ (some 78) v78) _
                        (try simp only [Act.put, List.setIfInBounds_toArray, List.set_cons_zero, List.set_cons_succ])
                        clear hK3 K3
                        have H78 := Aside0.mk (show ∀ k, v78.ownBlock = some k → k ≠ s7 from fun k hk => by
                          rcases HAT78.out with e | ⟨b, e, hb⟩
                          · exact H75e.out k (e ▸ hk)
                          · have h1 := HS7.out
                            rw [e] at hk
                            cases hk
                            omega)
                        have hN82 := Aside0.mk (Kd.N_grown HN82.out HG78.out (fun k hk e => by
                          have h1 := H75e.out k e.symm
                          have h2 := Kd.N_base HN75.out k e.symm
                          rcases hk.2 with h3 | h3 <;> omega))
                        clear HN82
                        have HN82 := hN82
                        clear hN82 HN75
                        obtain ⟨A82, c82, rfl⟩ := Kd.N_slice HN82.out
                        refine AnyT.oneN (i := 8) #[true, true, true, true, true, true, true, true, true, false, false] (by kernel_rfl) rfl (by kernel_rfl) (fun K4 hK4 => ?_)
                        refine Kd.N_append_rows_step k110 (w0 := W15) (W := w2) W15.heap.size ?zdW (.tmp 78) (.tmp 82) 60 110 (.agg #[.int .i64 0, .bool false, .bool false, .int .i64 0, .slice none 0 0]) 48 ?zdU Tryd.underlying60 info110 rfl (by decide) (by decide) v78 ([] ++ ws.map T110) [T110 (place, p)] A82 1 c82 (fun k => Not2 P g1 g2 k ∧ some k ≠ (Value.slice At nt ct).ownBlock) (fun k => (Not2 P g1 g2 k ∧ some k ≠ (Value.slice At nt ct).ownBlock) ∧ (k < W15.heap.size ∨ k = s7)) ?zdV ?zdX HN78.out ?zdR ?zdK (fun k hk => DJ.okNew HD15.out.dj k (Nat.le_trans HB_w2.out.size hk)) HB_w2.out HB_w2.out.size ?zdL ?zdN
                        case zdW => rfl
                        case zdU => rfl
                        case zdV => rfl
                        case zdX => rfl
                        case zdR => exact Kd.N_F HN82.out
                        case zdK =>
                          intro k hk
                          refine ⟨hk.1, fun e => ?_⟩
                          have h1 := Kd.N_base HN78.out k e.symm
                          have h2 := H78.out k e.symm
                          rcases hk.2 with h3 | h3 <;> omega
                        case zdL => have h1 := HWL.out; simp; omega
                        intro v83 wz ho83 hb83 hg83 hat83
                        obtain ⟨A83, n83, c83, rfl⟩ := N_sl ho83
                        have hDz := HD15.out.below hb83
                        have hVz : Kd.V k110 110 wz base (fun k => Not2 P g1 g2 k ∧ some k ≠ (Value.slice At nt ct).ownBlock) (.slice A83 n83 c83) ((ws ++ [(place, p)]).map T110) := by
                          have e : ([] ++ ws.map T110) ++ [T110 (place, p)] = (ws ++ [(place, p)]).map T110 := by simp
                          rw [e] at ho83
                          have hn := (Kd.N_reads' ho83).1
                          subst hn
                          exact Kd.V_mk (Kd.N_reads' ho83).2.1 (Kd.N_F ho83)
                        have HDz := Aside0.mk hDz
                        have HVz := Aside0.mk hVz
                        clear ho83 hb83 hg83 hat83 hDz hVz
                        have hSz : (fun w' : World => w'.cell? ⟨g1, 4, none⟩ = some (.slice Aw nw cw) ∧ w'.cell? ⟨g3, 0, none⟩ = some (.bool p.f0) ∧ w'.cell? ⟨g3, 1, none⟩ = some (.bool p.f1) ∧ w'.cell? ⟨g3, 2, none⟩ = some (.int .i64 p.f2) ∧ w'.cell? ⟨g3, 3, none⟩ = some (.slice A p.f3.length c)) wz := ⟨HDz.out.dj.cells.2.2.2.2.1, HDz.out.cells.1, HDz.out.cells.2.1, HDz.out.cells.2.2.1, HDz.out.cells.2.2.2⟩
                        refine hK4.out _ _ (.inr hSz) ?_
                        clear hK4 K4
                        show AnyT _ _ _ _ _ _ _ _ (Act.put _ (some 83) (.slice A83 n83 c83)) _
                        (try simp only [Act.put, List.setIfInBounds_toArray, List.set_cons_zero, List.set_cons_succ])
                        refine AnyT.takeN (i := 9) (v := .pointer (some ⟨g1, 4, none⟩)) (some 84) #[true, true, true, true, true, true, true, true, true, true, false] rfl rfl (by kernel_rfl) (by kernel_rfl) (by kernel_rfl) (by kernel_rfl) (by kernel_rfl) (fun _ _ _ h => h) (Or.inl ⟨by rfl, ?hyz9⟩) hSz ?restz9
                        case hyz9 =>
                          intro w hSw
                          go_split_ands
                          go_simp
                          try (with_reducible rfl)
                        (try simp only [Act.put, List.setIfInBounds_toArray, List.set_cons_zero, List.set_cons_succ])
                        have fz : ∀ j, wz.frozen? ⟨g1, j, none⟩ = false := HDz.out.dj.fz
                        obtain ⟨-, -, -, -, z4, -, -, -, -⟩ := HDz.out.dj.cells
                        refine AnyT.oneN (i := 10) #[true, true, true, true, true, true, true, true, true, true, true] (by kernel_rfl) rfl (by kernel_rfl) (fun K4' hK4' => ?_)
                        go_simp
                        refine hK4'.out _ _ (.inl rfl) ?_
                        clear hK4' K4' hSz z4 fz
                        (try simp only [Act.put, List.setIfInBounds_toArray, List.set_cons_zero, List.set_cons_succ])
                        refine AnyT.doneN (by kernel_rfl) ?_ _
                        have hfin := HDz.out.put (HDz.out.dj.setWait _ (ws ++ [(place, p)]) (insK (place, p) J.wait) HPM.out HVz.out)
                        have HFIN := Aside0.mk hfin
                        clear hfin HDz HVz
                        generalize wz.setCell ⟨g1, 4, none⟩ (.slice A83 n83 c83) = WF at HFIN ⊢
                        go_wp2
                        go_meet
                        exact ⟨_, ws ++ [(place, p)], by rw [HLJ.out]; exact HFIN.out⟩
                    · clear hS
                      refine Kd.N_lit_step k110 (w0 := W15) (W := W15) W15.heap.size 110 ?ubW (N' := 82) ?ubD (xs := [T110 (place, p)]) (inner := [.int .i64 place, .bool p.f0, .bool p.f1, .int .i64 p.f2, .slice A p.f3.length c]) (ok := (fun k => (Not2 P g1 g2 k ∧ some k ≠ (Value.slice At nt ct).ownBlock) ∧ (k < W15.heap.size ∨ k = W15.heap.size))) (okp := (fun k => (Not2 P g1 g2 k ∧ some k ≠ (Value.slice At nt ct).ownBlock) ∧ k < W15.heap.size)) ?ubR ?ubP (fun k h => ⟨h.1, .inl h.2⟩) ⟨DJ.okNew HD15.out.dj _ (Below.refl W15.heap.size W15).size, .inr rfl⟩ (Below.refl W15.heap.size W15) (Below.refl W15.heap.size W15).size (by simp) ?ubN
                      case ubW => rfl
                      case ubD => rfl
                      case ubR => first | (go_simp; done) | (go_simp; rfl)
                      case ubP =>
                        have h1 := Kd.V_below HPQ.out (Below.refl _ _)
                        have h2 := k110_mkF W15 _ (T110 (place, p)) (Kd.V_at h1).2.1 (Kd.V_at h1).2.2
                        have h3 := Reps.snoc (Reps.none (Kd.FK k110 W15 (fun k => (Not2 P g1 g2 k ∧ some k ≠ (Value.slice At nt ct).ownBlock) ∧ k < W15.heap.size)) 5) h2 rfl
                        exact h3
                      intro v82 w0 ho82 hb82 hg82 hat82
                      have HS7 := Aside0.mk (show W15.heap.size < w0.heap.size by
                        obtain ⟨b, e1, e2⟩ := hat82
                        have := Kd.N_lt ho82 b e1
                        omega)
                      have HN82 := Aside0.mk ho82
                      have HB_w0 := Aside0.mk hb82
                      have HG82 := Aside0.mk (show Below W15.heap.size W15 w0 from ⟨hg82.os, hg82.tape, hg82.output, hg82.size, fun k hk => hg82.block k hk (by simp)⟩)
                      clear ho82 hb82 hg82 hat82
                      have hS_w0 : (fun w' : World => w'.cell? ⟨g1, 4, none⟩ = some (.slice Aw nw cw) ∧ w'.cell? ⟨g3, 0, none⟩ = some (.bool p.f0) ∧ w'.cell? ⟨g3, 1, none⟩ = some (.bool p.f1) ∧ w'.cell? ⟨g3, 2, none⟩ = some (.int .i64 p.f2) ∧ w'.cell? ⟨g3, 3, none⟩ = some (.slice A p.f3.length c)) w0 := ⟨(HD15.out.below HB_w0.out).dj.cells.2.2.2.2.1, (HD15.out.below HB_w0.out).cells.1, (HD15.out.below HB_w0.out).cells.2.1, (HD15.out.below HB_w0.out).cells.2.2.1, (HD15.out.below HB_w0.out).cells.2.2.2⟩
                      refine hK1.out _ _ (.inr hS_w0) ?_
                      show AnyT _ _ _ _ _ _ _ _ (Act.put _ (some 82) v82) _
                      (try simp only [Act.put, List.setIfInBounds_toArray, List.set_cons_zero, List.set_cons_succ])
                      clear hK1 K1
                      refine AnyT.oneN (i := 0) #[true, true, true, false, true, true, true, true, false, false, false] (by kernel_rfl) rfl (by kernel_rfl) (fun K2 hK2 => ?_)
                      refine Kd.N_lit_step k110 (w0 := W15) (W := w0) W15.heap.size 110 ?uaW (N' := 75) ?uaD (xs := ([] : List S110)) (inner := []) (ok := (fun k => Not2 P g1 g2 k ∧ some k ≠ (Value.slice At nt ct).ownBlock)) (okp := (fun k => Not2 P g1 g2 k ∧ some k ≠ (Value.slice At nt ct).ownBlock)) ?uaR ?uaP (fun _ h => h) (DJ.okNew HD15.out.dj _ HB_w0.out.size) HB_w0.out HB_w0.out.size (by simp) ?uaN
                      case uaW => rfl
                      case uaD => rfl
                      case uaR => first | (go_simp; done) | (go_simp; rfl)
                      case uaP => exact Reps.none _ _
                      intro v75 w1 ho75 hb75 hg75 hat75
                      have HN75 := Aside0.mk ho75
                      have HB_w1 := Aside0.mk hb75
                      have HAT75 := Aside0.mk hat75
                      have HG75 := Aside0.mk (show Below w0.heap.size w0 w1 from ⟨hg75.os, hg75.tape, hg75.output, hg75.size, fun k hk => hg75.block k hk (by simp)⟩)
                      clear ho75 hb75 hg75 hat75
                      have hS_w1 : (fun w' : World => w'.cell? ⟨g1, 4, none⟩ = some (.slice Aw nw cw) ∧ w'.cell? ⟨g3, 0, none⟩ = some (.bool p.f0) ∧ w'.cell? ⟨g3, 1, none⟩ = some (.bool p.f1) ∧ w'.cell? ⟨g3, 2, none⟩ = some (.int .i64 p.f2) ∧ w'.cell? ⟨g3, 3, none⟩ = some (.slice A p.f3.length c)) w1 := ⟨(HD15.out.below HB_w1.out).dj.cells.2.2.2.2.1, (HD15.out.below HB_w1.out).cells.1, (HD15.out.below HB_w1.out).cells.2.1, (HD15.out.below HB_w1.out).cells.2.2.1, (HD15.out.below HB_w1.out).cells.2.2.2⟩
                      refine hK2.out _ _ (.inr hS_w1) ?_
                      show AnyT _ _ _ _ _ _ _ _ (Act.put _ (some 75) v75) _
                      (try simp only [Act.put, List.setIfInBounds_toArray, List.set_cons_zero, List.set_cons_succ])
                      clear hK2 K2
                      have H75e := Aside0.mk (show ∀ k, v75.ownBlock = some k → k ≠ W15.heap.size from fun k hk => by
                        obtain ⟨b, e, hb⟩ := HAT75.out
                        have h1 := HS7.out
                        rw [e] at hk
                        cases hk
                        omega)
                      have hS7' := Aside0.mk (show W15.heap.size < w1.heap.size from Nat.lt_of_lt_of_le HS7.out HG75.out.size)
                      clear HS7
                      have HS7 := hS7'
                      clear hS7'
                      have hN82 := Aside0.mk (Kd.N_below HN82.out HG75.out)
                      clear HN82
                      have HN82 := hN82
                      clear hN82
                      refine AnyT.oneN (i := 3) #[true, true, true, true, true, true, true, true, false, false, false] (by kernel_rfl) rfl (by kernel_rfl) (fun K3 hK3 => ?_)
                      refine Kd.N_append_rows_step k110 (w0 := W15) (W := w1) W15.heap.size ?ucW (.tmp 75) (.tmp 77) 60 110 (.agg #[.int .i64 0, .bool false, .bool false, .int .i64 0, .slice none 0 0]) 48 ?ucU Tryd.underlying60 info110 rfl (by decide) (by decide) v75 [] (ws.map T110) Aw nw cw (fun k => Not2 P g1 g2 k ∧ some k ≠ (Value.slice At nt ct).ownBlock) (fun k => (Not2 P g1 g2 k ∧ some k ≠ (Value.slice At nt ct).ownBlock) ∧ k < W15.heap.size) ?ucV ?ucX HN75.out ?ucR ?ucK (fun k hk => DJ.okNew HD15.out.dj k (Nat.le_trans HB_w1.out.size hk)) HB_w1.out HB_w1.out.size ?ucL ?ucN
                      case ucW => rfl
                      case ucU => rfl
                      case ucV => rfl
                      case ucX => rfl
                      case ucR => exact Kd.V_F (Kd.V_below (Kd.V_bound HD15.out.dj.dv.wait) HB_w1.out)
                      case ucK =>
                        intro k hk
                        refine ⟨hk.1, fun e => ?_⟩
                        have := Kd.N_base HN75.out k e.symm
                        omega
                      case ucL => have h1 := HWL.out; have h2 := (Kd.V_at HD15.out.dj.dv.wait).1; simp at h2; simp; omega
                      intro v78 w2 ho78 hb78 hg78 hat78
                      have HN78 := Aside0.mk ho78
                      have HB_w2 := Aside0.mk hb78
                      have HG78 := Aside0.mk hg78
                      have HAT78 := Aside0.mk hat78
                      clear ho78 hb78 hg78 hat78
                      have hS_w2 : (fun w' : World => w'.cell? ⟨g1, 4, none⟩ = some (.slice Aw nw cw) ∧ w'.cell? ⟨g3, 0, none⟩ = some (.bool p.f0) ∧ w'.cell? ⟨g3, 1, none⟩ = some (.bool p.f1) ∧ w'.cell? ⟨g3, 2, none⟩ = some (.int .i64 p.f2) ∧ w'.cell? ⟨g3, 3, none⟩ = some (.slice A p.f3.length c)) w2 := ⟨(HD15.out.below HB_w2.out).dj.cells.2.2.2.2.1, (HD15.out.below HB_w2.out).cells.1, (HD15.out.below HB_w2.out).cells.2.1, (HD15.out.below HB_w2.out).cells.2.2.1, (HD15.out.below HB_w2.out).cells.2.2.2⟩
                      refine hK3.out _ _ (.inr hS_w2) ?_
                      show AnyT _ _ _ _ _ _ _ _ (Act.put _ (some 78) v78) _
                      (try simp only [Act.put, List.setIfInBounds_toArray, List.set_cons_zero, List.set_cons_succ])
                      clear hK3 K3
                      have H78 := Aside0.mk (show ∀ k, v78.ownBlock = some k → k ≠ W15.heap.size from fun k hk => by
                        rcases HAT78.out with e | ⟨b, e, hb⟩
                        · exact H75e.out k (e ▸ hk)
                        · have h1 := HS7.out
                          rw [e] at hk
                          cases hk
                          omega)
                      have hN82 := Aside0.mk (Kd.N_grown HN82.out HG78.out (fun k hk e => by
                        have h1 := H75e.out k e.symm
                        have h2 := Kd.N_base HN75.out k e.symm
                        rcases hk.2 with h3 | h3 <;> omega))
                      clear HN82
                      have HN82 := hN82
                      clear hN82 HN75
                      obtain ⟨A82, c82, rfl⟩ := Kd.N_slice HN82.out
                      refine AnyT.oneN (i := 8) #[true, true, true, true, true, true, true, true, true, false, false] (by kernel_rfl) rfl (by kernel_rfl) (fun K4 hK4 => ?_)
                      refine Kd.N_append_rows_step k110 (w0 := W15) (W := w2) W15.heap.size ?udW (.tmp 78) (.tmp 82) 60 110 (.agg #[.int .i64 0, .bool false, .bool false, .int .i64 0, .slice none 0 0]) 48 ?udU Tryd.underlying60 info110 rfl (by decide) (by decide) v78 ([] ++ ws.map T110) [T110 (place, p)] A82 1 c82 (fun k => Not2 P g1 g2 k ∧ some k ≠ (Value.slice At nt ct).ownBlock) (fun k => (Not2 P g1 g2 k ∧ some k ≠ (Value.slice At nt ct).ownBlock) ∧ (k < W15.heap.size ∨ k = W15.heap.size)) ?udV ?udX HN78.out ?udR ?udK (fun k hk => DJ.okNew HD15.out.dj k (Nat.le_trans HB_w2.out.size hk)) HB_w2.out HB_w2.out.size ?udL ?udN
                      case udW => rfl
                      case udU => rfl
                      case udV => rfl
                      case udX => rfl
                      case udR => exact Kd.N_F HN82.out
                      case udK =>
                        intro k hk
                        refine ⟨hk.1, fun e => ?_⟩
                        have h1 := Kd.N_base HN78.out k e.symm
                        have h2 := H78.out k e.symm
                        rcases hk.2 with h3 | h3 <;> omega
                      case udL => have h1 := HWL.out; simp; omega
                      intro v83 wz ho83 hb83 hg83 hat83
                      obtain ⟨A83, n83, c83, rfl⟩ := N_sl ho83
                      have hDz := HD15.out.below hb83
                      have hVz : Kd.V k110 110 wz base (fun k => Not2 P g1 g2 k ∧ some k ≠ (Value.slice At nt ct).ownBlock) (.slice A83 n83 c83) ((ws ++ [(place, p)]).map T110) := by
                        have e : ([] ++ ws.map T110) ++ [T110 (place, p)] = (ws ++ [(place, p)]).map T110 := by simp
                        rw [e] at ho83
                        have hn := (Kd.N_reads' ho83).1
                        subst hn
                        exact Kd.V_mk (Kd.N_reads' ho83).2.1 (Kd.N_F ho83)
                      have HDz := Aside0.mk hDz
                      have HVz := Aside0.mk hVz
                      clear ho83 hb83 hg83 hat83 hDz hVz
                      have hSz : (fun w' : World => w'.cell? ⟨g1, 4, none⟩ = some (.slice Aw nw cw) ∧ w'.cell? ⟨g3, 0, none⟩ = some (.bool p.f0) ∧ w'.cell? ⟨g3, 1, none⟩ = some (.bool p.f1) ∧ w'.cell? ⟨g3, 2, none⟩ = some (.int .i64 p.f2) ∧ w'.cell? ⟨g3, 3, none⟩ = some (.slice A p.f3.length c)) wz := ⟨HDz.out.dj.cells.2.2.2.2.1, HDz.out.cells.1, HDz.out.cells.2.1, HDz.out.cells.2.2.1, HDz.out.cells.2.2.2⟩
                      refine hK4.out _ _ (.inr hSz) ?_
                      clear hK4 K4
                      show AnyT _ _ _ _ _ _ _ _ (Act.put _ (some 83) (.slice A83 n83 c83)) _
                      (try simp only [Act.put, List.setIfInBounds_toArray, List.set_cons_zero, List.set_cons_succ])
                      refine AnyT.takeN (i := 9) (v := .pointer (some ⟨g1, 4, none⟩)) (some 84) #[true, true, true, true, true, true, true, true, true, true, false] rfl rfl (by kernel_rfl) (by kernel_rfl) (by kernel_rfl) (by kernel_rfl) (by kernel_rfl) (fun _ _ _ h => h) (Or.inl ⟨by rfl, ?hyu9⟩) hSz ?restu9
                      case hyu9 =>
                        intro w hSw
                        go_split_ands
                        go_simp
                        try (with_reducible rfl)
                      (try simp only [Act.put, List.setIfInBounds_toArray, List.set_cons_zero, List.set_cons_succ])
                      have fz : ∀ j, wz.frozen? ⟨g1, j, none⟩ = false := HDz.out.dj.fz
                      obtain ⟨-, -, -, -, z4, -, -, -, -⟩ := HDz.out.dj.cells
                      refine AnyT.oneN (i := 10) #[true, true, true, true, true, true, true, true, true, true, true] (by kernel_rfl) rfl (by kernel_rfl) (fun K4' hK4' => ?_)
                      go_simp
                      refine hK4'.out _ _ (.inl rfl) ?_
                      clear hK4' K4' hSz z4 fz
                      (try simp only [Act.put, List.setIfInBounds_toArray, List.set_cons_zero, List.set_cons_succ])
                      refine AnyT.doneN (by kernel_rfl) ?_ _
                      have hfin := HDz.out.put (HDz.out.dj.setWait _ (ws ++ [(place, p)]) (insK (place, p) J.wait) HPM.out HVz.out)
                      have HFIN := Aside0.mk hfin
                      clear hfin HDz HVz
                      generalize wz.setCell ⟨g1, 4, none⟩ (.slice A83 n83 c83) = WF at HFIN ⊢
                      go_wp2
                      go_meet
                      exact ⟨_, ws ++ [(place, p)], by rw [HLJ.out]; exact HFIN.out⟩
                case rest =>
                  clear HD14 HLY hlj
                  obtain ⟨vw1, ws1, hD16⟩ := hcut
                  obtain ⟨Aw1, nw1, cw1, rfl⟩ := V_sl hD16.dj.dv.wait
                  obtain ⟨W16, hW16⟩ : ∃ V, V = wc := ⟨_, rfl⟩
                  subst hW16
                  have hlk0 : 0 ≤ (k : Int) ∧ (k : Int) < (mute J).last.length := ⟨by omega, by have h1 := HPL.out.2.2.2.2.2.2.1; show (k : Int) < (J.last.length : Int); omega⟩
                  have hlaid := laid_ok HOK.out.1 hlk0.1 hlk0.2 HPV.out.2
                  have hmu : ({ laidJ J (k : Int) p with evs := [] } : Jn) = laidJ (mute J) (k : Int) p := by
                    have e1 : placeJ (mute J) (k : Int) p.f2 = placeJ J (k : Int) p.f2 := rfl
                    have e2 : hasJ (mute J) (placeJ J (k : Int) p.f2) = hasJ J (placeJ J (k : Int) p.f2) := rfl
                    unfold laidJ
                    simp only [e1, e2]
                    split <;> rfl
                  have hcl := DJ.clear hD16.dj hD16.nb
                  rw [hmu] at hcl
                  obtain ⟨J3, hJ3⟩ : ∃ q, laidJ (mute J) (k : Int) p = q := ⟨_, rfl⟩
                  rw [hJ3] at hcl hlaid
                  have hl3 : J3.last.length ≤ 100 := by
                    have h1 : J3.last.length = J.last.length := by
                      rw [← hJ3]
                      unfold laidJ
                      simp only
                      split <;> simp
                    have h2 := HLL.out
                    omega
                  have hph : 2 * phi J3 ≤ 80000 := by
                    have h1 := hlaid.2.1
                    have h2 := HLEN.out
                    have h3 : 3 * (mute J).wait.length ≤ phi (mute J) := by unfold phi; omega
                    have h4 : phi J3 ≤ 3 * J3.wait.length + 2 := by
                      unfold phi
                      have : ∀ a b : Nat, a ≤ 1 → b ≤ 1 → 3 * J3.wait.length + a + b ≤ 3 * J3.wait.length + 2 := by intros; omega
                      refine this _ _ ?_ ?_
                      · (repeat' split) <;> omega
                      · split <;> omega
                    omega
                  have hrm3 : J3.room = J.room := by
                    rw [← hJ3]
                    unfold laidJ
                    simp only
                    split <;> rfl
                  obtain ⟨K3, hK3⟩ : ∃ q, K + (mute J).nm = q := ⟨_, rfl⟩
                  rw [hK3] at hlaid
                  have hK3' : K3 ≤ 1000000000000 := by
                    have h1 : (mute J).nm = 4096 := HJ.out.nm
                    omega
                  have hev3 : J3.evs = [] := hlaid.2.2
                  have HL3 := Aside0.mk (And.intro hlaid.1 (And.intro hl3 (And.intro hph (And.intro hrm3 (And.intro hev3 hJ3)))))
                  obtain ⟨-, -, -, -, -, -, -, -, c8⟩ := hD16.dj.cells
                  have fx : ∀ j, W16.frozen? ⟨g1, j, none⟩ = false := hD16.dj.fz
                  have HC := Aside0.mk hcl
                  clear hcl hD16 hlk0 hlaid hmu hl3 hph hrm3 hev3 hJ3 hK3 HHS HJ1 HPV HOK HLEN HLL
                  go_upto_region 16 with (fail)
                  clear c8 fx
                  generalize W16.setCell ⟨g1, 8, none⟩ (.slice none 0 0) = W17 at HC ⊢
                  have hru := run_doc W17 base (Not2 P g1 g2) (.slice (some ⟨gl, 0, none⟩) J.last.length cap) (.slice Aw1 nw1 cw1) (.slice Ad nd cd) (.slice none 0 0) ws1 J3 K3 HC.out.dv HL3.out.1 hK3' HC.out.hP2 HC.out.hbW (by have h1 := HL3.out.2.2.1; have h2 := HL3.out.2.2.2.2.1; rw [h2]; simpa using h1) HL3.out.2.1
                  obtain ⟨J4, hJ4⟩ : ∃ q, runJ J3 = q := ⟨_, rfl⟩
                  rw [hJ4] at hru
                  have hro := run_ok HL3.out.1
                  rw [hJ4] at hro
                  have HRO := Aside0.mk (And.intro hro hJ4)
                  clear hro hJ4
                  obtain ⟨c0, c1, c2, c3, c4, c5, c6, c7, c8⟩ := HC.out.cells
                  go_upto_block 2 with (first
                    | (go_at_call 44; refine hru.mono ?_; rintro e w18 ⟨vw4, vd4, vt4, ws4, rfl, hdv4, hk4, ho4, hb4⟩; obtain ⟨Aw4, nw4, cw4, rfl⟩ := V_sl hdv4.wait; obtain ⟨Ad4, nd4, cd4, rfl⟩ := V_sl hdv4.data; obtain ⟨At4, nt4, ct4, rfl⟩ := N_sl hdv4.told; have hg4 := (hk4.2 g1 (blk_lt HC.out.b1) HC.out.told_ne.1).trans HC.out.b1; have fx : ∀ j, w18.frozen? ⟨g1, j, none⟩ = false := fun j => blk_frozen hg4 j; obtain ⟨z0, z1, z2, z3, z4, z5, z6, z7, z8⟩ := cells9 hg4; have HX4 := Aside0.mk (And.intro hdv4 (And.intro hk4 (And.intro ho4 hb4))); clear hdv4 hk4 ho4 hb4 hg4))
                  have hdj4 := HC.out.store HX4.out.1 HX4.out.2.1 HX4.out.2.2.1 HX4.out.2.2.2
                  clear c0 c1 c2 c3 c4 c5 c6 c7 c8 z0 z1 z2 z3 z4 z5 z6 z7 z8 fx HX4 hru HC
                  generalize (((((((((w18.setCell ⟨g1, 0, none⟩ (.bool true)).setCell ⟨g1, 1, none⟩ (.int .i64 J4.room)).setCell ⟨g1, 2, none⟩ (.int .i64 J4.most)).setCell ⟨g1, 3, none⟩ (.slice (some ⟨gl, 0, none⟩) J.last.length cap)).setCell ⟨g1, 4, none⟩ (.slice Aw4 nw4 cw4)).setCell ⟨g1, 5, none⟩ (.int .i64 J4.next)).setCell ⟨g1, 6, none⟩ (.int .i64 J4.mode)).setCell ⟨g1, 7, none⟩ (.slice Ad4 nd4 cd4)).setCell ⟨g1, 8, none⟩ (.slice At4 nt4 ct4)) = W18 at hdj4 ⊢
                  have HD := Aside0.mk hdj4
                  have HLEN := Aside0.mk HL3.out.2.2.1
                  have HLL := Aside0.mk HL3.out.2.1
                  clear hdj4
                  go_wp2_with (fail)
                  go_loopg [] (J4.wait.length) (fun kq wr => Aside0 (∃ vw1 vd1 vt1 ws1 J1, kq = J1.wait.length ∧ DJ W wr base P g1 g2 none (.slice (some ⟨gl, 0, none⟩) J.last.length cap) vw1 vd1 vt1 ws1 J1 ∧ OkJ J1 K3 ∧ stepJ J1 = none ∧ thinJ J.room.toNat J1 = thinJ J.room.toNat J4 ∧ J1.evs.length + 2 * phi J1 ≤ 2 * phi J3 ∧ J1.last = J3.last ∧ J1.room = J.room))
                  case atStart => exact ⟨_, _, _, ws4, J4, rfl, HD.out, HRO.out.1.1, HRO.out.1.2.1, rfl, by have h1 := HRO.out.1.2.2.1; rw [HL3.out.2.2.2.2.1] at h1; simpa using h1, HRO.out.1.2.2.2.2.2.2.1, HRO.out.1.2.2.2.2.1.trans HL3.out.2.2.2.1⟩
                  case round =>
                    obtain ⟨vw1, vd1, vt1, ws1, J1, rfl, hd1, hok1, hst1, hthin, hlen1, hlast, hroom⟩ := hrel.out
                    clear hrel HD
                    obtain ⟨Aw1, cw1, rfl⟩ := Kd.V_slice hd1.dv.wait
                    rw [List.length_map, hd1.dv.perm.length_eq] at hd1
                    obtain ⟨Ad1, nd1, cd1, rfl⟩ := V_sl hd1.dv.data
                    obtain ⟨At1, nt1, ct1, rfl⟩ := N_sl hd1.dv.told
                    have HD1 := Aside0.mk hd1
                    have HX := Aside0.mk (And.intro hok1 (And.intro hst1 (And.intro hthin (And.intro hlen1 hlast))))
                    have HRR := Aside0.mk hroom
                    clear hd1 hok1 hst1 hthin hlen1 hlast hroom
                    obtain ⟨c0, c1, c2, c3, c4, c5, c6, c7, c8⟩ := HD1.out.cells
                    have fx : ∀ j, wr.frozen? ⟨g1, j, none⟩ = false := HD1.out.fz
                    by_cases hz : J1.room < (J1.wait.length : Int)
                    · have e0 : decide (J1.room < (J1.wait.length : Int)) = true := decide_eq_true hz
                      have HZ' := Aside0.mk hz
                      have HZ := Aside0.mk (show J1.wait.length ≠ 0 by have h1 := HRR.out; have h2 := HRM.out; omega)
                      clear hz
                      go_upto_region 18 with (fail)
                      clear e0 fx c0 c1 c2 c3 c4 c5 c6 c7 c8
                      refine AnyT.begin_ 5 (fun w' : World => w'.cell? ⟨g1, 0, none⟩ = some (.bool true) ∧ w'.cell? ⟨g1, 1, none⟩ = some (.int .i64 J1.room) ∧ w'.cell? ⟨g1, 2, none⟩ = some (.int .i64 J1.most) ∧ w'.cell? ⟨g1, 3, none⟩ = some (.slice (some ⟨gl, 0, none⟩) J.last.length cap) ∧ w'.cell? ⟨g1, 4, none⟩ = some (.slice Aw1 J1.wait.length cw1) ∧ w'.cell? ⟨g1, 5, none⟩ = some (.int .i64 J1.next) ∧ w'.cell? ⟨g1, 6, none⟩ = some (.int .i64 J1.mode) ∧ w'.cell? ⟨g1, 7, none⟩ = some (.slice Ad1 nd1 cd1) ∧ w'.cell? ⟨g1, 8, none⟩ = some (.slice At1 nt1 ct1)) (by kernel_rfl) ?_
                      have HD6 := Aside0.mk (HD1.out.drewN 1)
                      obtain ⟨W6, hW6⟩ : ∃ V, wr.drew = V := ⟨_, rfl⟩
                      have hD6' : Aside0 (DJ W W6 base P g1 g2 none (.slice (some ⟨gl, 0, none⟩) J.last.length cap) (.slice Aw1 J1.wait.length cw1) (.slice Ad1 nd1 cd1) (.slice At1 nt1 ct1) ws1 J1) := ⟨by rw [← hW6]; exact HD6.out⟩
                      rw [hW6]
                      clear hW6 HD6 HD1
                      have HD6 := hD6'
                      clear hD6'
                      have hS : (fun w' : World => w'.cell? ⟨g1, 0, none⟩ = some (.bool true) ∧ w'.cell? ⟨g1, 1, none⟩ = some (.int .i64 J1.room) ∧ w'.cell? ⟨g1, 2, none⟩ = some (.int .i64 J1.most) ∧ w'.cell? ⟨g1, 3, none⟩ = some (.slice (some ⟨gl, 0, none⟩) J.last.length cap) ∧ w'.cell? ⟨g1, 4, none⟩ = some (.slice Aw1 J1.wait.length cw1) ∧ w'.cell? ⟨g1, 5, none⟩ = some (.int .i64 J1.next) ∧ w'.cell? ⟨g1, 6, none⟩ = some (.int .i64 J1.mode) ∧ w'.cell? ⟨g1, 7, none⟩ = some (.slice Ad1 nd1 cd1) ∧ w'.cell? ⟨g1, 8, none⟩ = some (.slice At1 nt1 ct1)) W6 := HD6.out.cells
                      refine AnyT.take (i := 0) (v := .agg #[.bool true, .int .i64 J1.room, .int .i64 J1.most, (.slice (some ⟨gl, 0, none⟩) J.last.length cap), (.slice Aw1 J1.wait.length cw1), .int .i64 J1.next, .int .i64 J1.mode, (.slice Ad1 nd1 cd1), (.slice At1 nt1 ct1)]) rfl (by kernel_rfl) (by kernel_rfl) (by kernel_rfl) (by kernel_rfl) (fun _ _ _ h => h) (Or.inl ⟨by rfl, ?hy0⟩) hS ?rest0
                      case hy0 =>
                        intro w hSw
                        go_split_ands
                        go_simp
                        try (with_reducible rfl)
                      (try simp only [Act.put, List.setIfInBounds_toArray, List.set_cons_zero, List.set_cons_succ])
                      refine AnyT.take (i := 1) (v := .agg #[.bool true, .int .i64 J1.room, .int .i64 J1.most, (.slice (some ⟨gl, 0, none⟩) J.last.length cap), (.slice Aw1 J1.wait.length cw1), .int .i64 J1.next, .int .i64 J1.mode, (.slice Ad1 nd1 cd1), (.slice At1 nt1 ct1)]) rfl (by kernel_rfl) (by kernel_rfl) (by kernel_rfl) (by kernel_rfl) (fun _ _ _ h => h) (Or.inl ⟨by rfl, ?hy1⟩) hS ?rest1
                      case hy1 =>
                        intro w hSw
                        go_split_ands
                        go_simp
                        try (with_reducible rfl)
                      (try simp only [Act.put, List.setIfInBounds_toArray, List.set_cons_zero, List.set_cons_succ])
                      obtain ⟨p, q, hw⟩ : ∃ p q, J1.wait = p :: q := by
                        cases hw : J1.wait with
                        | nil => exact absurd (by rw [hw]; rfl) HZ.out
                        | cons p q => exact ⟨p, q, rfl⟩
                      obtain ⟨l1, l2, l3, l4⟩ := skip_lost HX.out.1 HX.out.2.1 hw
                      have hwl : ws1.length ≤ 100000 := by
                        have h1 := HD6.out.dv.perm.length_eq
                        have h2 : 3 * J1.wait.length ≤ phi J1 := by unfold phi; omega
                        have h3 := HX.out.2.2.2.1
                        have h4 := HLEN.out
                        omega
                      have hfi := first_at HD6.out.dv HX.out.1.sort (fun x hx => by have := (HX.out.1.waitK x hx).2.1; omega) (by omega) hw
                      have hsk : skipJ J1 = runJ (lostJ J1 p.1) := by unfold skipJ; rw [hw]
                      have hwr : IntKind.i64.wrap (p.1 - J1.next) = p.1 - J1.next := IntWalk.i64_in _ (by have h1 := HX.out.1.next0; have h2 := HX.out.1.nextK; have h3 := HX.out.1.waitK p (by rw [hw]; simp); omega)
                      have HL := Aside0.mk (And.intro l1 (And.intro l2 (And.intro l3 (And.intro hwl (And.intro hsk (And.intro hwr hw))))))
                      clear l1 l2 l3 l4 hwl hsk hwr hw
                      refine AnyT.one (i := 2) (by kernel_rfl) rfl (fun K hK => ?_)
                      go_simp
                      go_at_call 46
                      refine hfi.mono ?_
                      rintro e2 w7 ⟨rfl, hb7⟩
                      go_wp2
                      have HD7 := Aside0.mk (HD6.out.below hb7)
                      clear hb7 hfi
                      have hS7 : (fun w' : World => w'.cell? ⟨g1, 0, none⟩ = some (.bool true) ∧ w'.cell? ⟨g1, 1, none⟩ = some (.int .i64 J1.room) ∧ w'.cell? ⟨g1, 2, none⟩ = some (.int .i64 J1.most) ∧ w'.cell? ⟨g1, 3, none⟩ = some (.slice (some ⟨gl, 0, none⟩) J.last.length cap) ∧ w'.cell? ⟨g1, 4, none⟩ = some (.slice Aw1 J1.wait.length cw1) ∧ w'.cell? ⟨g1, 5, none⟩ = some (.int .i64 J1.next) ∧ w'.cell? ⟨g1, 6, none⟩ = some (.int .i64 J1.mode) ∧ w'.cell? ⟨g1, 7, none⟩ = some (.slice Ad1 nd1 cd1) ∧ w'.cell? ⟨g1, 8, none⟩ = some (.slice At1 nt1 ct1)) w7 := HD7.out.cells
                      refine hK.out _ _ (.inr hS7) ?_
                      clear hK K hS
                      (try simp only [Act.put, List.setIfInBounds_toArray, List.set_cons_zero, List.set_cons_succ])
                      have hla := lack_any w7 base (Not2 P g1 g2) (.slice (some ⟨gl, 0, none⟩) J.last.length cap) (.slice Aw1 J1.wait.length cw1) (.slice Ad1 nd1 cd1) (.slice At1 nt1 ct1) ws1 J1 p.1 HD7.out.dv HD7.out.hP2 HD7.out.hbW (by have := HX.out.2.2.2.1; have := HLEN.out; omega) HL.out.2.2.2.2.2.1
                      refine AnyT.one (i := 3) (by kernel_rfl) rfl (fun K hK => ?_)
                      go_simp
                      go_at_call 45
                      refine hla.mono ?_
                      rintro e2 w8 ⟨vt8, rfl, hdv8, hk8, ho8, hb8⟩
                      obtain ⟨At8, nt8, ct8, rfl⟩ := N_sl hdv8.told
                      have hg8 := (hk8.2 g1 (blk_lt HD7.out.b1) HD7.out.told_ne.1).trans HD7.out.b1
                      have hS8 : (fun w' : World => w'.cell? ⟨g1, 0, none⟩ = some (.bool true) ∧ w'.cell? ⟨g1, 1, none⟩ = some (.int .i64 J1.room) ∧ w'.cell? ⟨g1, 2, none⟩ = some (.int .i64 J1.most) ∧ w'.cell? ⟨g1, 3, none⟩ = some (.slice (some ⟨gl, 0, none⟩) J.last.length cap) ∧ w'.cell? ⟨g1, 4, none⟩ = some (.slice Aw1 J1.wait.length cw1) ∧ w'.cell? ⟨g1, 5, none⟩ = some (.int .i64 J1.next) ∧ w'.cell? ⟨g1, 6, none⟩ = some (.int .i64 J1.mode) ∧ w'.cell? ⟨g1, 7, none⟩ = some (.slice Ad1 nd1 cd1) ∧ w'.cell? ⟨g1, 8, none⟩ = some (.slice At1 nt1 ct1)) w8 := cells9 hg8
                      have HX8 := Aside0.mk (And.intro hdv8 (And.intro hk8 (And.intro ho8 (And.intro hb8 hg8))))
                      clear hdv8 hk8 ho8 hb8 hg8 hla
                      go_wp2
                      refine hK.out _ _ (.inr hS8) ?_
                      clear hK K hS7
                      (try simp only [Act.put, List.setIfInBounds_toArray, List.set_cons_zero, List.set_cons_succ])
                      have hru := run_doc w8 base (Not2 P g1 g2) (.slice (some ⟨gl, 0, none⟩) J.last.length cap) (.slice Aw1 J1.wait.length cw1) (.slice none 0 0) (.slice At8 nt8 ct8) ws1 (lostJ J1 p.1) K3 HX8.out.1 HL.out.1 hK3' (fun k hk => HD7.out.hP2 k (Nat.le_trans HX8.out.2.1.1 hk)) (Nat.le_trans HD7.out.hbW HX8.out.2.1.1) (by have h1 := HL.out.2.1; have h2 := HX.out.2.2.2.1; have h3 := HLEN.out; omega) (by have h1 := HX.out.2.2.2.2; have h2 := HLL.out; show J1.last.length ≤ 100; rw [h1]; exact h2)
                      obtain ⟨J9, hJ9⟩ : ∃ x, runJ (lostJ J1 p.1) = x := ⟨_, rfl⟩
                      rw [hJ9] at hru
                      have hs9 : skipJ J1 = J9 := HL.out.2.2.2.2.1.trans hJ9
                      have HS9 := Aside0.mk hs9
                      clear hJ9 hs9
                      refine AnyT.one (i := 4) (by kernel_rfl) rfl (fun K2 hK2 => ?_)
                      go_simp
                      go_at_call 44
                      refine hru.mono ?_
                      rintro e2 w9 ⟨vw9, vd9, vt9, ws9, rfl, hdv9, hk9, ho9, hb9⟩
                      obtain ⟨Aw9, nw9, cw9, rfl⟩ := V_sl hdv9.wait
                      obtain ⟨Ad9, nd9, cd9, rfl⟩ := V_sl hdv9.data
                      obtain ⟨At9, nt9, ct9, rfl⟩ := N_sl hdv9.told
                      have hk79 : Kept w7 w9 (fun k => some k = (Value.ownBlock (.slice At1 nt1 ct1))) := HX8.out.2.1.then_ hk9 (fun k hk => by
                        by_cases hlt : k < w7.heap.size
                        · exact .inl (HX8.out.2.2.1 k hlt hk)
                        · exact .inr (Nat.le_of_not_lt hlt))
                      have ho79 : ∀ k, k < w7.heap.size → some k = (Value.slice At9 nt9 ct9).ownBlock → some k = (Value.ownBlock (.slice At1 nt1 ct1)) := fun k hk hm => HX8.out.2.2.1 k hk (ho9 k (Nat.lt_of_lt_of_le hk HX8.out.2.1.1) hm)
                      have hb79 := HX8.out.2.2.2.1.trans hb9
                      have hg9 := (hk79.2 g1 (blk_lt HD7.out.b1) HD7.out.told_ne.1).trans HD7.out.b1
                      have hS9 : (fun w' : World => w'.cell? ⟨g1, 0, none⟩ = some (.bool true) ∧ w'.cell? ⟨g1, 1, none⟩ = some (.int .i64 J1.room) ∧ w'.cell? ⟨g1, 2, none⟩ = some (.int .i64 J1.most) ∧ w'.cell? ⟨g1, 3, none⟩ = some (.slice (some ⟨gl, 0, none⟩) J.last.length cap) ∧ w'.cell? ⟨g1, 4, none⟩ = some (.slice Aw1 J1.wait.length cw1) ∧ w'.cell? ⟨g1, 5, none⟩ = some (.int .i64 J1.next) ∧ w'.cell? ⟨g1, 6, none⟩ = some (.int .i64 J1.mode) ∧ w'.cell? ⟨g1, 7, none⟩ = some (.slice Ad1 nd1 cd1) ∧ w'.cell? ⟨g1, 8, none⟩ = some (.slice At1 nt1 ct1)) w9 := cells9 hg9
                      have hdj := HD7.out.store hdv9 hk79 ho79 hb79
                      have HDJ := Aside0.mk hdj
                      have fx : ∀ j, w9.frozen? ⟨g1, j, none⟩ = false := fun j => blk_frozen hg9 j
                      clear hdv9 hk9 ho9 hb9 hk79 ho79 hb79 hg9 hdj hru
                      go_wp2
                      refine hK2.out _ _ (.inr hS9) ?_
                      clear hK2 K2 hS8
                      (try simp only [Act.put, List.setIfInBounds_toArray, List.set_cons_zero, List.set_cons_succ])
                      obtain ⟨z0, z1, z2, z3, z4, z5, z6, z7, z8⟩ := hS9
                      refine AnyT.one (i := 5) (by kernel_rfl) rfl (fun K2 hK2 => ?_)
                      go_simp
                      refine hK2.out _ _ (.inl rfl) ?_
                      clear hK2 K2 z0 z1 z2 z3 z4 z5 z6 z7 z8 fx
                      (try simp only [Act.put, List.setIfInBounds_toArray, List.set_cons_zero, List.set_cons_succ])
                      refine AnyT.done (by kernel_rfl) ?_ _
                      generalize (((((((((w9.setCell ⟨g1, 0, none⟩ (.bool true)).setCell ⟨g1, 1, none⟩ (.int .i64 J9.room)).setCell ⟨g1, 2, none⟩ (.int .i64 J9.most)).setCell ⟨g1, 3, none⟩ (.slice (some ⟨gl, 0, none⟩) J.last.length cap)).setCell ⟨g1, 4, none⟩ (.slice Aw9 nw9 cw9)).setCell ⟨g1, 5, none⟩ (.int .i64 J9.next)).setCell ⟨g1, 6, none⟩ (.int .i64 J9.mode)).setCell ⟨g1, 7, none⟩ (.slice Ad9 nd9 cd9)).setCell ⟨g1, 8, none⟩ (.slice At9 nt9 ct9)) = W9 at HDJ ⊢
                      obtain ⟨k1, k2, k3, k4, k5, k6, k7, k8, k9⟩ := skip_ok HX.out.1 HX.out.2.1
                      have hne : J1.wait ≠ [] := by rw [HL.out.2.2.2.2.2.2]; simp
                      have hts := thin_step (room := J.room.toNat) HX.out.1 HX.out.2.1 (by have h1 := HZ'.out; have h2 := HRR.out; have h3 := HRM.out; omega)
                      rw [HS9.out] at k1 k2 k3 k4 k5 k6 k7 k8 k9 hts
                      have HK := Aside0.mk (And.intro k1 (And.intro k2 (And.intro k3 (And.intro k7 (And.intro (k9 hne) (And.intro hts k5))))))
                      clear k1 k2 k3 k4 k5 k6 k7 k8 k9 hne hts HD7 HX8 HL
                      go_wp2
                      go_roundg (J9.wait.length)
                      case measure => exact HK.out.2.2.2.2.1
                      case rel => exact ⟨⟨_, _, _, ws9, J9, rfl, HDJ.out, HK.out.1, HK.out.2.1, HK.out.2.2.2.2.2.1.symm.trans HX.out.2.2.1, by have h1 := HK.out.2.2.1; have h2 := HX.out.2.2.2.1; omega, HK.out.2.2.2.1.trans HX.out.2.2.2.2, HK.out.2.2.2.2.2.2.trans HRR.out⟩⟩
                    · have e0 : decide (J1.room < (J1.wait.length : Int)) = false := decide_eq_false hz
                      have HZ := Aside0.mk hz
                      clear hz
                      go_upto_region 19 with (fail)
                      have fy : ∀ j, wr.frozen? ⟨g2, j, none⟩ = false := fun j => blk_frozen HD1.out.b2 j
                      obtain ⟨y0, y1, y2, y3, y4, y5, y6, y7, y8⟩ := cells9 HD1.out.b2
                      have hne12 : g1 ≠ g2 := HD1.out.ne
                      go_region
                      go_wp2
                      obtain ⟨X, hX⟩ : ∃ X, (((((((((wr.setCell ⟨g2, 0, none⟩ (.bool true)).setCell ⟨g2, 1, none⟩ (.int .i64 J1.room)).setCell ⟨g2, 2, none⟩ (.int .i64 J1.most)).setCell ⟨g2, 3, none⟩ (.slice (some ⟨gl, 0, none⟩) J.last.length cap)).setCell ⟨g2, 4, none⟩ (.slice Aw1 J1.wait.length cw1)).setCell ⟨g2, 5, none⟩ (.int .i64 J1.next)).setCell ⟨g2, 6, none⟩ (.int .i64 J1.mode)).setCell ⟨g2, 7, none⟩ (.slice Ad1 nd1 cd1)).setCell ⟨g2, 8, none⟩ (.slice At1 nt1 ct1)) = X := ⟨_, rfl⟩
                      obtain ⟨r1', r2', r3', r4', r5'⟩ := HD1.out.answer hX.symm
                      rw [hX]
                      have r6' := below_drew (kept_none r3' r5')
                      obtain ⟨x0, x1, x2, x3, x4, x5, x6, x7, x8⟩ := cells9 (W := X.drew) r1'
                      have r7' := r2'.drew
                      generalize X.drew = Y at r6' r7' x0 x1 x2 x3 x4 x5 x6 x7 x8 ⊢
                      have hJe : feedJ (mute J) (k : Int) p = (J1, 0) := by
                        have h1 := HPL.out.2.2.2.2.2.2.1
                        have h2 := HNB.out
                        have h3 : (mute J).nm = 4096 := HJ.out.nm
                        unfold feedJ
                        rw [if_neg (by show ¬ ((k : Int) < 0 ∨ (J.last.length : Int) ≤ (k : Int)); omega), if_neg (by rw [h3]; omega), HL3.out.2.2.2.2.2, HRO.out.2]
                        have h4 : thinJ J.room.toNat J1 = J1 := thin_stop (by have h5 := HZ.out; have h6 := HRR.out; omega)
                        have h5 : (mute J).room = J.room := rfl
                        rw [h5, ← HX.out.2.2.1, h4]
                      refine bodyPost_ret (v := .tuple #[dagg J1 (.slice (some ⟨gl, 0, none⟩) J.last.length cap) (.slice Aw1 J1.wait.length cw1) (.slice Ad1 nd1 cd1) (.slice At1 nt1 ct1), .slice At1 nt1 ct1, .int .i64 0]) (by simp [results, Tryd.results34, go_sem, x0, x1, x2, x3, x4, x5, x6, x7, x8]) rfl ?_
                      exact ⟨_, _, _, _, _, J1, _, 0, rfl, r7', r6', by rw [hJe]; rfl, .inr ⟨rfl, rfl⟩⟩
            · have ht : Int.tmod pl 4096 ≠ p.f2 := by
                have h1 := HPL.out.2.1
                have h2 := HNB.out
                have h3 := hmb.out
                rw [← hpl]
                exact not_yet (by omega) h1.2.2.2.1 h2.1 h2.2 (by omega) (by omega)
              have ht1 : (Int.tmod pl 4096 == p.f2) = false := by simpa using ht
              have ht2 : (Int.tmod pl 4096 != p.f2) = true := by simpa using ht
              have hx1 : IntKind.i64.wrap (pl + 1) = pl + 1 := IntWalk.i64_in _ (by have h1 := HPL.out.2.1; have h3 := hmb.out; have h4 := HJ.out.nm; omega)
              have HM := Aside0.mk hm
              clear hm ht hpl
              go_upto_region 7 with (fail)
              go_quiet (fail)
              go_wp2
              go_roundg (gk - 1)
              case measure => have := HM.out; omega
              case rel =>
                refine ⟨gk - 1, rfl, ?_, ⟨by have := hmb.out; omega⟩, ⟨hdr.out.below (pw_below_drewN (Below.refl _ _) _)⟩⟩
                have h1 := HM.out
                have h2 := HQ.out
                congr 1
                omega
end Go.Proofs.YtgopklnfdlnojaaDoor.Lg
