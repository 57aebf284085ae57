/- A joiner in memory: its cells, its rows, its map; what a step leaves alone. The small methods: tell, take, Kept. -/
import Derived.StillTailTactics
import Derived.Deep.RegionLaw
import Derived.Maps.OwnSet
import Derived.Deep.RegionHeld3
import Derived.Test.YtgopklnfdlnojaaDoorGp
namespace Go.Proofs.YtgopklnfdlnojaaDoor.Ja
open Go.RowKit Go.Proofs.YtgopklnfdlnojaaDoor.Ga Go.Proofs.YtgopklnfdlnojaaDoor.My Go.Proofs.YtgopklnfdlnojaaDoor.Gb Go.Proofs.YtgopklnfdlnojaaDoor.Gp Go.Proofs.YtgopklnfdlnojaaDoorW.PrintWords Go.Proofs.YtgopklnfdlnojaaDoorW.PrintLast Go.Proofs.YtgopklnfdlnojaaDoorW.PrintMore
set_option linter.unusedVariables false
set_option linter.unusedSimpArgs false

structure Ev where
  kind : Int
  data : List Int
  from_ : Int
  many : Int

/-- A joiner. wait: the pieces that wait, by their places. -/
structure Jn where
  nm : Int
  room : Int
  most : Int
  last : List Int
  wait : List (Int × S29)
  next : Int
  mode : Int
  data : List Int
  evs : List Ev

/-- Octets that lie in no block of X. -/
def Sl0 (W : World) (X : Nat → Prop) (A : Option Addr) (n : Nat) (xs : List Int) : Prop := Kd.F (Kd.int .u8) W (fun k => k < W.heap.size ∧ ¬ X k) A n xs
theorem Sl0.kept {W W2 : World} {X X2 : Nat → Prop} {A : Option Addr} {n : Nat} {xs : List Int} (h : Sl0 W X A n xs) (hk : Kept W W2 X) (hx : ∀ k, k < W.heap.size → X2 k → X k) : Sl0 W2 X2 A n xs :=
  Kd.F_mono (Kd.F_kept h hk (fun k hk => hk.2)) (fun k hk2 => ⟨Nat.lt_of_lt_of_le hk2.1 hk.1, fun h2 => hk2.2 (hx k hk2.1 h2)⟩)
/-- Octets that lie in blocks of octets, none of X. -/
def Sl (W : World) (X : Nat → Prop) (A : Option Addr) (n : Nat) (xs : List Int) : Prop := Kd.F (Kd.int .u8) W (fun k => k < W.heap.size ∧ ¬ X k ∧ ∃ cs, W.heap[k]? = some (Obj.cells cs 5 (0, 0))) A n xs
theorem Sl.kept {W W2 : World} {X X2 : Nat → Prop} {A : Option Addr} {n : Nat} {xs : List Int} (h : Sl W X A n xs) (hk : Kept W W2 X) (hx : ∀ k, k < W.heap.size → X2 k → X k) : Sl W2 X2 A n xs := by
  refine Kd.F_mono (Kd.F_kept h hk (fun k hk => hk.2.1)) (fun k hk2 => ?_)
  refine ⟨Nat.lt_of_lt_of_le hk2.1 hk.1, fun h2 => hk2.2.1 (hx k hk2.1 h2), ?_⟩
  rw [hk.2 k hk2.1 hk2.2.1]
  exact hk2.2.2
/-- .. and stay where blocks of another type are written. -/
theorem Sl.typed {W W2 : World} {X X2 : Nat → Prop} {A : Option Addr} {n : Nat} {xs : List Int} (h : Sl W X A n xs) (hs : W.heap.size ≤ W2.heap.size) (hk : ∀ (k : Nat) (cs : Array Value), W.heap[k]? = some (Obj.cells cs 5 (0, 0)) → W2.heap[k]? = W.heap[k]?) (hx : ∀ k, k < W.heap.size → X2 k → X k) : Sl W2 X2 A n xs := by
  refine Kd.F_mono (Kd.F_step h (fun k hk1 _ => ?_)) (fun k hk2 => ?_)
  · obtain ⟨cs, hc⟩ := hk1.2.2
    exact hk k cs hc
  · obtain ⟨cs, hc⟩ := hk2.2.2
    exact ⟨Nat.lt_of_lt_of_le hk2.1 hs, fun h2 => hk2.2.1 (hx k hk2.1 h2), cs, (hk k cs hc).trans hc⟩

/-- An event's cells. -/
def EvOK (W : World) (X : Nat → Prop) (e : Ev) (r : List Value) : Prop := ∃ A c, r = [.int .i64 e.kind, .slice A e.data.length c, .int .i64 e.from_, .int .i64 e.many] ∧ e.data.length ≤ c ∧ Sl W X A e.data.length e.data
/-- A waiting piece's value. -/
def WtOK (W : World) (X : Nat → Prop) (p : Int × S29) (v : Int × Value) : Prop := v.1 = p.1 ∧ ∃ A c, v.2 = pc p.2.f0 p.2.f1 p.2.f2 A p.2.f3.length c ∧ p.2.f3.length ≤ c ∧ Sl W X A p.2.f3.length p.2.f3
def elemR (v : Value) : Option (DataW Value × List MemPlace) := some (.held v, [])
/-- Item by item. -/
def All2 {α β : Type} (R : α → β → Prop) (xs : List α) (ys : List β) : Prop := ys.length = xs.length ∧ ∀ (j : Nat) x y, xs[j]? = some x → ys[j]? = some y → R x y
theorem All2.imp {α β : Type} {R S : α → β → Prop} {xs : List α} {ys : List β} (h : All2 R xs ys) (k : ∀ x y, R x y → S x y) : All2 S xs ys := ⟨h.1, fun j x y hx hy => k x y (h.2 j x y hx hy)⟩
theorem All2.snoc {α β : Type} {R : α → β → Prop} {xs : List α} {ys : List β} {x : α} {y : β} (h : All2 R xs ys) (hr : R x y) : All2 R (xs ++ [x]) (ys ++ [y]) := by
  refine ⟨by simp [h.1], fun j a b ha hb => ?_⟩
  by_cases hj : j < xs.length
  · rw [List.getElem?_append_left hj] at ha
    rw [List.getElem?_append_left (by rw [h.1]; exact hj)] at hb
    exact h.2 j a b ha hb
  · rw [List.getElem?_append_right (by omega)] at ha
    rw [List.getElem?_append_right (by rw [h.1]; omega), h.1] at hb
    have h1 : j - xs.length = 0 := by
      have := (List.getElem?_eq_some_iff.1 ha).1
      simp at this
      omega
    rw [h1] at ha hb
    simp at ha hb
    subst ha; subst hb
    exact hr

/-- The blocks that a joiner writes. -/
def Mut (g bm : Nat) (vl vd ve : Value) (k : Nat) : Prop := k = g ∨ k = bm ∨ some k = vl.ownBlock ∨ some k = vd.ownBlock ∨ some k = ve.ownBlock

/-- A joiner lies at block g, in blocks of its own from base on. -/
structure JM (W : World) (base g bm : Nat) (vl vd ve : Value) (wv : List (Int × Value)) (er : List (List Value)) (J : Jn) : Prop where
  hg : W.heap[g]? = some (.cells #[.int .i64 J.nm, .int .i64 J.room, .int .i64 J.most, vl, .map (some bm), .int .i64 J.next, .int .i64 J.mode, vd, ve] 102 (0, 0))
  hgb : base ≤ g
  hbm : base ≤ bm
  hlast : (Kd.int .i64).R 3 W base (fun _ => True) vl J.last
  hdata : (Kd.int .u8).R 5 W base (fun _ => True) vd J.data
  hevs : (rawK 4).R 84 W base (fun _ => True) ve er
  hev : All2 (EvOK W (Mut g bm vl vd ve)) J.evs er
  hmap : W.ownsMap Tryd.prog 3 elemR bm wv.length (.map (wv.map fun x => (.int .i64 x.1, .held x.2)))
  hwv : All2 (WtOK W (Mut g bm vl vd ve)) J.wait wv
  hsort : J.wait.Pairwise (fun p q => p.1 < q.1)

def tellJ (J : Jn) (kind place many : Int) : Jn := { J with evs := J.evs ++ [⟨kind, [], Int.tmod place J.nm, many⟩] }

theorem info84 : (Tryd.prog.info? 84).map (fun i => (i.zero, i.size, i.bytes)) = some (some (.agg #[.int .i64 0, .slice none 0 0, .int .i64 0, .int .i64 0]), 4, 48) := by kernel_rfl

theorem far_cell (w1 : World) (g o k : Nat) (u : Value) (h : k ≠ g) : (w1.setCell ⟨g, o, none⟩ u).heap[k]? = w1.heap[k]? := by
  simp [World.setCell, Array.getElem?_modify, Ne.symm h]
theorem R_stay {α : Type} {d : Kd α} {e base : Nat} {W W' : World} {v : Value} {xs : List α} {S : Nat → Prop} (hE : d.E = []) (h : d.R e W base (fun _ => True) v xs) (hk : Kept W W' S) (hs : ∀ k, some k = v.ownBlock → ¬ S k) : d.R e W' base (fun _ => True) v xs :=
  Kd.R_mono (Kd.R_kept (Kd.R_tight hE h) hk hs) (fun _ _ => trivial)
theorem map_stay {W W' : World} {bm n : Nat} {D : DataW Value} (h : W.ownsMap Tryd.prog 3 elemR bm n D) (he : W'.heap[bm]? = W.heap[bm]?) : W'.ownsMap Tryd.prog 3 elemR bm n D := by
  obtain ⟨es, clock, h1, h2⟩ := h
  exact ⟨es, clock, he.trans h1, h2⟩
theorem map_blk {W : World} {bm n : Nat} {D : DataW Value} (h : W.ownsMap Tryd.prog 3 elemR bm n D) : ∃ es clock, W.heap[bm]? = some (.map es clock) := by
  obtain ⟨es, clock, h1, _⟩ := h
  exact ⟨es, clock, h1⟩
theorem own_type {α : Type} {d : Kd α} {e base : Nat} {W : World} {v : Value} {xs : List α} (h : d.R e W base (fun _ => True) v xs) (k : Nat) (hk : some k = v.ownBlock) : ∃ cs, W.heap[k]? = some (.cells cs e (0, 0)) := by
  obtain ⟨_, inner, hown, _⟩ := h
  exact own_typed hown k hk.symm

section
variable {W : World} {base g bm : Nat} {vl vd ve : Value} {wv : List (Int × Value)} {er : List (List Value)} {J : Jn}
/-- The joiner's blocks are five. -/
theorem JM.apart (h : JM W base g bm vl vd ve wv er J) : (∀ k, some k = vl.ownBlock → k ≠ g ∧ k ≠ bm ∧ some k ≠ vd.ownBlock ∧ some k ≠ ve.ownBlock) ∧ (∀ k, some k = vd.ownBlock → k ≠ g ∧ k ≠ bm ∧ some k ≠ vl.ownBlock ∧ some k ≠ ve.ownBlock) ∧ (∀ k, some k = ve.ownBlock → k ≠ g ∧ k ≠ bm ∧ some k ≠ vl.ownBlock ∧ some k ≠ vd.ownBlock) ∧ g ≠ bm := by
  have hg := h.hg
  obtain ⟨es, clock, hm⟩ := map_blk h.hmap
  have tl := own_type h.hlast
  have td := own_type h.hdata
  have te := own_type h.hevs
  refine ⟨fun k hk => ?_, fun k hk => ?_, fun k hk => ?_, ?_⟩
  · obtain ⟨cs, hc⟩ := tl k hk
    refine ⟨fun e => ?_, fun e => ?_, fun e => ?_, fun e => ?_⟩
    · subst e; rw [hg] at hc; simp at hc
    · subst e; rw [hm] at hc; simp at hc
    · obtain ⟨cs', hc'⟩ := td k e; rw [hc'] at hc; simp at hc
    · obtain ⟨cs', hc'⟩ := te k e; rw [hc'] at hc; simp at hc
  · obtain ⟨cs, hc⟩ := td k hk
    refine ⟨fun e => ?_, fun e => ?_, fun e => ?_, fun e => ?_⟩
    · subst e; rw [hg] at hc; simp at hc
    · subst e; rw [hm] at hc; simp at hc
    · obtain ⟨cs', hc'⟩ := tl k e; rw [hc'] at hc; simp at hc
    · obtain ⟨cs', hc'⟩ := te k e; rw [hc'] at hc; simp at hc
  · obtain ⟨cs, hc⟩ := te k hk
    refine ⟨fun e => ?_, fun e => ?_, fun e => ?_, fun e => ?_⟩
    · subst e; rw [hg] at hc; simp at hc
    · subst e; rw [hm] at hc; simp at hc
    · obtain ⟨cs', hc'⟩ := tl k e; rw [hc'] at hc; simp at hc
    · obtain ⟨cs', hc'⟩ := td k e; rw [hc'] at hc; simp at hc
  · intro e; subst e; rw [hg] at hm; simp at hm

/-- An event is put behind the others. -/
theorem JM_event {w9 : World} {ve' : Value} {r : List Value} {e : Ev} (h : JM W base g bm vl vd ve wv er J) (ho : (rawK 4).R 84 w9 base (fun _ => True) ve' (er ++ [r])) (hb9 : Below base W w9) (hgr : W.grownBy w9 ve.ownBlock) (hat : ve'.ownBlock = ve.ownBlock ∨ ∃ b, ve'.ownBlock = some b ∧ W.heap.size ≤ b)
    (hev : EvOK (w9.setCell ⟨g, 8, none⟩ ve') (Mut g bm vl vd ve') e r) :
    JM (w9.setCell ⟨g, 8, none⟩ ve') base g bm vl vd ve' wv (er ++ [r]) { J with evs := J.evs ++ [e] } ∧ Kept W (w9.setCell ⟨g, 8, none⟩ ve') (Mut g bm vl vd ve) ∧ (∀ k, k < W.heap.size → Mut g bm vl vd ve' k → Mut g bm vl vd ve k) ∧ Below base W (w9.setCell ⟨g, 8, none⟩ ve') := by
  obtain ⟨al, ad, ae, hgm⟩ := h.apart
  have hgl : g < W.heap.size := (Array.getElem?_eq_some_iff.1 h.hg).1
  have hg9 : w9.heap[g]? = _ := blk_grown h.hg hgr (fun e => (ae g e).1 rfl)
  have hsz : (w9.setCell ⟨g, 8, none⟩ ve').heap.size = w9.heap.size := by simp [World.setCell]
  have hkeep : Kept W (w9.setCell ⟨g, 8, none⟩ ve') (fun k => k = g ∨ some k = ve.ownBlock) := ⟨by rw [hsz]; exact hgr.size, fun k hk hs => (far_cell w9 g 8 k ve' (fun e => hs (.inl e))).trans (hgr.block k hk (fun e => hs (.inr e)))⟩
  have hkM : Kept W (w9.setCell ⟨g, 8, none⟩ ve') (Mut g bm vl vd ve) := ⟨hkeep.1, fun k hk hs => hkeep.2 k hk (fun e => hs (e.elim .inl (fun e => .inr (.inr (.inr (.inr e))))))⟩
  have hmut : ∀ k, k < W.heap.size → Mut g bm vl vd ve' k → Mut g bm vl vd ve k := fun k hk hm => by
    rcases hm with hm | hm | hm | hm | hm
    · exact .inl hm
    · exact .inr (.inl hm)
    · exact .inr (.inr (.inl hm))
    · exact .inr (.inr (.inr (.inl hm)))
    · rcases hat with e | ⟨b, e, hb⟩
      · exact .inr (.inr (.inr (.inr (hm.trans e))))
      · rw [e] at hm; cases hm; omega
  have hbel : Below base W (w9.setCell ⟨g, 8, none⟩ ve') := hb9.setCell (p := ⟨g, 8, none⟩) h.hgb _
  refine ⟨?_, hkM, hmut, hbel⟩
  refine ⟨?_, h.hgb, h.hbm, R_stay rfl h.hlast hkeep (fun k hk hs => hs.elim (al k hk).1 (al k hk).2.2.2), R_stay rfl h.hdata hkeep (fun k hk hs => hs.elim (ad k hk).1 (ad k hk).2.2.2), ?_, ?_, ?_, h.hwv.imp fun p v hp => ?_, h.hsort⟩
  · have := blk_set hg9 8 ve'
    simpa using this
  · exact Kd.R_set ho hg9 (by intro q hq; simp [rawK] at hq; subst hq; decide) 8 ve'
  · refine All2.snoc (h.hev.imp fun x y hxy => ?_) hev
    obtain ⟨A, c, h1, h2, h3⟩ := hxy
    exact ⟨A, c, h1, h2, h3.kept hkM hmut⟩
  · refine map_stay h.hmap (hkeep.2 bm ?_ ?_)
    · obtain ⟨es, clock, hm⟩ := map_blk h.hmap
      exact (Array.getElem?_eq_some_iff.1 hm).1
    · rintro (e | e)
      · exact hgm e.symm
      · exact (ae bm e).2.1 rfl
  · obtain ⟨h1, A, c, h2, h3, h4⟩ := hp
    exact ⟨h1, A, c, h2, h3, h4.kept hkM hmut⟩
end

set_option maxHeartbeats 1000000 in
set_option maxRecDepth 100000 in
theorem tell_any (W : World) (base g bm : Nat) (vl vd ve : Value) (wv : List (Int × Value)) (er : List (List Value)) (J : Jn) (kind place many : Int) (h : JM W base g bm vl vd ve wv er J) (hnm : 0 < J.nm) (hb : base ≤ W.heap.size) (hlen : er.length ≤ 100000) :
    Calls Tryd.prog 64 #[.pointer (some ⟨g, 0, none⟩), .int .i64 kind, .int .i64 place, .int .i64 many] W fun e W' => ∃ ve', (∃ v, e = .returned v) ∧
      JM W' base g bm vl vd ve' wv (er ++ [[.int .i64 kind, .slice none 0 0, .int .i64 (Int.tmod place J.nm), .int .i64 many]]) (tellJ J kind place many) ∧ Kept W W' (Mut g bm vl vd ve) ∧ (∀ k, k < W.heap.size → Mut g bm vl vd ve' k → Mut g bm vl vd ve k) ∧ Below base W W' := by
  obtain ⟨Ae, ce, rfl⟩ := Kd.R_slice h.hevs
  have HJ := Aside0.mk h
  have hg := h.hg
  have c0 := blk_cell hg 0
  have c8 := blk_cell hg 8
  have hz : J.nm ≠ 0 := by omega
  have fz : ∀ j, W.frozen? ⟨g, j, none⟩ = false := fun j => blk_frozen hg j
  have t8 : ∀ o : Obj, (W.alloc o).cell? ⟨g, 8, none⟩ = some (.slice Ae er.length ce) := fun o => by have := blk_cell (blk_keep hg (below_alloc (Below.refl _ W) o)) 8; simpa using this
  have t0 : ∀ o : Obj, (W.alloc o).cell? ⟨g, 0, none⟩ = some (.int .i64 J.nm) := fun o => by have := blk_cell (blk_keep hg (below_alloc (Below.refl _ W) o)) 0; simpa using this
  simp at c0 c8
  clear h hg
  go_enter Tryd.func64, Tryd.ntmps64
  go_region_law (refine Kd.R_append_step (rawK 4) (w0 := W) (W := W.drew) base ?aW (.tmp 12) (.tmp 22) 72 84 (.agg #[.int .i64 0, .slice none 0 0, .int .i64 0, .int .i64 0]) 48 ?aU Tryd.underlying72 info84 rfl (by decide) (by decide) (.slice Ae er.length ce) er [.int .i64 kind, .slice none 0 0, .int .i64 (Int.tmod place J.nm), .int .i64 many] [.int .i64 kind, .slice none 0 0, .int .i64 (Int.tmod place J.nm), .int .i64 many] (fun _ => True) (fun _ => False) ?aV ?aX ?aP (fun _ h => h.elim) (fun _ _ => trivial) ?aO ?aB ?aS ?aL ?_; (case aW => rfl); (case aU => rfl); (case aV => rfl); (case aX => rfl); (case aP => exact raw_M _ _ _ _ rfl (by simp [Value.oneCell'])); (case aO => exact Kd.R_drew HJ.out.hevs); (case aB => exact below_drew (Below.refl _ _)); (case aS => exact hb); (case aL => omega); intro v1 w9 ho hb9 hg hat; obtain ⟨A9, c9, rfl⟩ := Kd.R_slice ho; have HO := Aside0.mk ho; have HB := Aside0.mk hb9; have HG := Aside0.mk hg; have HAT := Aside0.mk hat; have hg9 := blk_grown (w := W.drew) HJ.out.hg hg (Kd.R_ne HJ.out.hevs HJ.out.hg (by decide)); have HG9 := Aside0.mk hg9; have y8 := blk_cell hg9 8; have fz9 : ∀ j, w9.frozen? ⟨g, j, none⟩ = false := fun j => blk_frozen hg9 j; simp at y8; clear ho hb9 hg hat hg9)
  all_goals
    go_end0
    obtain ⟨h1, h2, h3, h4⟩ := JM_event HJ.out HO.out HB.out ⟨HG.out.os, HG.out.tape, HG.out.output, HG.out.size, HG.out.block⟩ HAT.out (e := ⟨kind, [], Int.tmod place J.nm, many⟩) ⟨none, 0, rfl, Nat.le_refl _, Kd.F_nil _ _ _⟩
    simp only [List.length_append, List.length_singleton] at h1 h2 h3 h4
    exact ⟨_, ⟨_, rfl⟩, h1, h2, h3, h4⟩

end Go.Proofs.YtgopklnfdlnojaaDoor.Ja
