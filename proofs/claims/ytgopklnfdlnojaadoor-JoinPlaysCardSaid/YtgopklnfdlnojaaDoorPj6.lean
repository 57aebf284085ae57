/- The joiner of the document as a value: places lack, a piece is gone through, it runs, it is flushed. -/
import Derived.Deep.RegionHeld3
import Derived.StillTail
import Derived.Test.YtgopklnfdlnojaaDoorPj3
import Derived.Test.YtgopklnfdlnojaaDoorPj2
import Derived.Test.YtgopklnfdlnojaaDoorPj5
import Derived.Laws.ResultCell
import Derived.Deep.CutBlock
import Derived.Deep.DeepCutAuto
import Derived.Test.YtgopklnfdlnojaaDoorPj4
namespace Go.Proofs.YtgopklnfdlnojaaDoor.Lz
open Go
set_option linter.unusedVariables false

section
variable {P : Program} {ops : Array Oper} {Q : Exit → Act → World → Prop} {md : Region.Mode} {S : World → Prop} {z : Nat}

/-- Whatever order is picked; S holds behind every operation but number z. -/
def AnyT (P : Program) (md : Region.Mode) (ops : Array Oper) (Q : Exit → Act → World → Prop) (S : World → Prop) (z : Nat) : Nat → Array Bool → Act → World → Prop
  | 0, listed, a, w => Region.ready md ops listed = [] ∧ Q .normal a w
  | n + 1, listed, a, w => (Region.ready md ops listed = [] → Q .normal a w) ∧ ∀ i ∈ Region.ready md ops listed, wpOp P ops Q i (fun a' w' => (i = z ∨ S w') ∧ AnyT P md ops Q S z n (listed.setIfInBounds i true) a' w') a w

theorem AnyT.any : ∀ (n : Nat) (listed : Array Bool) (a : Act) (w : World), AnyT P md ops Q S z n listed a w → wpAny P md ops Q n listed a w
  | 0, _, _, _, h => h
  | n + 1, _, _, _, h => ⟨h.1, fun i hi => wpOp_mono (fun a' w' h' => AnyT.any n _ a' w' h'.2) (h.2 i hi)⟩

theorem not_ready {i j : Nat} {listed : Array Bool} (hr : i ∈ Region.ready md ops listed) (hj : j ∈ Region.ready md ops listed) (hz : Region.waitsFor md ops j i = true) : False := by
  obtain ⟨hun, _⟩ := mem_ready.1 hr
  obtain ⟨_, oj, hoj, hall⟩ := mem_ready.1 hj
  obtain ⟨o2, ho2, e, he, hb, hon⟩ := Region.waitsFor_spec hz
  have : o2 = oj := Option.some.inj (ho2.symm.trans hoj)
  subst this
  have h1 := hall e he hb
  rw [hon] at h1
  rcases Nat.lt_or_ge i listed.size with h' | h'
  · simp [h'] at hun h1; rw [hun] at h1; cases h1
  · simp [Array.getElem?_eq_none h'] at h1

theorem AnyT.first {i : Nat} {oi : Oper} {v : Value} (hi : ops[i]? = some oi) (hz : Region.waitsFor md ops z i = true) (hsel : ∀ (j : Nat) (o : Oper) cs b, ops[j]? = some o → o.op ≠ .select cs b)
    (hQ : ∀ c a w, Q (.panic c) (a.put oi.dst v) w → Q (.panic c) a w) : ∀ (n : Nat) (listed : Array Bool) (a : Act) (w : World),
      (∀ j oj, ops[j]? = some oj → j ≠ i → listed.getD j true = false → (∀ e ∈ oj.after, Region.binds md e = true → e.on ≠ i) → oi.apart ops oj = true) →
      i ∈ Region.ready md ops listed → YieldsIf P ops S oi v a → S w →
      AnyT P md ops Q S z n (listed.setIfInBounds i true) (a.put oi.dst v) w → AnyT P md ops Q S z (n + 1) listed a w := by
  intro n
  induction n with
  | zero =>
    intro listed a w _ hr hy hS H
    refine ⟨fun h => (by rw [h] at hr; cases hr), fun j hj => ?_⟩
    by_cases hji : j = i
    · subst hji; exact hy.wpOp hi hS ⟨.inr hS, H⟩
    · have := ready_mono hj hji
      rw [H.1] at this
      cases this
  | succ n ih =>
    intro listed a w hfree hr hy hS H
    refine ⟨fun h => (by rw [h] at hr; cases hr), fun j hj => ?_⟩
    by_cases hji : j = i
    · subst hji; exact hy.wpOp hi hS ⟨.inr hS, H⟩
    · have hjz : j ≠ z := fun e => not_ready hr hj (by rw [e]; exact hz)
      obtain ⟨hjun, oj, hoj, hall⟩ := mem_ready.1 hj
      have hnot : ∀ e ∈ oj.after, Region.binds md e = true → e.on ≠ i := fun e he hb heq => not_ready hr hj (by
        unfold Region.waitsFor
        rw [hoj]
        exact Array.any_eq_true'.2 ⟨e, he, by simp [hb, heq]⟩)
      have h2 := wpOp_putIf hoj (hfree j oj hoj hji hjun hnot) (fun cs b => hsel i oi cs b hi) (fun cs b => hsel j oj cs b hoj) hQ hy (H.2 j (ready_mono hj hji))
      refine wpOp_mono (fun a' w' h3 => ?_) h2
      have hS' : S w' := h3.2.1.elim (fun e => absurd e hjz) id
      refine ⟨.inr hS', ih (listed.setIfInBounds j true) a' w' (fun k ok hk hki hun hno => hfree k ok hk hki ?_ hno) (ready_mono hr (Ne.symm hji)) h3.1 hS' ?_⟩
      · by_cases hjk : j = k
        · subst hjk; exact hjun
        · rw [getD_set_ne true hjk] at hun; exact hun
      · rw [Array.setIfInBounds_comm _ _ hji]
        exact h3.2.2

theorem AnyT.take {i : Nat} {oi : Oper} {v : Value} {n : Nat} {listed : Array Bool} {a : Act} {w : World} (hi : ops[i]? = some oi) (hz : Region.waitsFor md ops z i = true)
    (hs : Region.noSelect ops = true) (hf : Region.free md ops listed i = true) (hr : (Region.ready md ops listed).contains i = true)
    (hQ : ∀ c a w, Q (.panic c) (a.put oi.dst v) w → Q (.panic c) a w) (hy : YieldsIf P ops S oi v a) (hS : S w)
    (h : AnyT P md ops Q S z n (listed.setIfInBounds i true) (a.put oi.dst v) w) : AnyT P md ops Q S z (n + 1) listed a w :=
  AnyT.first hi hz (Region.noSelect_spec hs) hQ n listed a w (Region.free_spec hi hf) (by simpa using hr) hy hS h
/-- One alone may come up. -/
theorem AnyT.one {i : Nat} {o : Oper} {n : Nat} {listed : Array Bool} {a : Act} {w : World} (hr : Region.ready md ops listed = [i]) (ho : ops[i]? = some o)
    (h : ∀ K : Act → World → Prop, Shut (∀ a w, (i = z ∨ S w) → AnyT P md ops Q S z n (listed.setIfInBounds i true) a w → K a w) → if Region.wanted o (yielded ops a.tmps) = true then Oper.wp P o a w K Q else K (a.put o.dst undef) w) : AnyT P md ops Q S z (n + 1) listed a w := by
  refine ⟨fun h0 => (by rw [hr] at h0; cases h0), fun j hj => ?_⟩
  rw [hr] at hj
  obtain rfl := List.mem_singleton.1 hj
  exact wpOp_step ho (fun K' hK => h K' (fun a w hS hW => hK a w ⟨hS, hW⟩))
theorem AnyT.done {listed : Array Bool} {a : Act} {w : World} (hr : Region.ready md ops listed = []) (h : Q .normal a w) : ∀ n, AnyT P md ops Q S z n listed a w
  | 0 => ⟨hr, h⟩
  | _ + 1 => ⟨fun _ => h, by rw [hr]; simp⟩
/-- The beginning. -/
theorem AnyT.begin_ {id : Nat} {a : Act} {w : World} (z : Nat) (S : World → Prop) (hm : P.follows .mixedOrders = true)
    (h : AnyT P .any ops Q S z ops.size (Array.replicate ops.size false) a w.drew) : (Code.region id ops true).wp P Q a w :=
  wp_region_any hm (AnyT.any _ _ _ _ h)
end
end Go.Proofs.YtgopklnfdlnojaaDoor.Lz
namespace Go.Proofs.YtgopklnfdlnojaaDoor.La
open Go.RowKit Go.Proofs.YtgopklnfdlnojaaDoor.Lz Go.Proofs.YtgopklnfdlnojaaDoor.Ga Go.Proofs.YtgopklnfdlnojaaDoor.My Go.Proofs.YtgopklnfdlnojaaDoor.Gb Go.Proofs.YtgopklnfdlnojaaDoor.Gp Go.Proofs.YtgopklnfdlnojaaDoor.Ja Go.Proofs.YtgopklnfdlnojaaDoor.Jb Go.Proofs.YtgopklnfdlnojaaDoor.Jc Go.Proofs.YtgopklnfdlnojaaDoor.Je Go.Proofs.YtgopklnfdlnojaaDoor.Ka Go.Proofs.YtgopklnfdlnojaaDoorW.PrintWords Go.Proofs.YtgopklnfdlnojaaDoorW.PrintLast Go.Proofs.YtgopklnfdlnojaaDoorW.PrintMore
set_option linter.unusedVariables false
set_option linter.unusedSimpArgs false

def T110 (x : Int × S29) : S110 := ⟨x.1, ⟨x.2.f0, x.2.f1, x.2.f2, x.2.f3⟩⟩
def T106 (e : Ev) : S106 := ⟨e.kind, e.data, e.from_, e.many⟩
abbrev dcells (J : Jn) (vl vw vd vt : Value) : List Value := [.bool true, .int .i64 J.room, .int .i64 J.most, vl, vw, .int .i64 J.next, .int .i64 J.mode, vd, vt]
abbrev dagg (J : Jn) (vl vw vd vt : Value) : Value := .agg (dcells J vl vw vd vt).toArray

/-- The document's joiner: what it reads lies in blocks of P, and not in the block in which what is told is written. What waits, waits as it came. -/
structure DV (W : World) (base : Nat) (P : Nat → Prop) (vl vw vd vt : Value) (ws : List (Int × S29)) (J : Jn) : Prop where
  perm : ws.Perm J.wait
  nm : J.nm = 4096
  last : Kd.V (Kd.int .i64) 3 W base (fun k => P k ∧ some k ≠ vt.ownBlock) vl J.last
  wait : Kd.V k110 110 W base (fun k => P k ∧ some k ≠ vt.ownBlock) vw (ws.map T110)
  data : Kd.V (Kd.int .u8) 5 W base (fun k => P k ∧ some k ≠ vt.ownBlock) vd J.data
  told : Kd.N k106 106 W base P vt (J.evs.map T106)

section
variable {W W' : World} {base : Nat} {P : Nat → Prop} {vl vw vd vt : Value} {ws : List (Int × S29)} {J : Jn}
theorem DV.below (h : DV W base P vl vw vd vt ws J) (hb : Below W.heap.size W W') : DV W' base P vl vw vd vt ws J :=
  ⟨h.perm, h.nm, Kd.V_below h.last hb, Kd.V_below h.wait hb, Kd.V_below h.data hb, Kd.N_below h.told hb⟩
theorem DV.drew (h : DV W base P vl vw vd vt ws J) : DV W.drew base P vl vw vd vt ws J := h.below (below_drew (Below.refl _ W))
theorem DV.mono {P2 : Nat → Prop} (h : DV W base P vl vw vd vt ws J) (hp : ∀ k, P k → P2 k) : DV W base P2 vl vw vd vt ws J :=
  ⟨h.perm, h.nm, Kd.V_mono h.last (fun k hk => ⟨hp k hk.1, hk.2⟩), Kd.V_mono h.wait (fun k hk => ⟨hp k hk.1, hk.2⟩), Kd.V_mono h.data (fun k hk => ⟨hp k hk.1, hk.2⟩), Kd.N_mono h.told hp⟩
/-- What was made later is not read. -/
theorem DV.avoid {X : Nat → Prop} (h : DV W base P vl vw vd vt ws J) (hx : ∀ k, X k → W.heap.size ≤ k) : DV W base (fun k => P k ∧ ¬ X k) vl vw vd vt ws J :=
  have no : ∀ k, k < W.heap.size → ¬ X k := fun k hk hX => absurd (hx k hX) (by omega)
  ⟨h.perm, h.nm, Kd.V_mono (Kd.V_bound h.last) (fun k hk => ⟨⟨hk.1.1, no k hk.2⟩, hk.1.2⟩), Kd.V_mono (Kd.V_bound h.wait) (fun k hk => ⟨⟨hk.1.1, no k hk.2⟩, hk.1.2⟩), Kd.V_mono (Kd.V_bound h.data) (fun k hk => ⟨⟨hk.1.1, no k hk.2⟩, hk.1.2⟩), Kd.N_mono (Kd.N_bound h.told) (fun k hk => ⟨hk.1, no k hk.2⟩)⟩
theorem DV.kept {X : Nat → Prop} (h : DV W base P vl vw vd vt ws J) (hk : Kept W W' X) (hx : ∀ k, P k → ¬ X k) : DV W' base P vl vw vd vt ws J :=
  ⟨h.perm, h.nm, Kd.V_kept h.last hk (fun k hk => hx k hk.1), Kd.V_kept h.wait hk (fun k hk => hx k hk.1), Kd.V_kept h.data hk (fun k hk => hx k hk.1), Kd.N_kept h.told hk hx⟩
/-- Something is told. -/
theorem DV.tell {w1 : World} {vt1 : Value} {e : Ev} (h : DV W base P vl vw vd vt ws J) (ho : Kd.N k106 106 w1 base P vt1 (J.evs.map T106 ++ [T106 e])) (hg : W.grownBy w1 vt.ownBlock) (hat : vt1.ownBlock = vt.ownBlock ∨ ∃ b, vt1.ownBlock = some b ∧ W.heap.size ≤ b) :
    DV w1 base P vl vw vd vt1 ws { J with evs := J.evs ++ [e] } ∧ Kept W w1 (fun k => some k = vt.ownBlock) ∧ (∀ k, k < W.heap.size → some k = vt1.ownBlock → some k = vt.ownBlock) :=
  ⟨⟨h.perm, h.nm, Kd.V_after h.last hg hat, Kd.V_after h.wait hg hat, Kd.V_after h.data hg hat, by simpa using ho⟩, ⟨hg.size, fun k hk hs => hg.block k hk hs⟩, fun k hk hm => by
    rcases hat with e | ⟨b, e, hb⟩
    · exact hm.trans e
    · rw [e] at hm; cases hm; omega⟩
end


/-- Two blocks that were made just now. -/
theorem two_new (W : World) (o1 o2 : Obj) : ((W.alloc o1).alloc o2).heap[W.heap.size]? = some o1 ∧ ((W.alloc o1).alloc o2).heap[W.heap.size + 1]? = some o2 ∧ Below W.heap.size W ((W.alloc o1).alloc o2) ∧ ((W.alloc o1).alloc o2).heap.size = W.heap.size + 2 := by
  have hb := below_alloc (Below.refl _ W) o1
  have hs : (W.alloc o1).heap.size = W.heap.size + 1 := by rw [World.size_alloc]
  refine ⟨blk_keep (new1 W o1) (below_alloc (Below.refl _ _) o2), ?_, below_alloc hb o2, by rw [World.size_alloc, hs]⟩
  rw [← hs]
  exact new1 _ o2
theorem cells9 {W : World} {g t : Nat} {v0 v1 v2 v3 v4 v5 v6 v7 v8 : Value} (h : W.heap[g]? = some (.cells #[v0, v1, v2, v3, v4, v5, v6, v7, v8] t (0, 0))) :
    W.cell? ⟨g, 0, none⟩ = some v0 ∧ W.cell? ⟨g, 1, none⟩ = some v1 ∧ W.cell? ⟨g, 2, none⟩ = some v2 ∧ W.cell? ⟨g, 3, none⟩ = some v3 ∧ W.cell? ⟨g, 4, none⟩ = some v4 ∧ W.cell? ⟨g, 5, none⟩ = some v5 ∧ W.cell? ⟨g, 6, none⟩ = some v6 ∧ W.cell? ⟨g, 7, none⟩ = some v7 ∧ W.cell? ⟨g, 8, none⟩ = some v8 := by
  have hc := fun j => blk_cell h j
  exact ⟨hc 0, hc 1, hc 2, hc 3, hc 4, hc 5, hc 6, hc 7, hc 8⟩
theorem nine {W : World} {g t : Nat} {u0 u1 u2 u3 u4 u5 u6 u7 u8 : Value} (h : W.heap[g]? = some (.cells #[u0, u1, u2, u3, u4, u5, u6, u7, u8] t (0, 0))) (v0 v1 v2 v3 v4 v5 v6 v7 v8 : Value) :
    (((((((((W.setCell ⟨g, 0, none⟩ v0).setCell ⟨g, 1, none⟩ v1).setCell ⟨g, 2, none⟩ v2).setCell ⟨g, 3, none⟩ v3).setCell ⟨g, 4, none⟩ v4).setCell ⟨g, 5, none⟩ v5).setCell ⟨g, 6, none⟩ v6).setCell ⟨g, 7, none⟩ v7).setCell ⟨g, 8, none⟩ v8).heap[g]? = some (.cells #[v0, v1, v2, v3, v4, v5, v6, v7, v8] t (0, 0)) ∧
    Kept W (((((((((W.setCell ⟨g, 0, none⟩ v0).setCell ⟨g, 1, none⟩ v1).setCell ⟨g, 2, none⟩ v2).setCell ⟨g, 3, none⟩ v3).setCell ⟨g, 4, none⟩ v4).setCell ⟨g, 5, none⟩ v5).setCell ⟨g, 6, none⟩ v6).setCell ⟨g, 7, none⟩ v7).setCell ⟨g, 8, none⟩ v8) (fun k => k = g) ∧
    ∀ base, base ≤ g → Below base W (((((((((W.setCell ⟨g, 0, none⟩ v0).setCell ⟨g, 1, none⟩ v1).setCell ⟨g, 2, none⟩ v2).setCell ⟨g, 3, none⟩ v3).setCell ⟨g, 4, none⟩ v4).setCell ⟨g, 5, none⟩ v5).setCell ⟨g, 6, none⟩ v6).setCell ⟨g, 7, none⟩ v7).setCell ⟨g, 8, none⟩ v8) := by
  refine ⟨?_, ⟨by simp [World.setCell], fun k _ hs => ?_⟩, fun base hb => ?_⟩
  · have := blk_set (blk_set (blk_set (blk_set (blk_set (blk_set (blk_set (blk_set (blk_set h 0 v0) 1 v1) 2 v2) 3 v3) 4 v4) 5 v5) 6 v6) 7 v7) 8 v8
    simpa using this
  · rw [far_cell _ g 8 k _ hs, far_cell _ g 7 k _ hs, far_cell _ g 6 k _ hs, far_cell _ g 5 k _ hs, far_cell _ g 4 k _ hs, far_cell _ g 3 k _ hs, far_cell _ g 2 k _ hs, far_cell _ g 1 k _ hs, far_cell _ g 0 k _ hs]
  · exact ((((((((((Below.refl base W).setCell (p := ⟨g, 0, none⟩) hb _).setCell (p := ⟨g, 1, none⟩) hb _).setCell (p := ⟨g, 2, none⟩) hb _).setCell (p := ⟨g, 3, none⟩) hb _).setCell (p := ⟨g, 4, none⟩) hb _).setCell (p := ⟨g, 5, none⟩) hb _).setCell (p := ⟨g, 6, none⟩) hb _).setCell (p := ⟨g, 7, none⟩) hb _).setCell (p := ⟨g, 8, none⟩) hb _)
abbrev zcells : Array Value := #[.bool false, .int .i64 0, .int .i64 0, .slice none 0 0, .slice none 0 0, .int .i64 0, .int .i64 0, .slice none 0 0, .slice none 0 0]
theorem mod_true (w : World) : Calls Tryd.prog 40 #[.bool true] w fun e w' => e = .returned (.int .i64 4096) ∧ w' = w := by
  go_enter Tryd.func40, Tryd.ntmps40
  go_wp2
  go_ret
  exact ⟨rfl, rfl⟩

set_option maxHeartbeats 1000000 in
set_option maxRecDepth 100000 in
theorem lack_any (W : World) (base : Nat) (P : Nat → Prop) (vl vw vd vt : Value) (ws : List (Int × S29)) (J : Jn) (fin : Int) (h : DV W base P vl vw vd vt ws J) (hP : ∀ k, W.heap.size ≤ k → P k) (hb : base ≤ W.heap.size) (hlen : J.evs.length ≤ 100000) (hw : IntKind.i64.wrap (fin - J.next) = fin - J.next) :
    Calls Tryd.prog 45 #[dagg J vl vw vd vt, .int .i64 fin] W fun e W' => ∃ vt', e = .returned (dagg (lostJ J fin) vl vw (.slice none 0 0) vt') ∧
      DV W' base P vl vw (.slice none 0 0) vt' ws (lostJ J fin) ∧ Kept W W' (fun k => some k = vt.ownBlock) ∧ (∀ k, k < W.heap.size → some k = vt'.ownBlock → some k = vt.ownBlock) ∧ Below base W W' := by
  obtain ⟨At, ct, rfl⟩ := Kd.N_slice h.told
  obtain ⟨Al, cl, rfl⟩ := Kd.V_slice h.last
  obtain ⟨Aw, cw, rfl⟩ := Kd.V_slice h.wait
  obtain ⟨Ad, cd, rfl⟩ := Kd.V_slice h.data
  simp only [List.length_map] at h ⊢
  have HJ := Aside0.mk h
  clear h
  have hu63 := Tryd.underlying63
  go_enter Tryd.func45, Tryd.ntmps45
  go_upto_region 1 with (fail)
  obtain ⟨hB1, hB2, hBl, hsz⟩ := two_new W (.cells (dcells J (.slice Al J.last.length cl) (.slice Aw ws.length cw) (.slice Ad J.data.length cd) (.slice At J.evs.length ct)).toArray 63) (.cells zcells 63)
  obtain ⟨g1, hg1⟩ : ∃ g, W.heap.size = g := ⟨_, rfl⟩
  rw [hg1] at hB1 hB2
  simp only [hg1]
  obtain ⟨g2, hg2⟩ : ∃ g, g1 + 1 = g := ⟨_, rfl⟩
  rw [hg2] at hB2
  simp only [hg2]
  have HD := Aside0.mk ((HJ.out.avoid (X := fun k => k = g1 ∨ k = g2) (by intro k hk; omega)).below hBl)
  have HP1 := Aside0.mk (show ∀ k, W.heap.size + 2 ≤ k → P k ∧ ¬ (k = g1 ∨ k = g2) from fun k hk => ⟨hP k (by omega), by omega⟩)
  generalize (W.alloc (.cells (dcells J (.slice Al J.last.length cl) (.slice Aw ws.length cw) (.slice Ad J.data.length cd) (.slice At J.evs.length ct)).toArray 63)).alloc (.cells zcells 63) = W1 at hB1 hB2 hBl hsz HD ⊢
  have HB1 := Aside0.mk hB1
  have HB2 := Aside0.mk hB2
  have HBL := Aside0.mk hBl
  have HSZ := Aside0.mk hsz
  obtain ⟨p0, p1, p2, p3, p4, p5, p6, p7, p8⟩ := cells9 hB1
  clear hB1 hB2 hBl hsz p1 p2 p3 p4 p6 p7
  have HG := Aside0.mk (And.intro hg1 hg2)
  clear hg1 hg2
  have HW2 := Aside0.mk (show W.heap.size ≤ W1.heap.size from by rw [HSZ.out]; omega)
  have HC := Aside0.mk (blk_keep HB1.out (below_drew (Below.refl W1.heap.size W1)))
  have HC2 := Aside0.mk (blk_keep HB2.out (below_drew (Below.refl W1.heap.size W1)))
  have HD1 := Aside0.mk HD.out.drew
  have HBB := Aside0.mk (below_drew HBL.out)
  have hS : (fun w' : World => w'.cell? ⟨g1, 8, none⟩ = some (.slice At J.evs.length ct) ∧ w'.cell? ⟨g1, 5, none⟩ = some (.int .i64 J.next) ∧ w'.cell? ⟨g1, 0, none⟩ = some (.bool true)) W1.drew := ⟨p8, p5, p0⟩
  refine AnyT.begin_ 16 (fun w' : World => w'.cell? ⟨g1, 8, none⟩ = some (.slice At J.evs.length ct) ∧ w'.cell? ⟨g1, 5, none⟩ = some (.int .i64 J.next) ∧ w'.cell? ⟨g1, 0, none⟩ = some (.bool true)) (by kernel_rfl) ?_
  refine AnyT.take (i := 0) (v := .pointer (some ⟨g1, 8, none⟩)) rfl (by kernel_rfl) (by kernel_rfl) (by kernel_rfl) (by kernel_rfl) (fun _ _ _ h => h) (Or.inl ⟨by rfl, ?hy0⟩) hS ?rest0
  case hy0 =>
    intro w hSw
    go_split_ands
    go_simp
    try (with_reducible rfl)
  (try simp only [Act.put, List.setIfInBounds_toArray, List.set_cons_zero, List.set_cons_succ])
  refine AnyT.take (i := 1) (v := .slice At J.evs.length ct) rfl (by kernel_rfl) (by kernel_rfl) (by kernel_rfl) (by kernel_rfl) (fun _ _ _ h => h) (Or.inl ⟨by rfl, ?hy1⟩) hS ?rest1
  case hy1 =>
    intro w hSw
    go_split_ands
    go_simp
    try (with_reducible rfl)
  (try simp only [Act.put, List.setIfInBounds_toArray, List.set_cons_zero, List.set_cons_succ])
  refine AnyT.take (i := 2) (v := .pointer (some ⟨g1, 5, none⟩)) rfl (by kernel_rfl) (by kernel_rfl) (by kernel_rfl) (by kernel_rfl) (fun _ _ _ h => h) (Or.inl ⟨by rfl, ?hy2⟩) hS ?rest2
  case hy2 =>
    intro w hSw
    go_split_ands
    go_simp
    try (with_reducible rfl)
  (try simp only [Act.put, List.setIfInBounds_toArray, List.set_cons_zero, List.set_cons_succ])
  refine AnyT.take (i := 3) (v := .int .i64 J.next) rfl (by kernel_rfl) (by kernel_rfl) (by kernel_rfl) (by kernel_rfl) (fun _ _ _ h => h) (Or.inl ⟨by rfl, ?hy3⟩) hS ?rest3
  case hy3 =>
    intro w hSw
    go_split_ands
    go_simp
    try (with_reducible rfl)
  (try simp only [Act.put, List.setIfInBounds_toArray, List.set_cons_zero, List.set_cons_succ])
  refine AnyT.take (i := 4) (v := .pointer (some ⟨g1, 0, none⟩)) rfl (by kernel_rfl) (by kernel_rfl) (by kernel_rfl) (by kernel_rfl) (fun _ _ _ h => h) (Or.inl ⟨by rfl, ?hy4⟩) hS ?rest4
  case hy4 =>
    intro w hSw
    go_split_ands
    go_simp
    try (with_reducible rfl)
  (try simp only [Act.put, List.setIfInBounds_toArray, List.set_cons_zero, List.set_cons_succ])
  refine AnyT.take (i := 5) (v := .bool true) rfl (by kernel_rfl) (by kernel_rfl) (by kernel_rfl) (by kernel_rfl) (fun _ _ _ h => h) (Or.inl ⟨by rfl, ?hy5⟩) hS ?rest5
  case hy5 =>
    intro w hSw
    go_split_ands
    go_simp
    try (with_reducible rfl)
  (try simp only [Act.put, List.setIfInBounds_toArray, List.set_cons_zero, List.set_cons_succ])
  refine AnyT.take (i := 8) (v := .int .i64 fin) rfl (by kernel_rfl) (by kernel_rfl) (by kernel_rfl) (by kernel_rfl) (fun _ _ _ h => h) (Or.inl ⟨by rfl, ?hy8⟩) hS ?rest8
  case hy8 =>
    intro w hSw
    go_split_ands
    go_simp
    try (with_reducible rfl)
  (try simp only [Act.put, List.setIfInBounds_toArray, List.set_cons_zero, List.set_cons_succ])
  refine AnyT.take (i := 9) (v := .pointer (some ⟨g1, 5, none⟩)) rfl (by kernel_rfl) (by kernel_rfl) (by kernel_rfl) (by kernel_rfl) (fun _ _ _ h => h) (Or.inl ⟨by rfl, ?hy9⟩) hS ?rest9
  case hy9 =>
    intro w hSw
    go_split_ands
    go_simp
    try (with_reducible rfl)
  (try simp only [Act.put, List.setIfInBounds_toArray, List.set_cons_zero, List.set_cons_succ])
  refine AnyT.take (i := 10) (v := .int .i64 J.next) rfl (by kernel_rfl) (by kernel_rfl) (by kernel_rfl) (by kernel_rfl) (fun _ _ _ h => h) (Or.inl ⟨by rfl, ?hy10⟩) hS ?rest10
  case hy10 =>
    intro w hSw
    go_split_ands
    go_simp
    try (with_reducible rfl)
  (try simp only [Act.put, List.setIfInBounds_toArray, List.set_cons_zero, List.set_cons_succ])
  refine AnyT.take (i := 11) (v := .int .i64 (fin - J.next)) rfl (by kernel_rfl) (by kernel_rfl) (by kernel_rfl) (by kernel_rfl) (fun _ _ _ h => h) (Or.inl ⟨by rfl, ?hy11⟩) hS ?rest11
  case hy11 =>
    intro w hSw
    go_split_ands
    go_simp
    try (with_reducible rfl)
  (try simp only [Act.put, List.setIfInBounds_toArray, List.set_cons_zero, List.set_cons_succ])
  refine AnyT.one (i := 6) (by kernel_rfl) rfl (fun K hK => ?_)
  go_simp
  go_at_call 40
  refine (mod_true _).mono ?_
  rintro e2 w2 ⟨rfl, rfl⟩
  go_wp2
  refine hK.out _ _ (.inr hS) ?_
  clear hK K
  (try simp only [Act.put, List.setIfInBounds_toArray, List.set_cons_zero, List.set_cons_succ])
  refine AnyT.take (i := 7) (v := .int .i64 (Int.tmod J.next 4096)) rfl (by kernel_rfl) (by kernel_rfl) (by kernel_rfl) (by kernel_rfl) (fun _ _ _ h => h) (Or.inl ⟨by rfl, ?hy7⟩) hS ?rest7
  case hy7 =>
    intro w hSw
    go_split_ands
    go_simp
    try (with_reducible rfl)
  (try simp only [Act.put, List.setIfInBounds_toArray, List.set_cons_zero, List.set_cons_succ])
  refine AnyT.take (i := 12) (v := .agg #[.int .i64 1, .slice none 0 0, .int .i64 (Int.tmod J.next 4096), .int .i64 (fin - J.next)]) rfl (by kernel_rfl) (by kernel_rfl) (by kernel_rfl) (by kernel_rfl) (fun _ _ _ h => h) (Or.inl ⟨by rfl, ?hy12⟩) hS ?rest12
  case hy12 =>
    intro w hSw
    go_split_ands
    go_simp
    try (with_reducible rfl)
  (try simp only [Act.put, List.setIfInBounds_toArray, List.set_cons_zero, List.set_cons_succ])
  refine AnyT.one (i := 13) (by kernel_rfl) rfl (fun K hK => ?_)
  go_simp
  refine hK.out _ _ (.inr ?hs13) ?r13
  case hs13 =>
    have hbk := blk_keep HC.out (below_alloc (Below.refl _ W1.drew) (.cells #[.int .i64 1, .slice none 0 0, .int .i64 (Int.tmod J.next 4096), .int .i64 (fin - J.next)] 106))
    obtain ⟨c0, c1, c2, c3, c4, c5, c6, c7, c8⟩ := cells9 hbk
    exact ⟨c8, c5, c0⟩
  clear hK K
  (try simp only [Act.put, List.setIfInBounds_toArray, List.set_cons_zero, List.set_cons_succ])
  refine AnyT.one (i := 14) (by kernel_rfl) rfl (fun K hK => ?_)
  refine Kd.N_append_step k106 (w0 := W) (W := W1.drew) base ?aW (.tmp 6) (.tmp 18) 61 106 (.agg #[.int .i64 0, .slice none 0 0, .int .i64 0, .int .i64 0]) 48 ?aU Tryd.underlying61 info106 rfl (by decide) (by decide) (.slice At J.evs.length ct) (J.evs.map T106) (T106 ⟨1, [], Int.tmod J.next 4096, fin - J.next⟩) [.int .i64 1, .slice none 0 0, .int .i64 (Int.tmod J.next 4096), .int .i64 (fin - J.next)] (fun k => P k ∧ ¬ (k = g1 ∨ k = g2)) (fun _ => False) ?aV ?aX ?aP (fun _ h => h.elim) ?aF ?aO ?aB ?aS ?aL ?aN
  case aW => rfl
  case aU => rfl
  case aV => rfl
  case aX => rfl
  case aP => exact k106_mkF _ _ (T106 ⟨1, [], Int.tmod J.next 4096, fin - J.next⟩) (Nat.le_refl _) (Kd.F_nil _ _ _)
  case aF => exact fun k hk => HP1.out k (by have := HSZ.out; have h2 : W1.heap.size ≤ k := hk; omega)
  case aO => exact HD1.out.told
  case aB => exact HBB.out.mono hb
  case aS => exact Nat.le_trans hb HW2.out
  case aL => rw [List.length_map]; omega
  intro v1 w9 ho hb9 hg hat
  obtain ⟨A9, c9, rfl⟩ := Kd.N_slice ho
  have hlen9 : (J.evs.map T106 ++ [T106 ⟨1, [], Int.tmod J.next 4096, fin - J.next⟩]).length = J.evs.length + 1 := by simp
  rw [hlen9] at ho hat
  simp only [hlen9]
  have HO := Aside0.mk ho
  have HB9 := Aside0.mk hb9
  have HGR := Aside0.mk hg
  have HAT := Aside0.mk hat
  have HC9 := Aside0.mk (blk_grown HC.out hg (Kd.N_ne HD1.out.told HC.out (by decide)))
  have HC8 := Aside0.mk (blk_grown HC2.out hg (Kd.N_ne HD1.out.told HC2.out (by decide)))
  obtain ⟨z0, z1, z2, z3, z4, z5, z6, z7, z8⟩ := cells9 HC9.out
  obtain ⟨q0, q1, q2, q3, q4, q5, q6, q7, q8⟩ := cells9 HC8.out
  have fz9 : ∀ j, w9.frozen? ⟨g1, j, none⟩ = false := fun j => blk_frozen HC9.out j
  have fz8 : ∀ j, w9.frozen? ⟨g2, j, none⟩ = false := fun j => blk_frozen HC8.out j
  have hne : g1 ≠ g2 := (by have := HG.out; omega)
  clear ho hb9 hg hat
  have hS9 : (fun w' : World => w'.cell? ⟨g1, 8, none⟩ = some (.slice At J.evs.length ct) ∧ w'.cell? ⟨g1, 5, none⟩ = some (.int .i64 J.next) ∧ w'.cell? ⟨g1, 0, none⟩ = some (.bool true)) w9 := ⟨z8, z5, z0⟩
  refine hK.out _ _ (.inr hS9) ?_
  clear hK K
  (try simp only [Act.put, List.setIfInBounds_toArray, List.set_cons_zero, List.set_cons_succ])
  refine AnyT.take (i := 15) (v := .pointer (some ⟨g1, 8, none⟩)) rfl (by kernel_rfl) (by kernel_rfl) (by kernel_rfl) (by kernel_rfl) (fun _ _ _ h => h) (Or.inl ⟨by rfl, ?hy15⟩) hS9 ?rest15
  case hy15 =>
    intro w hSw
    go_split_ands
    go_simp
    try (with_reducible rfl)
  (try simp only [Act.put, List.setIfInBounds_toArray, List.set_cons_zero, List.set_cons_succ])
  refine AnyT.one (i := 16) (by kernel_rfl) rfl (fun K hK => ?_)
  go_simp
  refine hK.out _ _ (.inl rfl) ?_
  clear hK K hS hS9
  (try simp only [Act.put, List.setIfInBounds_toArray, List.set_cons_zero, List.set_cons_succ])
  refine AnyT.done (by kernel_rfl) ?_ _
  have HC10 := Aside0.mk (blk_set HC9.out 8 (.slice A9 (J.evs.length + 1) c9))
  have HC11 := Aside0.mk ((far_cell w9 g1 8 g2 (.slice A9 (J.evs.length + 1) c9) (fun e => hne e.symm)).trans HC8.out)
  obtain ⟨HT1, HT2, HT3⟩ := DV.tell (e := ⟨1, [], Int.tmod J.next 4096, fin - J.next⟩) HD1.out HO.out ⟨HGR.out.os, HGR.out.tape, HGR.out.output, HGR.out.size, HGR.out.block⟩ HAT.out
  have HT := Aside0.mk (And.intro HT1 (And.intro HT2 HT3))
  have hk10 : Kept w9 (w9.setCell ⟨g1, 8, none⟩ (.slice A9 (J.evs.length + 1) c9)) (fun k => k = g1 ∨ k = g2) := ⟨by simp [World.setCell], fun k _ hs => far_cell w9 g1 8 k _ (fun e => hs (.inl e))⟩
  have HK10 := Aside0.mk hk10
  have HB10 := Aside0.mk (HB9.out.setCell (p := ⟨g1, 8, none⟩) (by have := HG.out; show base ≤ g1; omega) (.slice A9 (J.evs.length + 1) c9))
  clear HT1 HT2 HT3 hk10 z0 z1 z2 z3 z4 z5 z6 z7 z8 q0 q1 q2 q3 q4 q5 q6 q7 q8 fz9 fz8
  generalize w9.setCell ⟨g1, 8, none⟩ (.slice A9 (J.evs.length + 1) c9) = W10 at HC10 HC11 HK10 HB10 ⊢
  simp only [List.setIfInBounds_toArray, List.set_cons_zero, List.set_cons_succ] at HC10
  obtain ⟨z0, z1, z2, z3, z4, z5, z6, z7, z8⟩ := cells9 HC10.out
  obtain ⟨q0, q1, q2, q3, q4, q5, q6, q7, q8⟩ := cells9 HC11.out
  have fz9 : ∀ j, W10.frozen? ⟨g1, j, none⟩ = false := fun j => blk_frozen HC10.out j
  have fz8 : ∀ j, W10.frozen? ⟨g2, j, none⟩ = false := fun j => blk_frozen HC11.out j
  clear hlen9
  go_wp2
  have hk5 : Kept W10 (((W10.setCell ⟨g1, 5, none⟩ (.int .i64 fin)).setCell ⟨g1, 6, none⟩ (.int .i64 2)).setCell ⟨g1, 7, none⟩ (.slice none 0 0)) (fun k => k = g1 ∨ k = g2) :=
    ⟨by simp [World.setCell], fun k _ hs => (far_cell _ g1 7 k _ (fun e => hs (.inl e))).trans ((far_cell _ g1 6 k _ (fun e => hs (.inl e))).trans (far_cell _ g1 5 k _ (fun e => hs (.inl e))))⟩
  have hg1b : base ≤ g1 := by have := HG.out; omega
  have hg2b : base ≤ g2 := by have := HG.out; omega
  have hb5 := (((Below.refl base W10).setCell (p := ⟨g1, 5, none⟩) hg1b (.int .i64 fin)).setCell (p := ⟨g1, 6, none⟩) hg1b (.int .i64 2)).setCell (p := ⟨g1, 7, none⟩) hg1b (.slice none 0 0)
  have hc5 : (((W10.setCell ⟨g1, 5, none⟩ (.int .i64 fin)).setCell ⟨g1, 6, none⟩ (.int .i64 2)).setCell ⟨g1, 7, none⟩ (.slice none 0 0)).heap[g2]? = some (.cells zcells 63 (0, 0)) :=
    ((far_cell _ g1 7 g2 _ (fun e => hne e.symm)).trans ((far_cell _ g1 6 g2 _ (fun e => hne e.symm)).trans (far_cell _ g1 5 g2 _ (fun e => hne e.symm)))).trans HC11.out
  obtain ⟨hX1, hX2, hX3⟩ := nine hc5 (.bool true) (.int .i64 J.room) (.int .i64 J.most) (.slice Al J.last.length cl) (.slice Aw ws.length cw) (.int .i64 fin) (.int .i64 2) (.slice none 0 0) (.slice A9 (J.evs.length + 1) c9)
  have hbX := hb5.trans (hX3 base hg2b)
  have hkX := hk5.then_ hX2 (fun k hk => .inl (.inr hk))
  obtain ⟨X, hX⟩ : ∃ X, ((((((((((((W10.setCell ⟨g1, 5, none⟩ (.int .i64 fin)).setCell ⟨g1, 6, none⟩ (.int .i64 2)).setCell ⟨g1, 7, none⟩ (.slice none 0 0)).setCell ⟨g2, 0, none⟩ (.bool true)).setCell ⟨g2, 1, none⟩ (.int .i64 J.room)).setCell ⟨g2, 2, none⟩ (.int .i64 J.most)).setCell ⟨g2, 3, none⟩ (.slice Al J.last.length cl)).setCell ⟨g2, 4, none⟩ (.slice Aw ws.length cw)).setCell ⟨g2, 5, none⟩ (.int .i64 fin)).setCell ⟨g2, 6, none⟩ (.int .i64 2)).setCell ⟨g2, 7, none⟩ (.slice none 0 0)).setCell ⟨g2, 8, none⟩ (.slice A9 (J.evs.length + 1) c9)) = X := ⟨_, rfl⟩
  rw [hX] at hX1 hbX hkX
  simp only [hX]
  clear hX hX2 hX3 hc5 hb5 hk5 z0 z1 z2 z3 z4 z5 z6 z7 z8 q0 q1 q2 q3 q4 q5 q6 q7 q8 fz9 fz8
  obtain ⟨x0, x1, x2, x3, x4, x5, x6, x7, x8⟩ := cells9 hX1
  have hlost : lostJ J fin = { tellJ J 1 J.next (fin - J.next) with next := fin, mode := 2, data := [] } := rfl
  have hDX := ((HT.out.1.kept HK10.out (fun k hk => hk.2)).kept hkX (fun k hk => hk.2)).mono (fun k hk => hk.1)
  have hKX : Kept W X (fun k => some k = (Value.slice At J.evs.length ct).ownBlock) := by
    refine ⟨Nat.le_trans HW2.out (Nat.le_trans HT.out.2.1.1 (Nat.le_trans HK10.out.1 hkX.1)), fun k hk hs => ?_⟩
    have hk1 : k < g1 := by have := HG.out; omega
    have hk2 : ¬ (k = g1 ∨ k = g2) := by have := HG.out; omega
    have hs1 : k < W1.heap.size := Nat.lt_of_lt_of_le hk HW2.out
    have hs9 : k < w9.heap.size := Nat.lt_of_lt_of_le hs1 HT.out.2.1.1
    rw [hkX.2 k (Nat.lt_of_lt_of_le hs9 HK10.out.1) hk2, HK10.out.2 k hs9 hk2, HT.out.2.1.2 k hs1 hs]
    exact HBL.out.block k hk
  refine bodyPost_ret (v := dagg (lostJ J fin) (.slice Al J.last.length cl) (.slice Aw ws.length cw) (.slice none 0 0) (.slice A9 (J.evs.length + 1) c9)) (by simp [results, Tryd.results45, go_sem, x0, x1, x2, x3, x4, x5, x6, x7, x8, lostJ, tellJ]) rfl ?_
  refine ⟨_, rfl, ⟨hDX.perm, hDX.nm, hDX.last, hDX.wait, Kd.V_nil _ _ _ _ _, ?_⟩, hKX, fun k hk hm => HT.out.2.2 k (Nat.lt_of_lt_of_le hk HW2.out) hm, ?_⟩
  · have hT := hDX.told
    simp only [lostJ, tellJ, HJ.out.nm]
    exact hT
  · exact (HB10.out).trans hbX
end Go.Proofs.YtgopklnfdlnojaaDoor.La
namespace Go.Proofs.YtgopklnfdlnojaaDoor.Lb
open Go.RowKit Go.Proofs.YtgopklnfdlnojaaDoor.Lz Go.Proofs.YtgopklnfdlnojaaDoor.La Go.Proofs.YtgopklnfdlnojaaDoor.Ga Go.Proofs.YtgopklnfdlnojaaDoor.My Go.Proofs.YtgopklnfdlnojaaDoor.Gb Go.Proofs.YtgopklnfdlnojaaDoor.Gp Go.Proofs.YtgopklnfdlnojaaDoor.Ja Go.Proofs.YtgopklnfdlnojaaDoor.Jb Go.Proofs.YtgopklnfdlnojaaDoor.Jc Go.Proofs.YtgopklnfdlnojaaDoor.Je Go.Proofs.YtgopklnfdlnojaaDoor.Ka Go.Proofs.YtgopklnfdlnojaaDoorW.PrintWords Go.Proofs.YtgopklnfdlnojaaDoorW.PrintLast Go.Proofs.YtgopklnfdlnojaaDoorW.PrintMore
set_option linter.unusedVariables false
set_option linter.unusedSimpArgs false

abbrev Not2 (P : Nat → Prop) (g1 g2 k : Nat) : Prop := P k ∧ ¬ (k = g1 ∨ k = g2)
abbrev dcs (J : Jn) (vl vw vd vt : Value) : Array Value := #[.bool true, .int .i64 J.room, .int .i64 J.most, vl, vw, .int .i64 J.next, .int .i64 J.mode, vd, vt]

structure DJ (W0 W : World) (base : Nat) (P : Nat → Prop) (g1 g2 : Nat) (u : Option Nat) (vl vw vd vt : Value) (ws : List (Int × S29)) (J : Jn) : Prop where
  b1 : W.heap[g1]? = some (.cells (dcs J vl vw vd vt) 63 (0, 0))
  b2 : W.heap[g2]? = some (.cells zcells 63 (0, 0))
  new1 : W0.heap.size ≤ g1
  new2 : W0.heap.size ≤ g2
  ne : g1 ≠ g2
  dv : DV W base (Not2 P g1 g2) vl vw vd vt ws J
  kept : Kept W0 W (fun k => some k = u)
  own : ∀ k, k < W0.heap.size → some k = vt.ownBlock → some k = u
  bel : Below base W0 W
  hb : base ≤ W0.heap.size
  hP : ∀ k, W0.heap.size ≤ k → P k

section
variable {W0 W W' : World} {base g1 g2 : Nat} {P : Nat → Prop} {u : Option Nat} {vl vw vd vt : Value} {ws : List (Int × S29)} {J : Jn}
theorem DJ.start (h : DV W0 base P vl vw vd vt ws J) (hP : ∀ k, W0.heap.size ≤ k → P k) (hb : base ≤ W0.heap.size) (hbl : Below W0.heap.size W0 W) (b1 : W.heap[g1]? = some (.cells (dcs J vl vw vd vt) 63 (0, 0))) (b2 : W.heap[g2]? = some (.cells zcells 63 (0, 0))) (n1 : W0.heap.size ≤ g1) (n2 : W0.heap.size ≤ g2) (ne : g1 ≠ g2) :
    DJ W0 W base P g1 g2 vt.ownBlock vl vw vd vt ws J :=
  ⟨b1, b2, n1, n2, ne, (h.avoid (X := fun k => k = g1 ∨ k = g2) (fun k hk => by rcases hk with e | e <;> omega)).below hbl, Kept.of_below hbl _, fun _ _ h => h, hbl.mono hb, hb, hP⟩
theorem DJ.size (h : DJ W0 W base P g1 g2 u vl vw vd vt ws J) : W0.heap.size ≤ W.heap.size := h.kept.1
theorem DJ.cells (h : DJ W0 W base P g1 g2 u vl vw vd vt ws J) :
    W.cell? ⟨g1, 0, none⟩ = some (.bool true) ∧ W.cell? ⟨g1, 1, none⟩ = some (.int .i64 J.room) ∧ W.cell? ⟨g1, 2, none⟩ = some (.int .i64 J.most) ∧ W.cell? ⟨g1, 3, none⟩ = some vl ∧ W.cell? ⟨g1, 4, none⟩ = some vw ∧ W.cell? ⟨g1, 5, none⟩ = some (.int .i64 J.next) ∧ W.cell? ⟨g1, 6, none⟩ = some (.int .i64 J.mode) ∧ W.cell? ⟨g1, 7, none⟩ = some vd ∧ W.cell? ⟨g1, 8, none⟩ = some vt := cells9 h.b1
theorem DJ.fz (h : DJ W0 W base P g1 g2 u vl vw vd vt ws J) (j : Nat) : W.frozen? ⟨g1, j, none⟩ = false := blk_frozen h.b1 j
theorem DJ.below (h : DJ W0 W base P g1 g2 u vl vw vd vt ws J) (hb : Below W.heap.size W W') : DJ W0 W' base P g1 g2 u vl vw vd vt ws J :=
  ⟨blk_keep h.b1 hb, blk_keep h.b2 hb, h.new1, h.new2, h.ne, h.dv.below hb, h.kept.below hb, h.own, h.bel.trans (hb.mono (Nat.le_trans h.hb h.size)), h.hb, h.hP⟩
theorem DJ.drewN (h : DJ W0 W base P g1 g2 u vl vw vd vt ws J) (n : Nat) : DJ W0 (W.drewN n) base P g1 g2 u vl vw vd vt ws J := h.below (pw_below_drewN (Below.refl _ _) n)
/-- What is read, and new blocks are of P. -/
theorem DJ.hP2 (h : DJ W0 W base P g1 g2 u vl vw vd vt ws J) : ∀ k, W.heap.size ≤ k → Not2 P g1 g2 k := fun k hk =>
  ⟨h.hP k (Nat.le_trans h.size hk), by have := blk_lt h.b1; have := blk_lt h.b2; omega⟩
theorem DJ.hbW (h : DJ W0 W base P g1 g2 u vl vw vd vt ws J) : base ≤ W.heap.size := Nat.le_trans h.hb h.size
theorem DJ.told_ne (h : DJ W0 W base P g1 g2 u vl vw vd vt ws J) : some g1 ≠ vt.ownBlock ∧ some g2 ≠ vt.ownBlock :=
  ⟨Kd.N_away h.dv.told (fun k hk e => hk.2 (.inl e)), Kd.N_away h.dv.told (fun k hk e => hk.2 (.inr e))⟩
/-- A cell of the joiner is written. -/
theorem DJ.put {vw' vd' : Value} {ws' : List (Int × S29)} {J' : Jn} (h : DJ W0 W base P g1 g2 u vl vw vd vt ws J) (i : Nat) (x : Value) (hdv : DV W base (Not2 P g1 g2) vl vw' vd' vt ws' J') (hc : (dcs J vl vw vd vt).setIfInBounds i x = dcs J' vl vw' vd' vt) :
    DJ W0 (W.setCell ⟨g1, i, none⟩ x) base P g1 g2 u vl vw' vd' vt ws' J' := by
  have hk : Kept W (W.setCell ⟨g1, i, none⟩ x) (fun k => k = g1 ∨ k = g2) := ⟨by simp [World.setCell], fun k _ hs => far_cell W g1 i k _ (fun e => hs (.inl e))⟩
  refine ⟨by have := blk_set h.b1 i x; rw [hc] at this; exact this, (far_cell W g1 i g2 x (fun e => h.ne e.symm)).trans h.b2, h.new1, h.new2, h.ne, hdv.kept hk (fun k hk => hk.2), ?_, h.own, h.bel.setCell (p := ⟨g1, i, none⟩) (Nat.le_trans h.hb h.new1) x, h.hb, h.hP⟩
  exact h.kept.setCell (p := ⟨g1, i, none⟩) (.inr h.new1) x
theorem DV.fields {J' : Jn} (h : DV W base P vl vw vd vt ws J) (h1 : J'.wait = J.wait) (h2 : J'.nm = J.nm) (h3 : J'.last = J.last) (h4 : J'.data = J.data) (h5 : J'.evs = J.evs) : DV W base P vl vw vd vt ws J' :=
  ⟨h1 ▸ h.perm, h2 ▸ h.nm, h3 ▸ h.last, h.wait, h4 ▸ h.data, h5 ▸ h.told⟩
theorem DJ.setNext (h : DJ W0 W base P g1 g2 u vl vw vd vt ws J) (n : Int) : DJ W0 (W.setCell ⟨g1, 5, none⟩ (.int .i64 n)) base P g1 g2 u vl vw vd vt ws { J with next := n } :=
  h.put 5 _ (DV.fields h.dv rfl rfl rfl rfl rfl) rfl
theorem DJ.setMode (h : DJ W0 W base P g1 g2 u vl vw vd vt ws J) (n : Int) : DJ W0 (W.setCell ⟨g1, 6, none⟩ (.int .i64 n)) base P g1 g2 u vl vw vd vt ws { J with mode := n } :=
  h.put 6 _ (DV.fields h.dv rfl rfl rfl rfl rfl) rfl
theorem DJ.setData (h : DJ W0 W base P g1 g2 u vl vw vd vt ws J) (vd' : Value) (xs : List Int) (hd : Kd.V (Kd.int .u8) 5 W base (fun k => Not2 P g1 g2 k ∧ some k ≠ vt.ownBlock) vd' xs) : DJ W0 (W.setCell ⟨g1, 7, none⟩ vd') base P g1 g2 u vl vw vd' vt ws { J with data := xs } :=
  h.put 7 _ ⟨h.dv.perm, h.dv.nm, h.dv.last, h.dv.wait, hd, h.dv.told⟩ rfl
theorem DJ.setWait (h : DJ W0 W base P g1 g2 u vl vw vd vt ws J) (vw' : Value) (ws' : List (Int × S29)) (q : List (Int × S29)) (hq : ws'.Perm q) (hd : Kd.V k110 110 W base (fun k => Not2 P g1 g2 k ∧ some k ≠ vt.ownBlock) vw' (ws'.map T110)) : DJ W0 (W.setCell ⟨g1, 4, none⟩ vw') base P g1 g2 u vl vw' vd vt ws' { J with wait := q } :=
  h.put 4 _ ⟨hq, h.dv.nm, h.dv.last, hd, h.dv.data, h.dv.told⟩ rfl
/-- Something is told. -/
theorem DJ.tell {w9 : World} {vt1 : Value} {e : Ev} (h : DJ W0 W base P g1 g2 u vl vw vd vt ws J) (ho : Kd.N k106 106 w9 base (Not2 P g1 g2) vt1 (J.evs.map T106 ++ [T106 e])) (hb9 : Below base W w9) (hg : W.grownBy w9 vt.ownBlock) (hat : vt1.ownBlock = vt.ownBlock ∨ ∃ b, vt1.ownBlock = some b ∧ W.heap.size ≤ b) :
    DJ W0 (w9.setCell ⟨g1, 8, none⟩ vt1) base P g1 g2 u vl vw vd vt1 ws { J with evs := J.evs ++ [e] } := by
  obtain ⟨hn1, hn2⟩ := h.told_ne
  obtain ⟨h1, h2, h3⟩ := h.dv.tell (e := e) ho hg hat
  have hg1 := blk_grown h.b1 hg hn1
  have hg2 := blk_grown h.b2 hg hn2
  have hk : Kept w9 (w9.setCell ⟨g1, 8, none⟩ vt1) (fun k => k = g1 ∨ k = g2) := ⟨by simp [World.setCell], fun k _ hs => far_cell w9 g1 8 k _ (fun e => hs (.inl e))⟩
  refine ⟨by have := blk_set hg1 8 vt1; simpa using this, (far_cell w9 g1 8 g2 vt1 (fun e => h.ne e.symm)).trans hg2, h.new1, h.new2, h.ne, h1.kept hk (fun k hk => hk.2), ?_, fun k hk hm => h.own k hk (h3 k (Nat.lt_of_lt_of_le hk h.size) hm), (h.bel.trans hb9).setCell (p := ⟨g1, 8, none⟩) (Nat.le_trans h.hb h.new1) _, h.hb, h.hP⟩
  have hk0 : Kept W0 w9 (fun k => some k = u) := h.kept.then_ h2 (fun k hk => by
    by_cases hlt : k < W0.heap.size
    · exact .inl (h.own k hlt hk)
    · exact .inr (Nat.le_of_not_lt hlt))
  exact hk0.setCell (p := ⟨g1, 8, none⟩) (.inr h.new1) _
/-- A function of the document has run on the joiner's value, and its answer is laid in its place. -/
theorem DJ.store {vw' vd' vt' : Value} {ws' : List (Int × S29)} {J' : Jn} (h : DJ W0 W base P g1 g2 u vl vw vd vt ws J) (hdv : DV W' base (Not2 P g1 g2) vl vw' vd' vt' ws' J') (hk : Kept W W' (fun k => some k = vt.ownBlock)) (ho : ∀ k, k < W.heap.size → some k = vt'.ownBlock → some k = vt.ownBlock) (hb : Below base W W') :
    DJ W0 (((((((((W'.setCell ⟨g1, 0, none⟩ (.bool true)).setCell ⟨g1, 1, none⟩ (.int .i64 J'.room)).setCell ⟨g1, 2, none⟩ (.int .i64 J'.most)).setCell ⟨g1, 3, none⟩ vl).setCell ⟨g1, 4, none⟩ vw').setCell ⟨g1, 5, none⟩ (.int .i64 J'.next)).setCell ⟨g1, 6, none⟩ (.int .i64 J'.mode)).setCell ⟨g1, 7, none⟩ vd').setCell ⟨g1, 8, none⟩ vt') base P g1 g2 u vl vw' vd' vt' ws' J' := by
  obtain ⟨hn1, hn2⟩ := h.told_ne
  have hg1 := (hk.2 g1 (blk_lt h.b1) hn1).trans h.b1
  have hg2 := (hk.2 g2 (blk_lt h.b2) hn2).trans h.b2
  obtain ⟨hX1, hX2, hX3⟩ := nine hg1 (.bool true) (.int .i64 J'.room) (.int .i64 J'.most) vl vw' (.int .i64 J'.next) (.int .i64 J'.mode) vd' vt'
  have hk0 : Kept W0 W' (fun k => some k = u) := h.kept.then_ hk (fun k hk => by
    by_cases hlt : k < W0.heap.size
    · exact .inl (h.own k hlt hk)
    · exact .inr (Nat.le_of_not_lt hlt))
  refine ⟨hX1, (hX2.2 g2 (blk_lt hg2) (fun e => h.ne e.symm)).trans hg2, h.new1, h.new2, h.ne, hdv.kept (hX2.mono (S' := fun k => k = g1 ∨ k = g2) (fun k hk => .inl hk)) (fun k hk => hk.2), hk0.then_ hX2 (fun k hk => .inr (by have := h.new1; omega)), fun k hk0 hm => h.own k hk0 (ho k (Nat.lt_of_lt_of_le hk0 h.size) hm), (h.bel.trans hb).trans (hX3 base (Nat.le_trans h.hb h.new1)), h.hb, h.hP⟩
/-- The answer is laid in its block. -/
theorem DJ.answer (h : DJ W0 W base P g1 g2 u vl vw vd vt ws J) {X : World}
    (hX : X = (((((((((W.setCell ⟨g2, 0, none⟩ (.bool true)).setCell ⟨g2, 1, none⟩ (.int .i64 J.room)).setCell ⟨g2, 2, none⟩ (.int .i64 J.most)).setCell ⟨g2, 3, none⟩ vl).setCell ⟨g2, 4, none⟩ vw).setCell ⟨g2, 5, none⟩ (.int .i64 J.next)).setCell ⟨g2, 6, none⟩ (.int .i64 J.mode)).setCell ⟨g2, 7, none⟩ vd).setCell ⟨g2, 8, none⟩ vt)) :
    X.heap[g2]? = some (.cells (dcs J vl vw vd vt) 63 (0, 0)) ∧ DV X base P vl vw vd vt ws J ∧ Kept W0 X (fun k => some k = u) ∧ (∀ k, k < W0.heap.size → some k = vt.ownBlock → some k = u) ∧ Below base W0 X := by
  obtain ⟨hX1, hX2, hX3⟩ := nine h.b2 (.bool true) (.int .i64 J.room) (.int .i64 J.most) vl vw (.int .i64 J.next) (.int .i64 J.mode) vd vt
  rw [← hX] at hX1 hX2 hX3
  refine ⟨hX1, (h.dv.kept (hX2.mono (S' := fun k => k = g1 ∨ k = g2) (fun k hk => .inr hk)) (fun k hk => hk.2)).mono (fun k hk => hk.1), h.kept.then_ hX2 (fun k hk => .inr (by have := h.new2; omega)), h.own, h.bel.trans (hX3 base (Nat.le_trans h.hb h.new2))⟩
end
end Go.Proofs.YtgopklnfdlnojaaDoor.Lb
namespace Go.Proofs.YtgopklnfdlnojaaDoor.Lc
open Go.RowKit Go.Proofs.YtgopklnfdlnojaaDoor.Lz Go.Proofs.YtgopklnfdlnojaaDoor.La Go.Proofs.YtgopklnfdlnojaaDoor.Lb Go.Proofs.YtgopklnfdlnojaaDoor.Ga Go.Proofs.YtgopklnfdlnojaaDoor.My Go.Proofs.YtgopklnfdlnojaaDoor.Gb Go.Proofs.YtgopklnfdlnojaaDoor.Gp Go.Proofs.YtgopklnfdlnojaaDoor.Ja Go.Proofs.YtgopklnfdlnojaaDoor.Jb Go.Proofs.YtgopklnfdlnojaaDoor.Jc Go.Proofs.YtgopklnfdlnojaaDoor.Je Go.Proofs.YtgopklnfdlnojaaDoor.Ka Go.Proofs.YtgopklnfdlnojaaDoorW.PrintWords Go.Proofs.YtgopklnfdlnojaaDoorW.PrintLast Go.Proofs.YtgopklnfdlnojaaDoorW.PrintMore
set_option linter.unusedVariables false
set_option linter.unusedSimpArgs false

theorem V_sl {α : Type} {d : Kd α} {e base : Nat} {W : World} {ok : Nat → Prop} {v : Value} {xs : List α} (h : Kd.V d e W base ok v xs) : ∃ A n c, v = .slice A n c := by
  obtain ⟨A, c, e⟩ := Kd.V_slice h
  exact ⟨A, _, c, e⟩
theorem N_sl {α : Type} {d : Kd α} {e base : Nat} {W : World} {ok : Nat → Prop} {v : Value} {xs : List α} (h : Kd.N d e W base ok v xs) : ∃ A n c, v = .slice A n c := by
  obtain ⟨A, c, e⟩ := Kd.N_slice h
  exact ⟨A, _, c, e⟩
theorem R_sl {α : Type} {d : Kd α} {e base : Nat} {W : World} {ok : Nat → Prop} {v : Value} {xs : List α} (h : d.R e W base ok v xs) : ∃ A n c, v = .slice A n c := by
  obtain ⟨A, c, e⟩ := Kd.R_slice h
  exact ⟨A, _, c, e⟩
/-- An own row, as what is read. -/
theorem R_V {α : Type} {d : Kd α} {e e' base base' : Nat} {W : World} {ok ok' : Nat → Prop} {v : Value} {xs : List α} (h : d.R e W base ok v xs) (hok : ∀ k, ok k → base ≤ k → k < W.heap.size → ok' k) : Kd.V d e' W base' ok' v xs := by
  obtain ⟨A, c, rfl⟩ := Kd.R_slice h
  obtain ⟨h1, h2, h3⟩ := Kd.R_reads' h
  exact Kd.V_mk h2 (Kd.F_mono (Kd.R_F (Kd.R_bound h)) (fun k hk => hok k hk.1 hk.2.1 hk.2.2.1))
theorem three_new (W : World) (o1 o2 o3 : Obj) : (((W.alloc o1).alloc o2).alloc o3).heap[W.heap.size]? = some o1 ∧ (((W.alloc o1).alloc o2).alloc o3).heap[W.heap.size + 1]? = some o2 ∧ (((W.alloc o1).alloc o2).alloc o3).heap[W.heap.size + 2]? = some o3 ∧ Below W.heap.size W (((W.alloc o1).alloc o2).alloc o3) ∧ (((W.alloc o1).alloc o2).alloc o3).heap.size = W.heap.size + 3 := by
  obtain ⟨h1, h2, h3, h4⟩ := two_new W o1 o2
  have hb := below_alloc (Below.refl ((W.alloc o1).alloc o2).heap.size ((W.alloc o1).alloc o2)) o3
  refine ⟨blk_keep h1 hb, blk_keep h2 hb, ?_, below_alloc h3 o3, by rw [World.size_alloc, h4]⟩
  rw [← h4]
  exact new1 _ o3

/-- A piece lies in a block of its own, beside the joiner. -/
structure DP (W0 W : World) (base : Nat) (P : Nat → Prop) (g1 g2 g3 : Nat) (u : Option Nat) (vl vw vd vt : Value) (ws : List (Int × S29)) (J : Jn) (p : S29) (A : Option Addr) (c : Nat) : Prop where
  dj : DJ W0 W base P g1 g2 u vl vw vd vt ws J
  b3 : W.heap[g3]? = some (.cells #[.bool p.f0, .bool p.f1, .int .i64 p.f2, .slice A p.f3.length c] 24 (0, 0))
  pv : Kd.V (Kd.int .u8) 5 W base (fun k => Not2 P g1 g2 k ∧ some k ≠ vt.ownBlock) (.slice A p.f3.length c) p.f3
  n31 : g3 ≠ g1
  n32 : g3 ≠ g2

section
variable {W0 W W' : World} {base g1 g2 g3 : Nat} {P : Nat → Prop} {u : Option Nat} {vl vw vd vt : Value} {ws : List (Int × S29)} {J : Jn} {p : S29} {A : Option Addr} {c : Nat}
theorem DP.below (h : DP W0 W base P g1 g2 g3 u vl vw vd vt ws J p A c) (hb : Below W.heap.size W W') : DP W0 W' base P g1 g2 g3 u vl vw vd vt ws J p A c :=
  ⟨h.dj.below hb, blk_keep h.b3 hb, Kd.V_below h.pv hb, h.n31, h.n32⟩
theorem DP.cells (h : DP W0 W base P g1 g2 g3 u vl vw vd vt ws J p A c) : W.cell? ⟨g3, 0, none⟩ = some (.bool p.f0) ∧ W.cell? ⟨g3, 1, none⟩ = some (.bool p.f1) ∧ W.cell? ⟨g3, 2, none⟩ = some (.int .i64 p.f2) ∧ W.cell? ⟨g3, 3, none⟩ = some (.slice A p.f3.length c) := cells4 h.b3
theorem DP.put {vw' vd' : Value} {ws' : List (Int × S29)} {J' : Jn} {i : Nat} {x : Value} (h : DP W0 W base P g1 g2 g3 u vl vw vd vt ws J p A c) (hj : DJ W0 (W.setCell ⟨g1, i, none⟩ x) base P g1 g2 u vl vw' vd' vt ws' J') :
    DP W0 (W.setCell ⟨g1, i, none⟩ x) base P g1 g2 g3 u vl vw' vd' vt ws' J' p A c := by
  have hk : Kept W (W.setCell ⟨g1, i, none⟩ x) (fun k => k = g1 ∨ k = g2) := ⟨by simp [World.setCell], fun k _ hs => far_cell W g1 i k _ (fun e => hs (.inl e))⟩
  exact ⟨hj, (far_cell W g1 i g3 x h.n31).trans h.b3, Kd.V_kept h.pv hk (fun k hk => hk.1.2), h.n31, h.n32⟩
theorem DP.tell {w9 : World} {vt1 : Value} {e : Ev} (h : DP W0 W base P g1 g2 g3 u vl vw vd vt ws J p A c) (ho : Kd.N k106 106 w9 base (Not2 P g1 g2) vt1 (J.evs.map T106 ++ [T106 e])) (hb9 : Below base W w9) (hg : W.grownBy w9 vt.ownBlock) (hat : vt1.ownBlock = vt.ownBlock ∨ ∃ b, vt1.ownBlock = some b ∧ W.heap.size ≤ b) :
    DP W0 (w9.setCell ⟨g1, 8, none⟩ vt1) base P g1 g2 g3 u vl vw vd vt1 ws { J with evs := J.evs ++ [e] } p A c := by
  have hk : Kept w9 (w9.setCell ⟨g1, 8, none⟩ vt1) (fun k => k = g1 ∨ k = g2) := ⟨by simp [World.setCell], fun k _ hs => far_cell w9 g1 8 k _ (fun e => hs (.inl e))⟩
  have hg3 := blk_grown h.b3 hg (Kd.N_ne h.dj.dv.told h.b3 (by decide))
  exact ⟨h.dj.tell ho hb9 hg hat, (far_cell w9 g1 8 g3 vt1 h.n31).trans hg3, Kd.V_kept (Kd.V_after h.pv hg hat) hk (fun k hk => hk.1.2), h.n31, h.n32⟩
end

set_option maxHeartbeats 1000000 in
set_option maxRecDepth 100000 in
theorem through_any (W : World) (base : Nat) (P : Nat → Prop) (vl vw vd vt : Value) (ws : List (Int × S29)) (J : Jn) (p : S29) (A : Option Addr) (c : Nat) (h : DV W base P vl vw vd vt ws J)
    (hp : Kd.V (Kd.int .u8) 5 W base (fun k => P k ∧ some k ≠ vt.ownBlock) (.slice A p.f3.length c) p.f3) (hP : ∀ k, W.heap.size ≤ k → P k) (hb : base ≤ W.heap.size) (hlen : J.evs.length ≤ 100000) (hdl : J.data.length + p.f3.length ≤ 10000000) :
    Calls Tryd.prog 54 #[dagg J vl vw vd vt, pc p.f0 p.f1 p.f2 A p.f3.length c] W fun e W' => ∃ vd' vt', e = .returned (dagg (pieceJ J J.next p) vl vw vd' vt') ∧
      DV W' base P vl vw vd' vt' ws (pieceJ J J.next p) ∧ Kept W W' (fun k => some k = vt.ownBlock) ∧ (∀ k, k < W.heap.size → some k = vt'.ownBlock → some k = vt.ownBlock) ∧ Below base W W' := by
  obtain ⟨Al, nl, cl, rfl⟩ := V_sl h.last
  obtain ⟨Aw, nw, cw, rfl⟩ := V_sl h.wait
  obtain ⟨Ad, nd, cd, rfl⟩ := V_sl h.data
  obtain ⟨At, nt, ct, rfl⟩ := N_sl h.told
  have hu63 := Tryd.underlying63
  have HJ := Aside0.mk h
  have HPV := Aside0.mk hp
  have HDL := Aside0.mk hdl
  have HPP := Aside0.mk hP
  clear h hp hdl hP
  go_enter Tryd.func54, Tryd.ntmps54
  go_upto_region 1 with (fail)
  obtain ⟨hB1, hB3, hB2, hBl, hsz⟩ := three_new W (.cells (dcells J (.slice Al nl cl) (.slice Aw nw cw) (.slice Ad nd cd) (.slice At nt ct)).toArray 63) (.cells #[.bool p.f0, .bool p.f1, .int .i64 p.f2, .slice A p.f3.length c] 24) (.cells zcells 63)
  obtain ⟨g1, hg1⟩ : ∃ g, W.heap.size = g := ⟨_, rfl⟩
  have hs0 : W.heap.size ≤ g1 := by omega
  rw [hg1] at hB1 hB3 hB2
  simp only [hg1]
  obtain ⟨g3, hg3⟩ : ∃ g, g1 + 1 = g := ⟨_, rfl⟩
  have hB2' : (((W.alloc (.cells (dcells J (.slice Al nl cl) (.slice Aw nw cw) (.slice Ad nd cd) (.slice At nt ct)).toArray 63)).alloc (.cells #[.bool p.f0, .bool p.f1, .int .i64 p.f2, .slice A p.f3.length c] 24)).alloc (.cells zcells 63)).heap[g1 + 1 + 1]? = some (.cells zcells 63) := hB2
  clear hB2
  rw [hg3] at hB3 hB2'
  simp only [hg3]
  obtain ⟨g2, hg2⟩ : ∃ g, g3 + 1 = g := ⟨_, rfl⟩
  rw [hg2] at hB2'
  simp only [hg2]
  have hdp : DP W (((W.alloc (.cells (dcells J (.slice Al nl cl) (.slice Aw nw cw) (.slice Ad nd cd) (.slice At nt ct)).toArray 63)).alloc (.cells #[.bool p.f0, .bool p.f1, .int .i64 p.f2, .slice A p.f3.length c] 24)).alloc (.cells zcells 63)) base P g1 g2 g3 (Value.slice At nt ct).ownBlock (.slice Al nl cl) (.slice Aw nw cw) (.slice Ad nd cd) (.slice At nt ct) ws J p A c := by
    refine ⟨DJ.start HJ.out HPP.out hb hBl hB1 hB2' hs0 (by omega) (by omega), hB3, ?_, by omega, by omega⟩
    refine Kd.V_mono (Kd.V_below (Kd.V_bound HPV.out) hBl) (fun k hk => ⟨⟨hk.1.1, by omega⟩, hk.1.2⟩)
  clear hB1 hB3 hB2' hBl hsz hs0 hg1 hg2 hg3
  generalize (((W.alloc (.cells (dcells J (.slice Al nl cl) (.slice Aw nw cw) (.slice Ad nd cd) (.slice At nt ct)).toArray 63)).alloc (.cells #[.bool p.f0, .bool p.f1, .int .i64 p.f2, .slice A p.f3.length c] 24)).alloc (.cells zcells 63)) = W1 at hdp ⊢
  have HD := Aside0.mk hdp
  clear hdp
  generalize pc p.f0 p.f1 p.f2 A p.f3.length c = v2
  obtain ⟨c0, -, -, -, -, c5, c6, -, c8⟩ := HD.out.dj.cells
  obtain ⟨p0, p1, p2, p3⟩ := HD.out.cells
  go_cut [5] (fun v5 wc => v5 = .int .i64 (Int.tmod J.next 4096) ∧ wc = W1.drew)
  case first =>
    go_region_held3 (fun w' => w'.cell? ⟨g1, 5, none⟩ = some (.int .i64 J.next) ∧ w'.cell? ⟨g1, 0, none⟩ = some (.bool true)) (first | go_keep) (first | (go_at_call 40; refine (mod_true _).mono ?_; rintro e2 w2 ⟨rfl, rfl⟩))
    go_wp2
    go_meet
    exact ⟨rfl, rfl⟩
  case rest =>
    obtain ⟨rfl, rfl⟩ := hcut
    have HD1 := Aside0.mk (HD.out.below (pw_below_drewN (Below.refl _ _) 1))
    clear c0 c5 c6 c8 p0 p1 p2 p3
    obtain ⟨W2, hW2⟩ : ∃ V, V = W1.drew := ⟨_, rfl⟩
    have HD2 : Aside0 (DP W W2 base P g1 g2 g3 (Value.slice At nt ct).ownBlock (.slice Al nl cl) (.slice Aw nw cw) (.slice Ad nd cd) (.slice At nt ct) ws J p A c) := ⟨by rw [hW2]; exact HD1.out⟩
    rw [← hW2]
    clear hW2 HD1 HD
    obtain ⟨c0, -, -, -, -, c5, c6, -, c8⟩ := HD2.out.dj.cells
    obtain ⟨p0, p1, p2, p3⟩ := HD2.out.cells
    go_upto_region 2 with (fail)
    obtain ⟨bd, hbd⟩ : ∃ bd, ((p.f0 && J.mode == 1) || (!p.f0 && J.mode == 0)) = bd := ⟨_, rfl⟩
    have HBD := Aside0.mk hbd
    clear hbd
    go_cut [28] (fun v28 wc => v28 = .bool bd ∧ wc = W2)
    case first =>
      have hbd := HBD.out
      cases hb0 : p.f0 with
      | true =>
        rw [hb0] at p0 hbd
        obtain ⟨m1, hm1⟩ : ∃ m, (J.mode == 1) = m := ⟨_, rfl⟩
        rw [hm1] at hbd
        have e : m1 = bd := by simpa using hbd
        subst e
        clear hbd hb0
        cases m1 with
        | true =>
          go_wp2
          go_meet
          exact ⟨rfl, rfl⟩
        | false =>
          go_wp2
          go_meet
          exact ⟨rfl, rfl⟩
      | false =>
        rw [hb0] at p0 hbd
        obtain ⟨m1, hm1⟩ : ∃ m, (J.mode == 0) = m := ⟨_, rfl⟩
        rw [hm1] at hbd
        have e : m1 = bd := by simpa using hbd
        subst e
        clear hbd hb0
        cases m1 with
        | true =>
          go_wp2
          go_meet
          exact ⟨rfl, rfl⟩
        | false =>
          go_wp2
          go_meet
          exact ⟨rfl, rfl⟩
    case rest =>
      obtain ⟨rfl, rfl⟩ := hcut
      obtain ⟨W2, hW2⟩ : ∃ V, V = wc := ⟨_, rfl⟩
      subst hW2
      go_upto_if 28 with (fail)
      go_cut [] (fun wc => ∃ vt1, DP W wc base P g1 g2 g3 (Value.slice At nt ct).ownBlock (.slice Al nl cl) (.slice Aw nw cw) (.slice Ad nd cd) vt1 ws (badJ J J.next p.f0) p A c)
      case first =>
        cases bd with
        | false =>
          go_wp2
          go_meet
          refine ⟨.slice At nt ct, ?_⟩
          have e : badJ J J.next p.f0 = J := by rw [badJ, HBD.out]; simp
          rw [e]
          exact HD2.out
        | true =>
          have hlen6 : (J.evs.map T106).length ≤ 100000 := by simpa using hlen
          go_wp2_with (first
            | (at_builtin; refine Kd.N_append k106 (w0 := W2) (W := W2) base ?aG (.tmp 30) (.tmp 33) 61 106 (.agg #[.int .i64 0, .slice none 0 0, .int .i64 0, .int .i64 0]) 48 ?aU Tryd.underlying61 info106 rfl (by decide) (by decide) (.slice At nt ct) (J.evs.map T106) (T106 ⟨2, [], Int.tmod J.next 4096, 0⟩) [.int .i64 2, .slice none 0 0, .int .i64 (Int.tmod J.next 4096), .int .i64 0] (Not2 P g1 g2) (fun _ => False) ?aV ?aX ?aP (fun _ h => h.elim) ?aF ?aO ?aB ?aS ?aL ?aN; (case aG => rfl); (case aU => rfl); (case aV => rfl); (case aX => rfl); (case aP => exact k106_mkF _ _ _ (Nat.le_refl _) (Kd.F_nil _ _ _)); (case aF => exact HD2.out.dj.hP2); (case aO => exact HD2.out.dj.dv.told); (case aB => exact Below.refl _ _); (case aS => exact HD2.out.dj.hbW); (case aL => omega); intro v1 w9 ho hb9 hg hat; obtain ⟨A9, n9, c9, rfl⟩ := N_sl ho; have HO := Aside0.mk ho; have HBB := Aside0.mk hb9; have HG := Aside0.mk hg; have HAT := Aside0.mk hat; have hg9 := blk_grown HD2.out.dj.b1 hg HD2.out.dj.told_ne.1; obtain ⟨-, -, -, -, -, -, -, -, z8⟩ := cells9 hg9; have fz9 : ∀ j, w9.frozen? ⟨g1, j, none⟩ = false := fun j => blk_frozen hg9 j; clear ho hb9 hg hat hg9))
          go_meet
          have hd3 := HD2.out.tell HO.out HBB.out ⟨HG.out.os, HG.out.tape, HG.out.output, HG.out.size, HG.out.block⟩ HAT.out
          have e : badJ J J.next p.f0 = { J with evs := J.evs ++ [⟨2, [], Int.tmod J.next 4096, 0⟩] } := by rw [badJ, HBD.out, ← HJ.out.nm]; rfl
          rw [e]
          exact ⟨_, hd3⟩
      case rest =>
        obtain ⟨vt1, hd3⟩ := hcut
        obtain ⟨At1, nt1, ct1, rfl⟩ := N_sl hd3.dj.dv.told
        obtain ⟨W3, hW3⟩ : ∃ V, V = wc := ⟨_, rfl⟩
        subst hW3
        obtain ⟨J1, hJ1e⟩ : ∃ q, badJ J J.next p.f0 = q := ⟨_, rfl⟩
        have HJE := Aside0.mk hJ1e
        have hev1 : J1.evs.length ≤ 100001 := by have := badJ_evs J J.next p.f0; rw [hJ1e] at this; omega
        have hdl1 : J1.data.length + p.f3.length ≤ 10000000 := by rw [← hJ1e, badJ_data]; exact HDL.out
        rw [hJ1e] at hd3
        clear hJ1e
        have HD3 := Aside0.mk hd3
        have HDL1 := Aside0.mk hdl1
        clear hd3 hdl1 c0 c5 c6 c8 p0 p1 p2 p3 HD2
        obtain ⟨c0, -, c2, -, -, -, c6, c7, c8⟩ := HD3.out.dj.cells
        obtain ⟨p0, p1, p2, p3⟩ := HD3.out.cells
        have fz3 : ∀ j, W3.frozen? ⟨g1, j, none⟩ = false := HD3.out.dj.fz
        go_upto_region 4 with (fail)
        obtain ⟨rt, hrt⟩ : ∃ rt, (!p.f0 && !(J1.mode == 1)) = rt := ⟨_, rfl⟩
        have HRT := Aside0.mk hrt
        clear hrt
        go_cut [43] (fun v43 wc => v43 = .bool rt ∧ wc = W3)
        case first =>
          have hrt := HRT.out
          cases hb0 : p.f0 with
          | true =>
            rw [hb0] at p0 hrt
            have e : rt = false := by simpa using hrt.symm
            subst e
            clear hrt hb0
            go_wp2
            go_meet
            exact ⟨rfl, rfl⟩
          | false =>
            rw [hb0] at p0 hrt
            obtain ⟨m1, hm1⟩ : ∃ m, (J1.mode == 1) = m := ⟨_, rfl⟩
            have hm2 : (J1.mode != 1) = !m1 := by rw [← hm1]; rfl
            rw [hm1] at hrt
            have e : rt = !m1 := by simpa using hrt.symm
            subst e
            clear hrt hb0
            cases m1 with
            | true =>
              go_wp2
              go_meet
              exact ⟨rfl, rfl⟩
            | false =>
              go_wp2
              go_meet
              exact ⟨rfl, rfl⟩
        case rest =>
          obtain ⟨rfl, rfl⟩ := hcut
          obtain ⟨W3, hW3⟩ : ∃ V, V = wc := ⟨_, rfl⟩
          subst hW3
          cases rt with
          | true =>
            have hd4 := HD3.out.dj.setMode 2
            obtain ⟨q0, q1, q2, q3, q4, q5, q6, q7, q8⟩ := HD3.out.dj.cells
            have fy : ∀ j, W3.frozen? ⟨g2, j, none⟩ = false := fun j => blk_frozen HD3.out.dj.b2 j
            obtain ⟨y0, y1, y2, y3, y4, y5, y6, y7, y8⟩ := cells9 HD3.out.dj.b2
            have hne12 : g1 ≠ g2 := HD3.out.dj.ne
            have HD4 := Aside0.mk hd4
            clear hd4
            go_wp2
            obtain ⟨X, hX⟩ : ∃ X, (((((((((( W3.setCell ⟨g1, 6, none⟩ (.int .i64 2)).setCell ⟨g2, 0, none⟩ (.bool true)).setCell ⟨g2, 1, none⟩ (.int .i64 J1.room)).setCell ⟨g2, 2, none⟩ (.int .i64 J1.most)).setCell ⟨g2, 3, none⟩ (.slice Al nl cl)).setCell ⟨g2, 4, none⟩ (.slice Aw nw cw)).setCell ⟨g2, 5, none⟩ (.int .i64 J1.next)).setCell ⟨g2, 6, none⟩ (.int .i64 2)).setCell ⟨g2, 7, none⟩ (.slice Ad nd cd)).setCell ⟨g2, 8, none⟩ (.slice At1 nt1 ct1)) = X := ⟨_, rfl⟩
            obtain ⟨r1, r2, r3, r4, r5⟩ := HD4.out.answer hX.symm
            obtain ⟨x0, x1, x2, x3, x4, x5, x6, x7, x8⟩ := cells9 r1
            have hpe : pieceJ J J.next p = { J1 with mode := 2 } := by
              have h1 := HRT.out
              simp only [Bool.and_eq_true, Bool.not_eq_true'] at h1
              rw [pieceJ, HJE.out, if_neg (by rw [h1.1]; decide), if_neg (by rw [h1.2]; decide)]
            rw [hX]
            rw [hpe]
            refine bodyPost_ret (v := dagg { J1 with mode := 2 } (.slice Al nl cl) (.slice Aw nw cw) (.slice Ad nd cd) (.slice At1 nt1 ct1)) (by simp [results, Tryd.results54, go_sem, x0, x1, x2, x3, x4, x5, x6, x7, x8]) rfl ?_
            exact ⟨_, _, rfl, r2, r3, r4, r5⟩
          | false =>
            have hd4 : ∃ d0, (if p.f0 then ([] : List Int) else J1.data) = d0 := ⟨_, rfl⟩
            obtain ⟨d0, hd0⟩ := hd4
            have HD0 := Aside0.mk hd0
            clear hd0
            go_upto_if 47 with (fail)
            go_cut [] (fun wc => ∃ vd1, DP W wc base P g1 g2 g3 (Value.slice At nt ct).ownBlock (.slice Al nl cl) (.slice Aw nw cw) vd1 (.slice At1 nt1 ct1) ws { J1 with data := d0 } p A c)
            case first =>
              have hd0 := HD0.out
              cases hb0 : p.f0 with
              | true =>
                rw [hb0] at hd0
                rw [if_pos rfl] at hd0
                subst hd0
                have hd4 := HD3.out.put (HD3.out.dj.setData (.slice none 0 0) [] (Kd.V_nil _ _ _ _ _))
                have HD4 := Aside0.mk hd4
                clear hd4
                go_wp2
                go_meet
                exact ⟨_, HD4.out⟩
              | false =>
                rw [hb0] at hd0
                rw [if_neg (by decide)] at hd0
                subst hd0
                go_wp2
                go_meet
                exact ⟨_, HD3.out⟩
            case rest =>
              obtain ⟨vd1, hd4⟩ := hcut
              obtain ⟨Ad2, nd2, cd2, rfl⟩ := V_sl hd4.dj.dv.data
              obtain ⟨W4, hW4⟩ : ∃ V, V = wc := ⟨_, rfl⟩
              subst hW4
              have HD4 := Aside0.mk hd4
              have hpe : pieceJ J J.next p = doneJ { J1 with data := d0 ++ p.f3, mode := 1 } p.f1 := by
                have h1 := HRT.out
                rw [pieceJ, HJE.out, ← HD0.out]
                cases hb0 : p.f0 with
                | true => simp
                | false =>
                  rw [hb0] at h1
                  have hm : J1.mode = 1 := by simpa using h1
                  simp [hm]
              have HPE := Aside0.mk hpe
              have hdl2 : d0.length + p.f3.length ≤ 10000000 := by
                have := HDL1.out
                rw [← HD0.out]
                split
                · simp; omega
                · exact this
              have HDL2 := Aside0.mk hdl2
              clear hd4 hpe hdl2 HD0 HRT HD3 HJE c0 c2 c6 c7 c8 p0 p1 p2 p3 fz3
              have hd5 := HD4.out.put (HD4.out.dj.setMode 1)
              have HD5 := Aside0.mk hd5
              clear hd5
              obtain ⟨-, -, -, -, -, -, c6, -, -⟩ := HD4.out.dj.cells
              have fz4 : ∀ j, W4.frozen? ⟨g1, j, none⟩ = false := HD4.out.dj.fz
              go_upto_region 10 with (fail)
              clear c6 fz4
              generalize W4.setCell ⟨g1, 6, none⟩ (.int .i64 1) = W5 at HD5 ⊢
              clear HD4
              have HD6 := Aside0.mk (HD5.out.below (below_drew (Below.refl _ _)))
              clear HD5
              refine AnyT.begin_ 8 (fun w' : World => w'.cell? ⟨g1, 7, none⟩ = some (.slice Ad2 nd2 cd2) ∧ w'.cell? ⟨g3, 3, none⟩ = some (.slice A p.f3.length c)) (by kernel_rfl) ?_
              generalize W5.drew = W6 at HD6 ⊢
              have hS : (fun w' : World => w'.cell? ⟨g1, 7, none⟩ = some (.slice Ad2 nd2 cd2) ∧ w'.cell? ⟨g3, 3, none⟩ = some (.slice A p.f3.length c)) W6 := ⟨HD6.out.dj.cells.2.2.2.2.2.2.2.1, HD6.out.cells.2.2.2⟩
              refine AnyT.take (i := 1) (v := .pointer (some ⟨g1, 7, none⟩)) rfl (by kernel_rfl) (by kernel_rfl) (by kernel_rfl) (by kernel_rfl) (fun _ _ _ h => h) (Or.inl ⟨by rfl, ?hy1⟩) hS ?rest1
              case hy1 =>
                intro w hSw
                go_split_ands
                go_simp
                try (with_reducible rfl)
              (try simp only [Act.put, List.setIfInBounds_toArray, List.set_cons_zero, List.set_cons_succ])
              refine AnyT.take (i := 2) (v := .slice Ad2 nd2 cd2) rfl (by kernel_rfl) (by kernel_rfl) (by kernel_rfl) (by kernel_rfl) (fun _ _ _ h => h) (Or.inl ⟨by rfl, ?hy2⟩) hS ?rest2
              case hy2 =>
                intro w hSw
                go_split_ands
                go_simp
                try (with_reducible rfl)
              (try simp only [Act.put, List.setIfInBounds_toArray, List.set_cons_zero, List.set_cons_succ])
              refine AnyT.take (i := 4) (v := .pointer (some ⟨g3, 3, none⟩)) rfl (by kernel_rfl) (by kernel_rfl) (by kernel_rfl) (by kernel_rfl) (fun _ _ _ h => h) (Or.inl ⟨by rfl, ?hy4⟩) hS ?rest4
              case hy4 =>
                intro w hSw
                go_split_ands
                go_simp
                try (with_reducible rfl)
              (try simp only [Act.put, List.setIfInBounds_toArray, List.set_cons_zero, List.set_cons_succ])
              refine AnyT.take (i := 5) (v := .slice A p.f3.length c) rfl (by kernel_rfl) (by kernel_rfl) (by kernel_rfl) (by kernel_rfl) (fun _ _ _ h => h) (Or.inl ⟨by rfl, ?hy5⟩) hS ?rest5
              case hy5 =>
                intro w hSw
                go_split_ands
                go_simp
                try (with_reducible rfl)
              (try simp only [Act.put, List.setIfInBounds_toArray, List.set_cons_zero, List.set_cons_succ])
              refine AnyT.one (i := 0) (by kernel_rfl) rfl (fun K hK => ?_)
              refine Kd.R_lit_step (Kd.int .u8) (w0 := W6) (W := W6) W6.heap.size 5 ?bW (N := 50) ?bD (xs := ([] : List Int)) (inner := []) (ok := fun _ => True) (okp := fun _ => True) ?bR ?bP (fun _ h => h) trivial (Below.refl _ _) (Nat.le_refl _) (by simp) ?bN
              case bW => rfl
              case bD => rfl
              case bR => first | (go_simp; done) | (go_simp; rfl)
              case bP => exact Reps.none _ _
              intro v50 w6 ho6 hb6 hg6 hat6
              have HD7 := Aside0.mk (HD6.out.below hb6)
              have HO6 := Aside0.mk ho6
              have HB6 := Aside0.mk hb6
              clear ho6 hb6 hg6 hat6
              have hS6 : (fun w' : World => w'.cell? ⟨g1, 7, none⟩ = some (.slice Ad2 nd2 cd2) ∧ w'.cell? ⟨g3, 3, none⟩ = some (.slice A p.f3.length c)) w6 := ⟨HD7.out.dj.cells.2.2.2.2.2.2.2.1, HD7.out.cells.2.2.2⟩
              refine hK.out _ _ (.inr hS6) ?_
              clear hK K hS
              (try simp only [Act.put, List.setIfInBounds_toArray, List.set_cons_zero, List.set_cons_succ])
              refine AnyT.one (i := 3) (by kernel_rfl) rfl (fun K hK => ?_)
              refine Kd.R_append_rows_step (Kd.int .u8) (w0 := W6) (W := w6) W6.heap.size ?eW (.tmp 50) (.tmp 52) 22 5 (.int .u8 0) 1 ?eU Tryd.underlying22 info5 rfl (by decide) (by decide) v50 [] d0 Ad2 nd2 cd2 (fun _ => True) (fun _ => False) ?eV ?eX HO6.out ?eR (fun _ _ h => h) (fun _ h => h.elim) (fun _ _ => trivial) HB6.out HB6.out.size ?eL ?eN
              case eW => rfl
              case eU => rfl
              case eV => rfl
              case eX => rfl
              case eR => exact Kd.F_now (Kd.V_F HD7.out.dj.dv.data)
              case eL => have h1 := (Kd.V_at HD7.out.dj.dv.data).1; have h2 := HDL2.out; simp at h1; simp; omega
              intro v53 w7 ho7 hb7 hg7 hat7
              have HD8 := Aside0.mk (HD6.out.below hb7)
              have HO7 := Aside0.mk ho7
              have HB7 := Aside0.mk hb7
              clear ho7 hb7 hg7 hat7
              have hS7 : (fun w' : World => w'.cell? ⟨g1, 7, none⟩ = some (.slice Ad2 nd2 cd2) ∧ w'.cell? ⟨g3, 3, none⟩ = some (.slice A p.f3.length c)) w7 := ⟨HD8.out.dj.cells.2.2.2.2.2.2.2.1, HD8.out.cells.2.2.2⟩
              refine hK.out _ _ (.inr hS7) ?_
              clear hK K hS6
              (try simp only [Act.put, List.setIfInBounds_toArray, List.set_cons_zero, List.set_cons_succ])
              refine AnyT.one (i := 6) (by kernel_rfl) rfl (fun K hK => ?_)
              refine Kd.R_append_rows_step (Kd.int .u8) (w0 := W6) (W := w7) W6.heap.size ?cW (.tmp 53) (.tmp 55) 22 5 (.int .u8 0) 1 ?cU Tryd.underlying22 info5 rfl (by decide) (by decide) v53 ([] ++ d0) p.f3 A p.f3.length c (fun _ => True) (fun _ => False) ?cV ?cX HO7.out ?cR (fun _ _ h => h) (fun _ h => h.elim) (fun _ _ => trivial) HB7.out HB7.out.size ?cL ?cN
              case cW => rfl
              case cU => rfl
              case cV => rfl
              case cX => rfl
              case cR => exact Kd.F_now (Kd.V_F HD8.out.pv)
              case cL => have h2 := HDL2.out; simp; omega
              intro v56 w8 ho8 hb8 hg8 hat8
              obtain ⟨A8, n8, c8', rfl⟩ := R_sl ho8
              have HD9 := Aside0.mk (HD6.out.below hb8)
              have hV9 : Kd.V (Kd.int .u8) 5 w8 base (fun k => Not2 P g1 g2 k ∧ some k ≠ (Value.slice At1 nt1 ct1).ownBlock) (.slice A8 n8 c8') (d0 ++ p.f3) := by
                refine R_V ho8 (fun k _ hk1 hk2 => ⟨HD6.out.dj.hP2 k hk1, fun e => ?_⟩)
                have := Kd.N_lt HD6.out.dj.dv.told k e.symm
                omega
              have HV9 := Aside0.mk hV9
              clear ho8 hb8 hg8 hat8 hV9
              have hS8 : (fun w' : World => w'.cell? ⟨g1, 7, none⟩ = some (.slice Ad2 nd2 cd2) ∧ w'.cell? ⟨g3, 3, none⟩ = some (.slice A p.f3.length c)) w8 := ⟨HD9.out.dj.cells.2.2.2.2.2.2.2.1, HD9.out.cells.2.2.2⟩
              refine hK.out _ _ (.inr hS8) ?_
              clear hK K hS7
              (try simp only [Act.put, List.setIfInBounds_toArray, List.set_cons_zero, List.set_cons_succ])
              refine AnyT.take (i := 7) (v := .pointer (some ⟨g1, 7, none⟩)) rfl (by kernel_rfl) (by kernel_rfl) (by kernel_rfl) (by kernel_rfl) (fun _ _ _ h => h) (Or.inl ⟨by rfl, ?hy7⟩) hS8 ?rest7
              case hy7 =>
                intro w hSw
                go_split_ands
                go_simp
                try (with_reducible rfl)
              (try simp only [Act.put, List.setIfInBounds_toArray, List.set_cons_zero, List.set_cons_succ])
              have fz9 : ∀ j, w8.frozen? ⟨g1, j, none⟩ = false := HD9.out.dj.fz
              obtain ⟨-, -, -, -, -, -, -, z7, -⟩ := HD9.out.dj.cells
              refine AnyT.one (i := 8) (by kernel_rfl) rfl (fun K hK => ?_)
              go_simp
              refine hK.out _ _ (.inl rfl) ?_
              clear hK K hS8 z7 fz9
              (try simp only [Act.put, List.setIfInBounds_toArray, List.set_cons_zero, List.set_cons_succ])
              refine AnyT.done (by kernel_rfl) ?_ _
              have hd10 := HD9.out.put (HD9.out.dj.setData _ _ HV9.out)
              clear HD9 HV9 HD8 HD7 HD6 HO6 HO7 HB6 HB7
              generalize w8.setCell ⟨g1, 7, none⟩ (.slice A8 n8 c8') = W9 at hd10 ⊢
              have HD10 := Aside0.mk hd10
              clear hd10
              obtain ⟨J3, hJ3⟩ : ∃ q : Jn, { J1 with data := d0 ++ p.f3, mode := 1 } = q := ⟨_, rfl⟩
              have hd10 : DP W W9 base P g1 g2 g3 (Value.slice At nt ct).ownBlock (.slice Al nl cl) (.slice Aw nw cw) (.slice A8 n8 c8') (.slice At1 nt1 ct1) ws J3 p A c := by rw [← hJ3]; exact HD10.out
              have hev3 : (J3.evs.map T106).length ≤ 100001 := by rw [← hJ3]; simpa using hev1
              rw [hJ3] at HPE
              clear hJ3 HD10
              obtain rfl := (Kd.V_at hd10.dj.dv.data).1
              have HD10 := Aside0.mk hd10
              clear hd10
              obtain ⟨-, -, c2, -, -, -, -, c7, c8⟩ := HD10.out.dj.cells
              obtain ⟨-, p1, -, -⟩ := HD10.out.cells
              have fx : ∀ j, W9.frozen? ⟨g1, j, none⟩ = false := HD10.out.dj.fz
              by_cases hm : J3.most < (J3.data.length : Int)
              · have HDE := Aside0.mk (show doneJ J3 p.f1 = { J3 with evs := J3.evs ++ [⟨3, [], 0, 0⟩], mode := 2, data := [] } from by rw [doneJ, if_pos hm])
                go_upto_region 13 with (first
                  | (at_builtin; refine Kd.N_append k106 (w0 := W9) (W := W9) base ?mG (.tmp 65) (.tmp 67) 61 106 (.agg #[.int .i64 0, .slice none 0 0, .int .i64 0, .int .i64 0]) 48 ?mU Tryd.underlying61 info106 rfl (by decide) (by decide) (.slice At1 nt1 ct1) (J3.evs.map T106) (T106 ⟨3, [], 0, 0⟩) [.int .i64 3, .slice none 0 0, .int .i64 0, .int .i64 0] (Not2 P g1 g2) (fun _ => False) ?mV ?mX ?mP (fun _ h => h.elim) ?mF ?mO ?mB ?mS ?mL ?mN; (case mG => rfl); (case mU => rfl); (case mV => rfl); (case mX => rfl); (case mP => exact k106_mkF _ _ _ (Nat.le_refl _) (Kd.F_nil _ _ _)); (case mF => exact HD10.out.dj.hP2); (case mO => exact HD10.out.dj.dv.told); (case mB => exact Below.refl _ _); (case mS => exact HD10.out.dj.hbW); (case mL => omega); intro v1 wA ho hb9 hg hat; obtain ⟨A9, n9, c9, rfl⟩ := N_sl ho; have HO := Aside0.mk ho; have HBB := Aside0.mk hb9; have HG := Aside0.mk hg; have HAT := Aside0.mk hat; have hg9 := blk_grown HD10.out.dj.b1 hg HD10.out.dj.told_ne.1; obtain ⟨-, -, -, -, -, -, -, -, z8⟩ := cells9 hg9; have fz9 : ∀ j, wA.frozen? ⟨g1, j, none⟩ = false := fun j => blk_frozen hg9 j; clear ho hb9 hg hat hg9))
                have hd11 := HD10.out.tell HO.out HBB.out ⟨HG.out.os, HG.out.tape, HG.out.output, HG.out.size, HG.out.block⟩ HAT.out
                clear c2 c7 c8 p1 fx z8 fz9
                generalize wA.setCell ⟨g1, 8, none⟩ (.slice A9 n9 c9) = WB at hd11 ⊢
                have HD11 := Aside0.mk hd11
                clear hd11
                obtain ⟨c0, c1, c2, c3, c4, c5, c6, c7, c8⟩ := HD11.out.dj.cells
                have fx : ∀ j, WB.frozen? ⟨g1, j, none⟩ = false := HD11.out.dj.fz
                have fy : ∀ j, WB.frozen? ⟨g2, j, none⟩ = false := fun j => blk_frozen HD11.out.dj.b2 j
                obtain ⟨y0, y1, y2, y3, y4, y5, y6, y7, y8⟩ := cells9 HD11.out.dj.b2
                have hne12 : g1 ≠ g2 := HD11.out.dj.ne
                have hd12 := (HD11.out.dj.setMode 2).setData (.slice none 0 0) [] (Kd.V_nil _ _ _ _ _)
                have HD12 := Aside0.mk hd12
                clear hd12
                go_wp2
                obtain ⟨X, hX⟩ : ∃ X, (((((((((((WB.setCell ⟨g1, 6, none⟩ (.int .i64 2)).setCell ⟨g1, 7, none⟩ (.slice none 0 0)).setCell ⟨g2, 0, none⟩ (.bool true)).setCell ⟨g2, 1, none⟩ (.int .i64 J3.room)).setCell ⟨g2, 2, none⟩ (.int .i64 J3.most)).setCell ⟨g2, 3, none⟩ (.slice Al nl cl)).setCell ⟨g2, 4, none⟩ (.slice Aw nw cw)).setCell ⟨g2, 5, none⟩ (.int .i64 J3.next)).setCell ⟨g2, 6, none⟩ (.int .i64 2)).setCell ⟨g2, 7, none⟩ (.slice none 0 0)).setCell ⟨g2, 8, none⟩ (.slice A9 n9 c9)) = X := ⟨_, rfl⟩
                obtain ⟨r1, r2, r3, r4, r5⟩ := HD12.out.answer hX.symm
                obtain ⟨x0, x1, x2, x3, x4, x5, x6, x7, x8⟩ := cells9 r1
                have hde : doneJ J3 p.f1 = { J3 with evs := J3.evs ++ [⟨3, [], 0, 0⟩], mode := 2, data := [] } := HDE.out
                rw [hX]
                rw [HPE.out, hde]
                refine bodyPost_ret (v := dagg ({ J3 with evs := J3.evs ++ [⟨3, [], 0, 0⟩], mode := 2, data := [] } : Jn) (.slice Al nl cl) (.slice Aw nw cw) (.slice none 0 0) (.slice A9 n9 c9)) (by simp [results, Tryd.results54, go_sem, x0, x1, x2, x3, x4, x5, x6, x7, x8]) rfl ?_
                exact ⟨_, _, rfl, r2, r3, r4, r5⟩
              · cases hf1 : p.f1 with
                | true =>
                  rw [hf1] at p1
                  have HDE := Aside0.mk (show doneJ J3 p.f1 = { J3 with evs := J3.evs ++ [⟨0, J3.data, 0, 0⟩], mode := 0, data := [] } from by rw [doneJ, if_neg hm, if_pos hf1])
                  clear hf1
                  go_upto_region 18 with (first
                    | (at_builtin; refine Kd.N_append k106 (w0 := W9) (W := W9) base ?nG (.tmp 76) (.tmp 80) 61 106 (.agg #[.int .i64 0, .slice none 0 0, .int .i64 0, .int .i64 0]) 48 ?nU Tryd.underlying61 info106 rfl (by decide) (by decide) (.slice At1 nt1 ct1) (J3.evs.map T106) (T106 ⟨0, J3.data, 0, 0⟩) [.int .i64 0, .slice A8 J3.data.length c8', .int .i64 0, .int .i64 0] (Not2 P g1 g2) (fun k => Not2 P g1 g2 k ∧ some k ≠ (Value.slice At1 nt1 ct1).ownBlock) ?nV ?nX ?nP (fun _ h => h) ?nF ?nO ?nB ?nS ?nL ?nN; (case nG => rfl); (case nU => rfl); (case nV => rfl); (case nX => rfl); (case nP => exact k106_mkF _ _ _ (Kd.V_at HD10.out.dj.dv.data).2.1 (Kd.V_at HD10.out.dj.dv.data).2.2); (case nF => exact HD10.out.dj.hP2); (case nO => exact HD10.out.dj.dv.told); (case nB => exact Below.refl _ _); (case nS => exact HD10.out.dj.hbW); (case nL => omega); intro v1 wA ho hb9 hg hat; obtain ⟨A9, n9, c9, rfl⟩ := N_sl ho; have HO := Aside0.mk ho; have HBB := Aside0.mk hb9; have HG := Aside0.mk hg; have HAT := Aside0.mk hat; have hg9 := blk_grown HD10.out.dj.b1 hg HD10.out.dj.told_ne.1; obtain ⟨-, -, -, -, -, -, -, -, z8⟩ := cells9 hg9; have fz9 : ∀ j, wA.frozen? ⟨g1, j, none⟩ = false := fun j => blk_frozen hg9 j; clear ho hb9 hg hat hg9))
                  have hd11 := HD10.out.tell HO.out HBB.out ⟨HG.out.os, HG.out.tape, HG.out.output, HG.out.size, HG.out.block⟩ HAT.out
                  clear c2 c7 c8 p1 fx z8 fz9
                  generalize wA.setCell ⟨g1, 8, none⟩ (.slice A9 n9 c9) = WB at hd11 ⊢
                  have HD11 := Aside0.mk hd11
                  clear hd11
                  obtain ⟨c0, c1, c2, c3, c4, c5, c6, c7, c8⟩ := HD11.out.dj.cells
                  have fx : ∀ j, WB.frozen? ⟨g1, j, none⟩ = false := HD11.out.dj.fz
                  have fy : ∀ j, WB.frozen? ⟨g2, j, none⟩ = false := fun j => blk_frozen HD11.out.dj.b2 j
                  obtain ⟨y0, y1, y2, y3, y4, y5, y6, y7, y8⟩ := cells9 HD11.out.dj.b2
                  have hne12 : g1 ≠ g2 := HD11.out.dj.ne
                  have hd12 := (HD11.out.dj.setMode 0).setData (.slice none 0 0) [] (Kd.V_nil _ _ _ _ _)
                  have HD12 := Aside0.mk hd12
                  clear hd12
                  go_wp2
                  obtain ⟨X, hX⟩ : ∃ X, (((((((((((WB.setCell ⟨g1, 6, none⟩ (.int .i64 0)).setCell ⟨g1, 7, none⟩ (.slice none 0 0)).setCell ⟨g2, 0, none⟩ (.bool true)).setCell ⟨g2, 1, none⟩ (.int .i64 J3.room)).setCell ⟨g2, 2, none⟩ (.int .i64 J3.most)).setCell ⟨g2, 3, none⟩ (.slice Al nl cl)).setCell ⟨g2, 4, none⟩ (.slice Aw nw cw)).setCell ⟨g2, 5, none⟩ (.int .i64 J3.next)).setCell ⟨g2, 6, none⟩ (.int .i64 0)).setCell ⟨g2, 7, none⟩ (.slice none 0 0)).setCell ⟨g2, 8, none⟩ (.slice A9 n9 c9)) = X := ⟨_, rfl⟩
                  obtain ⟨r1, r2, r3, r4, r5⟩ := HD12.out.answer hX.symm
                  obtain ⟨x0, x1, x2, x3, x4, x5, x6, x7, x8⟩ := cells9 r1
                  have hde : doneJ J3 p.f1 = { J3 with evs := J3.evs ++ [⟨0, J3.data, 0, 0⟩], mode := 0, data := [] } := HDE.out
                  rw [hX]
                  rw [HPE.out, hde]
                  refine bodyPost_ret (v := dagg ({ J3 with evs := J3.evs ++ [⟨0, J3.data, 0, 0⟩], mode := 0, data := [] } : Jn) (.slice Al nl cl) (.slice Aw nw cw) (.slice none 0 0) (.slice A9 n9 c9)) (by simp [results, Tryd.results54, go_sem, x0, x1, x2, x3, x4, x5, x6, x7, x8]) rfl ?_
                  exact ⟨_, _, rfl, r2, r3, r4, r5⟩
                | false =>
                  rw [hf1] at p1
                  have HDE := Aside0.mk (show doneJ J3 p.f1 = J3 from by rw [doneJ, if_neg hm, if_neg (by rw [hf1]; decide)])
                  clear hf1 c2 c7 c8 fx
                  obtain ⟨WB, hWB⟩ : ∃ V, V = W9 := ⟨_, rfl⟩
                  subst hWB
                  obtain ⟨c0, c1, c2, c3, c4, c5, c6, c7, c8⟩ := HD10.out.dj.cells
                  have fx : ∀ j, WB.frozen? ⟨g1, j, none⟩ = false := HD10.out.dj.fz
                  have fy : ∀ j, WB.frozen? ⟨g2, j, none⟩ = false := fun j => blk_frozen HD10.out.dj.b2 j
                  obtain ⟨y0, y1, y2, y3, y4, y5, y6, y7, y8⟩ := cells9 HD10.out.dj.b2
                  have hne12 : g1 ≠ g2 := HD10.out.dj.ne
                  go_wp2
                  obtain ⟨X, hX⟩ : ∃ X, (((((((((WB.setCell ⟨g2, 0, none⟩ (.bool true)).setCell ⟨g2, 1, none⟩ (.int .i64 J3.room)).setCell ⟨g2, 2, none⟩ (.int .i64 J3.most)).setCell ⟨g2, 3, none⟩ (.slice Al nl cl)).setCell ⟨g2, 4, none⟩ (.slice Aw nw cw)).setCell ⟨g2, 5, none⟩ (.int .i64 J3.next)).setCell ⟨g2, 6, none⟩ (.int .i64 J3.mode)).setCell ⟨g2, 7, none⟩ (.slice A8 J3.data.length c8')).setCell ⟨g2, 8, none⟩ (.slice At1 nt1 ct1)) = X := ⟨_, rfl⟩
                  obtain ⟨r1, r2, r3, r4, r5⟩ := HD10.out.dj.answer hX.symm
                  obtain ⟨x0, x1, x2, x3, x4, x5, x6, x7, x8⟩ := cells9 r1
                  have hde : doneJ J3 p.f1 = J3 := HDE.out
                  rw [hX]
                  rw [HPE.out, hde]
                  refine bodyPost_ret (v := dagg (J3 : Jn) (.slice Al nl cl) (.slice Aw nw cw) (.slice A8 J3.data.length c8') (.slice At1 nt1 ct1)) (by simp [results, Tryd.results54, go_sem, x0, x1, x2, x3, x4, x5, x6, x7, x8]) rfl ?_
                  exact ⟨_, _, rfl, r2, r3, r4, r5⟩
end Go.Proofs.YtgopklnfdlnojaaDoor.Lc
namespace Go.Proofs.YtgopklnfdlnojaaDoor.Ld
open Go.RowKit Go.Proofs.YtgopklnfdlnojaaDoor.La Go.Proofs.YtgopklnfdlnojaaDoor.Ga Go.Proofs.YtgopklnfdlnojaaDoor.Ja Go.Proofs.YtgopklnfdlnojaaDoor.Jb Go.Proofs.YtgopklnfdlnojaaDoor.Jc Go.Proofs.YtgopklnfdlnojaaDoor.Jd Go.Proofs.YtgopklnfdlnojaaDoor.Je Go.Proofs.YtgopklnfdlnojaaDoor.Ka Go.Proofs.YtgopklnfdlnojaaDoorW.PrintWords Go.Proofs.YtgopklnfdlnojaaDoorW.PrintLast Go.Proofs.YtgopklnfdlnojaaDoorW.PrintMore
set_option linter.unusedVariables false
set_option linter.unusedSimpArgs false

theorem rd110 {xs : List S110} {i : Nat} {x : S110} {r : List S110} (h : xs.drop i = x :: r) : rd_T110 xs (i : Int) = x := by
  have h1 : xs[i]? = some x := by
    have := congrArg (fun l => l[0]?) h
    simpa using this
  simp [rd_T110, List.getD_eq_getElem?_getD, h1]
theorem drop_next {α : Type} {xs : List α} {i : Nat} {x : α} {r : List α} (h : xs.drop i = x :: r) : xs.drop (i + 1) = r ∧ i < xs.length := by
  constructor
  · have := congrArg (List.drop 1) h
    simpa [List.drop_drop, Nat.add_comm] using this
  · have := congrArg List.length h
    simp at this
    omega
theorem w64 (i : Nat) (h : i ≤ 1000000000) : wrap64 ((i : Int) + 1) = ((i + 1 : Nat) : Int) := by
  unfold wrap64
  omega

def atR (o : Option S110) : Option (Bool × Bool × Int × List Int × Bool) := match o with
  | some x => some (x.f1.f0, x.f1.f1, x.f1.f2, x.f1.f3, true)
  | none => some (false, false, 0, [], false)
theorem at_l0 (n : Int) (a0 : Bool) (a1 a2 : Int) (l3 : List Int) (xs : List S110) (a5 a6 : Int) (l7 : List Int) (l8 : List S106) (hx : xs.length ≤ 100000000) : ∀ (r : List S110) (i : Nat), xs.drop i = r → ∀ k, r.length < k →
    marlineref24_at.l0 k n (i : Int) a0 a1 a2 l3 xs a5 a6 l7 l8 = atR (r.find? (fun x => x.f0 == n)) := by
  intro r
  induction r with
  | nil =>
    intro i h k hk
    obtain ⟨k, rfl⟩ : ∃ k', k = k' + 1 := ⟨k - 1, by simp at hk; omega⟩
    have : xs.length ≤ i := by have := congrArg List.length h; simp at this; omega
    rw [marlineref24_at.l0, if_neg (by omega)]
    rfl
  | cons x r ih =>
    intro i h k hk
    obtain ⟨k, rfl⟩ : ∃ k', k = k' + 1 := ⟨k - 1, by simp at hk; omega⟩
    obtain ⟨h1, h2⟩ := drop_next h
    rw [marlineref24_at.l0, if_pos (by omega), if_pos (by omega), rd110 h]
    by_cases he : x.f0 = n
    · rw [if_pos he, List.find?_cons_of_pos (by simpa using he)]
      rfl
    · rw [if_neg he, List.find?_cons_of_neg (by simpa using he), w64 i (by omega)]
      exact ih (i + 1) h1 k (by simp at hk; omega)
theorem at_f (n : Int) (a0 : Bool) (a1 a2 : Int) (l3 : List Int) (xs : List S110) (a5 a6 : Int) (l7 : List Int) (l8 : List S106) (hx : xs.length ≤ 100000000) :
    marlineref24_at.f (xs.length + 1) a0 a1 a2 l3 xs a5 a6 l7 l8 n = atR (xs.find? (fun x => x.f0 == n)) :=
  at_l0 n a0 a1 a2 l3 xs a5 a6 l7 l8 hx xs 0 rfl _ (by omega)

theorem without_l0 (n : Int) (xs : List S110) (hx : xs.length ≤ 100000000) : ∀ (r : List S110) (i : Nat) (out : List S110), xs.drop i = r → out.length ≤ i → ∀ k, r.length < k →
    marlineref24_without.l0 k xs n out (i : Int) = some (out ++ r.filter (fun x => !(x.f0 == n))) := by
  intro r
  induction r with
  | nil =>
    intro i out h ho k hk
    obtain ⟨k, rfl⟩ : ∃ k', k = k' + 1 := ⟨k - 1, by simp at hk; omega⟩
    have : xs.length ≤ i := by have := congrArg List.length h; simp at this; omega
    rw [marlineref24_without.l0, if_neg (by omega)]
    simp
  | cons x r ih =>
    intro i out h ho k hk
    obtain ⟨k, rfl⟩ : ∃ k', k = k' + 1 := ⟨k - 1, by simp at hk; omega⟩
    obtain ⟨h1, h2⟩ := drop_next h
    rw [marlineref24_without.l0, if_pos (by omega), if_pos (by omega), rd110 h, w64 i (by omega)]
    by_cases he : x.f0 = n
    · rw [if_pos he, List.filter_cons_of_neg (by simpa using he)]
      exact ih (i + 1) out h1 (by omega) k (by simp at hk; omega)
    · rw [if_neg he, if_pos (by omega), List.filter_cons_of_pos (by simpa using he)]
      rw [ih (i + 1) _ h1 (by simp; omega) k (by simp at hk; omega)]
      simp
theorem without_f (n : Int) (xs : List S110) (hx : xs.length ≤ 100000000) : marlineref24_without.f (xs.length + 1) xs n = some (xs.filter (fun x => !(x.f0 == n))) := by
  have := without_l0 n xs hx xs 0 [] rfl (by simp) (xs.length + 1) (by omega)
  simpa [marlineref24_without.f] using this

theorem least_l0 (xs : List Int) (hx : xs.length ≤ 100000000) : ∀ (r : List Int) (i : Nat) (m : Int), xs.drop i = r → ∀ k, r.length < k →
    ∃ v, marlineref24_least.l0 k xs m (i : Int) = some v ∧ (v = m ∨ v ∈ r) ∧ v ≤ m ∧ ∀ x ∈ r, v ≤ x := by
  intro r
  induction r with
  | nil =>
    intro i m h k hk
    obtain ⟨k, rfl⟩ : ∃ k', k = k' + 1 := ⟨k - 1, by simp at hk; omega⟩
    have : xs.length ≤ i := by have := congrArg List.length h; simp at this; omega
    rw [marlineref24_least.l0, if_neg (by omega)]
    exact ⟨m, rfl, .inl rfl, Int.le_refl _, by simp⟩
  | cons x r ih =>
    intro i m h k hk
    obtain ⟨k, rfl⟩ : ∃ k', k = k' + 1 := ⟨k - 1, by simp at hk; omega⟩
    obtain ⟨h1, h2⟩ := drop_next h
    have hr : rd xs (i : Int) = x := by
      have h1 : xs[i]? = some x := by
        have := congrArg (fun l => l[0]?) h
        simpa using this
      simp [rd, List.getD_eq_getElem?_getD, h1]
    rw [marlineref24_least.l0, if_pos (by omega), if_pos (by omega), hr, w64 i (by omega)]
    by_cases he : x < m
    · rw [if_pos he]
      obtain ⟨v, hv, h3, h4, h5⟩ := ih (i + 1) x h1 k (by simp at hk; omega)
      refine ⟨v, hv, .inr ?_, by omega, fun y hy => ?_⟩
      · rcases h3 with e | e
        · simp [e]
        · simp [e]
      · rcases List.mem_cons.1 hy with e | e
        · rw [e]; exact h4
        · exact h5 y e
    · rw [if_neg he]
      obtain ⟨v, hv, h3, h4, h5⟩ := ih (i + 1) m h1 k (by simp at hk; omega)
      refine ⟨v, hv, ?_, h4, fun y hy => ?_⟩
      · rcases h3 with e | e
        · exact .inl e
        · exact .inr (by simp [e])
      · rcases List.mem_cons.1 hy with e | e
        · rw [e]; omega
        · exact h5 y e
theorem least_f {J : Jn} (h : J.last ≠ []) (hx : J.last.length ≤ 100000000) : marlineref24_least.f (J.last.length + 1) J.last = some (low J) := by
  have hm := low_mem h
  have hl := low_le (J := J)
  generalize low J = lo at hm hl ⊢
  generalize J.last = xs at *
  cases xs with
  | nil => exact absurd rfl h
  | cons z zs =>
    rw [marlineref24_least.f, if_pos (by simp)]
    have hr : rd (z :: zs) 0 = z := rfl
    rw [hr]
    obtain ⟨v, hv, h3, h4, h5⟩ := least_l0 (z :: zs) hx zs 1 z rfl ((z :: zs).length + 1) (by simp; omega)
    have hv' : marlineref24_least.l0 ((z :: zs).length + 1) (z :: zs) z 1 = some v := hv
    rw [hv']
    have h6 : v ∈ z :: zs := by
      rcases h3 with e | e
      · simp [e]
      · simp [e]
    have h7 := hl v h6
    have h8 : v ≤ lo := by
      rcases List.mem_cons.1 hm with e | e
      · rw [e]; exact h4
      · exact h5 lo e
    rw [show v = lo by omega]

theorem first_l0 (a0 : Bool) (a1 a2 : Int) (l3 : List Int) (xs : List S110) (a5 a6 : Int) (l7 : List Int) (l8 : List S106) (hx : xs.length ≤ 100000000) : ∀ (r : List S110) (i : Nat) (m : Int), xs.drop i = r → ∀ k, r.length < k →
    ∃ v, marlineref24_first.l0 k m (i : Int) a0 a1 a2 l3 xs a5 a6 l7 l8 = some v ∧ (v = m ∨ ∃ x ∈ r, v = x.f0) ∧ v ≤ m ∧ ∀ x ∈ r, v ≤ x.f0 := by
  intro r
  induction r with
  | nil =>
    intro i m h k hk
    obtain ⟨k, rfl⟩ : ∃ k', k = k' + 1 := ⟨k - 1, by simp at hk; omega⟩
    have : xs.length ≤ i := by have := congrArg List.length h; simp at this; omega
    rw [marlineref24_first.l0, if_neg (by omega)]
    exact ⟨m, rfl, .inl rfl, Int.le_refl _, by simp⟩
  | cons x r ih =>
    intro i m h k hk
    obtain ⟨k, rfl⟩ : ∃ k', k = k' + 1 := ⟨k - 1, by simp at hk; omega⟩
    obtain ⟨h1, h2⟩ := drop_next h
    rw [marlineref24_first.l0, if_pos (by omega), if_pos (by omega), rd110 h, w64 i (by omega)]
    by_cases he : x.f0 < m
    · rw [if_pos he]
      obtain ⟨v, hv, h3, h4, h5⟩ := ih (i + 1) x.f0 h1 k (by simp at hk; omega)
      refine ⟨v, hv, .inr ?_, by omega, fun y hy => ?_⟩
      · rcases h3 with e | ⟨y, hy, e⟩
        · exact ⟨x, by simp, e⟩
        · exact ⟨y, by simp [hy], e⟩
      · rcases List.mem_cons.1 hy with e | e
        · rw [e]; exact h4
        · exact h5 y e
    · rw [if_neg he]
      obtain ⟨v, hv, h3, h4, h5⟩ := ih (i + 1) m h1 k (by simp at hk; omega)
      refine ⟨v, hv, ?_, h4, fun y hy => ?_⟩
      · rcases h3 with e | ⟨y, hy, e⟩
        · exact .inl e
        · exact .inr ⟨y, by simp [hy], e⟩
      · rcases List.mem_cons.1 hy with e | e
        · rw [e]; omega
        · exact h5 y e

/-- What waits, in whatever order, against what waits by places. -/
theorem find_at {ws : List (Int × S29)} {p : Int × S29} {q : List (Int × S29)} (h : ws.Perm (p :: q)) (hs : (p :: q).Pairwise (fun p q => p.1 < q.1)) : (ws.map T110).find? (fun x => x.f0 == p.1) = some (T110 p) := by
  have hu : ∀ x ∈ ws, x.1 = p.1 → x = p := by
    intro x hx he
    rcases List.mem_cons.1 (h.mem_iff.1 hx) with e | e
    · exact e
    · have := (List.pairwise_cons.1 hs).1 x e
      omega
  have hm : p ∈ ws := h.mem_iff.2 (by simp)
  clear h hs
  induction ws with
  | nil => cases hm
  | cons y ys ih =>
    simp only [List.map_cons]
    by_cases he : y.1 = p.1
    · rw [List.find?_cons_of_pos (by simpa [T110] using he), hu y (by simp) he]
    · rw [List.find?_cons_of_neg (by simpa [T110] using he)]
      refine ih (fun x hx => hu x (by simp [hx])) ?_
      rcases List.mem_cons.1 hm with e | e
      · exact absurd (by rw [← e]) he
      · exact e
theorem find_none {ws wt : List (Int × S29)} {n : Int} (h : ws.Perm wt) (hn : ∀ x ∈ wt, x.1 ≠ n) : (ws.map T110).find? (fun x => x.f0 == n) = none := by
  refine List.find?_eq_none.2 fun y hy => ?_
  obtain ⟨x, hx, rfl⟩ := List.mem_map.1 hy
  have := hn x (h.mem_iff.1 hx)
  simpa [T110] using this
theorem without_at {ws : List (Int × S29)} {p : Int × S29} {q : List (Int × S29)} (h : ws.Perm (p :: q)) (hs : (p :: q).Pairwise (fun p q => p.1 < q.1)) :
    ∃ ws' : List (Int × S29), (ws.map T110).filter (fun x => !(x.f0 == p.1)) = ws'.map T110 ∧ ws'.Perm q := by
  refine ⟨ws.filter (fun x => !(x.1 == p.1)), ?_, ?_⟩
  · rw [List.filter_map]
    rfl
  · have h1 := h.filter (fun x => !(x.1 == p.1))
    have hq : q.filter (fun x => !(x.1 == p.1)) = q := List.filter_eq_self.2 (fun x hx => by
      have := (List.pairwise_cons.1 hs).1 x hx
      have : x.1 ≠ p.1 := by omega
      simpa using this)
    rw [List.filter_cons_of_neg (by simp), hq] at h1
    exact h1
/-- The first place for which a piece waits. -/
theorem first_f (a0 : Bool) (a1 a2 : Int) (l3 : List Int) (a5 a6 : Int) (l7 : List Int) (l8 : List S106) {ws wt : List (Int × S29)} (h : ws.Perm wt) (hs : wt.Pairwise (fun p q => p.1 < q.1)) (hK : ∀ x ∈ wt, x.1 ≤ 1000000000000) (hx : ws.length ≤ 100000000) :
    marlineref24_first.f ((ws.map T110).length + 1) a0 a1 a2 l3 (ws.map T110) a5 a6 l7 l8 = some (match wt with | [] => 4611686018427387904 | p :: _ => p.1) := by
  obtain ⟨v, hv, h3, h4, h5⟩ := first_l0 a0 a1 a2 l3 (ws.map T110) a5 a6 l7 l8 (by simpa using hx) (ws.map T110) 0 4611686018427387904 rfl ((ws.map T110).length + 1) (by omega)
  have hv' : marlineref24_first.f ((ws.map T110).length + 1) a0 a1 a2 l3 (ws.map T110) a5 a6 l7 l8 = some v := hv
  rw [hv']
  cases wt with
  | nil =>
    have e : ws = [] := List.perm_nil.1 h
    subst e
    rcases h3 with e | ⟨x, hx, _⟩
    · rw [e]
    · simp at hx
  | cons p q =>
    have hm : p ∈ ws := h.mem_iff.2 (by simp)
    have h6 : v ≤ p.1 := h5 (T110 p) (List.mem_map.2 ⟨p, hm, rfl⟩)
    have h7 := hK p (by simp)
    rcases h3 with e | ⟨x, hx, e⟩
    · have h6' : v ≤ p.1 := h6
      omega
    · obtain ⟨y, hy, rfl⟩ := List.mem_map.1 hx
      have : p.1 ≤ y.1 := by
        rcases List.mem_cons.1 (h.mem_iff.1 hy) with e | e
        · rw [e]; exact Int.le_refl _
        · exact Int.le_of_lt ((List.pairwise_cons.1 hs).1 y e)
      have e' : v = y.1 := e
      rw [show v = p.1 from Int.le_antisymm h6 (by rw [e']; exact this)]
end Go.Proofs.YtgopklnfdlnojaaDoor.Ld
namespace Go.Proofs.YtgopklnfdlnojaaDoor.Le
open Go.RowKit Go.Proofs.YtgopklnfdlnojaaDoor.Lz Go.Proofs.YtgopklnfdlnojaaDoor.La Go.Proofs.YtgopklnfdlnojaaDoor.Lb Go.Proofs.YtgopklnfdlnojaaDoor.Ga Go.Proofs.YtgopklnfdlnojaaDoor.My Go.Proofs.YtgopklnfdlnojaaDoor.Gb Go.Proofs.YtgopklnfdlnojaaDoor.Gp Go.Proofs.YtgopklnfdlnojaaDoor.Ja Go.Proofs.YtgopklnfdlnojaaDoor.Jb Go.Proofs.YtgopklnfdlnojaaDoor.Jc Go.Proofs.YtgopklnfdlnojaaDoor.Je Go.Proofs.YtgopklnfdlnojaaDoor.Ka Go.Proofs.YtgopklnfdlnojaaDoorW.PrintWords Go.Proofs.YtgopklnfdlnojaaDoorW.PrintLast Go.Proofs.YtgopklnfdlnojaaDoorW.PrintMore Go.Proofs.YtgopklnfdlnojaaDoor.Lc Go.Proofs.YtgopklnfdlnojaaDoor.Ld
set_option linter.unusedVariables false
set_option linter.unusedSimpArgs false

section
variable {W : World} {base : Nat} {P : Nat → Prop} {vl vw vd vt : Value} {ws : List (Int × S29)} {J : Jn}
theorem DV.opened (h : DV W base P vl vw vd vt ws J) : ∃ Al cl Aw cw Ad cd At ct, vl = .slice Al J.last.length cl ∧ vw = .slice Aw (ws.map T110).length cw ∧ vd = .slice Ad J.data.length cd ∧ vt = .slice At (J.evs.map T106).length ct ∧
    (J.last.length ≤ cl ∧ Kd.C (Kd.int .i64) W Al J.last.length J.last) ∧ ((ws.map T110).length ≤ cw ∧ Kd.C k110 W Aw (ws.map T110).length (ws.map T110)) ∧ (J.data.length ≤ cd ∧ Kd.C (Kd.int .u8) W Ad J.data.length J.data) ∧ ((J.evs.map T106).length ≤ ct ∧ Kd.C k106 W At (J.evs.map T106).length (J.evs.map T106)) := by
  obtain ⟨Al, cl, rfl⟩ := Kd.V_slice h.last
  obtain ⟨Aw, cw, rfl⟩ := Kd.V_slice h.wait
  obtain ⟨Ad, cd, rfl⟩ := Kd.V_slice h.data
  obtain ⟨At, ct, rfl⟩ := Kd.N_slice h.told
  exact ⟨Al, cl, Aw, cw, Ad, cd, At, ct, rfl, rfl, rfl, rfl, (Kd.V_reads' h.last).2, (Kd.V_reads' h.wait).2, (Kd.V_reads' h.data).2, (Kd.N_reads' h.told).2⟩
theorem at_doc (h : DV W base P vl vw vd vt ws J) (hx : ws.length ≤ 100000000) (n : Int) {r1 r2 : Bool} {r3 : Int} {r4 : List Int} {r5 : Bool} (hr : atR ((ws.map T110).find? (fun x => x.f0 == n)) = some (r1, r2, r3, r4, r5)) :
    Calls Tryd.prog 49 #[dagg J vl vw vd vt, .int .i64 n] W fun e W' => ∃ A c, e = .returned (.tuple #[pc r1 r2 r3 A r4.length c, .bool r5]) ∧ Kd.V (Kd.int .u8) 5 W' base (fun k => (P k ∧ some k ≠ vt.ownBlock) ∨ W.heap.size ≤ k) (.slice A r4.length c) r4 ∧ Below W.heap.size W W' := by
  have hw := h.wait
  obtain ⟨Al, cl, Aw, cw, Ad, cd, At, ct, rfl, rfl, rfl, rfl, ⟨l1, l2⟩, ⟨w1, w2⟩, ⟨d1, d2⟩, ⟨t1, t2⟩⟩ := DV.opened h
  have hf := at_f n true J.room J.most J.last (ws.map T110) J.next J.mode J.data (J.evs.map T106) (by simpa using hx)
  rw [hr] at hf
  refine (marlineref24_at.calls _ true J.room J.most Al cl J.last (fun k => P k ∧ some k ≠ (Value.slice At (J.evs.map T106).length ct).ownBlock) Aw cw (ws.map T110) J.next J.mode Ad cd J.data At ct (J.evs.map T106) n r1 r2 r3 r4 r5 W l2 l1 hw d2 d1 t2 t1 hf).mono ?_
  rintro e w' ⟨v3, rfl, hv, hb⟩
  obtain ⟨A, c, rfl⟩ := Kd.V_slice hv
  exact ⟨A, c, rfl, hv, hb⟩
theorem without_doc (h : DV W base P vl vw vd vt ws J) (hx : ws.length ≤ 100000000) (n : Int) {ws' : List (Int × S29)} (hr : (ws.map T110).filter (fun x => !(x.f0 == n)) = ws'.map T110) :
    Calls Tryd.prog 53 #[vw, .int .i64 n] W fun e W' => ∃ A m c, e = .returned (.slice A m c) ∧ Kd.V k110 110 W' base (fun k => (P k ∧ some k ≠ vt.ownBlock) ∨ W.heap.size ≤ k) (.slice A m c) (ws'.map T110) ∧ Below W.heap.size W W' := by
  have hw := h.wait
  obtain ⟨Aw, cw, rfl⟩ := Kd.V_slice h.wait
  have hf := without_f n (ws.map T110) (by simpa using hx)
  rw [hr] at hf
  refine (marlineref24_without.calls _ (fun k => P k ∧ some k ≠ vt.ownBlock) Aw cw (ws.map T110) n _ W hw hf).mono ?_
  rintro e w' ⟨v0, rfl, hv, hb⟩
  obtain ⟨A, c, rfl⟩ := Kd.N_slice hv
  exact ⟨A, _, c, rfl, Kd.V_mk (Kd.N_reads' hv).2.1 (Kd.N_F hv), hb⟩
theorem first_doc (h : DV W base P vl vw vd vt ws J) (hs : J.wait.Pairwise (fun p q => p.1 < q.1)) (hK : ∀ x ∈ J.wait, x.1 ≤ 1000000000000) (hx : ws.length ≤ 100000000) :
    Calls Tryd.prog 46 #[dagg J vl vw vd vt] W fun e W' => e = .returned (.int .i64 (match J.wait with | [] => 4611686018427387904 | p :: _ => p.1)) ∧ Below W.heap.size W W' := by
  have hp := h.perm
  obtain ⟨Al, cl, Aw, cw, Ad, cd, At, ct, rfl, rfl, rfl, rfl, ⟨l1, l2⟩, ⟨w1, w2⟩, ⟨d1, d2⟩, ⟨t1, t2⟩⟩ := DV.opened h
  exact marlineref24_first.calls _ true J.room J.most Al cl J.last Aw cw (ws.map T110) J.next J.mode Ad cd J.data At ct (J.evs.map T106) _ W l2 l1 w2 w1 d2 d1 t2 t1 (first_f _ _ _ _ _ _ _ _ hp hs hK hx)
theorem least_doc (h : DV W base P vl vw vd vt ws J) (h0 : J.last ≠ []) (hx : J.last.length ≤ 100000000) :
    Calls Tryd.prog 55 #[vl] W fun e W' => e = .returned (.int .i64 (low J)) ∧ Below W.heap.size W W' := by
  obtain ⟨Al, cl, Aw, cw, Ad, cd, At, ct, rfl, rfl, rfl, rfl, ⟨l1, l2⟩, ⟨w1, w2⟩, ⟨d1, d2⟩, ⟨t1, t2⟩⟩ := DV.opened h
  refine (marlineref24_least.calls _ Al cl J.last _ W l2 l1 (least_f h0 hx)).mono ?_
  rintro e w' ⟨rfl, hd⟩
  exact ⟨rfl, hd.below⟩
end
theorem step_miss {J : Jn} (h : ∀ p q, J.wait = p :: q → p.1 ≠ J.next) : stepJ J = if finJ J ≤ J.next then none else some (lostJ J (finJ J)) := by
  unfold stepJ finJ
  cases hw : J.wait with
  | nil => rfl
  | cons p q => simp only [if_neg (h p q hw)]

set_option maxHeartbeats 1000000 in
set_option maxRecDepth 100000 in
theorem run_doc (W : World) (base : Nat) (P : Nat → Prop) (vl vw vd vt : Value) (ws : List (Int × S29)) (J : Jn) (K : Int) (h : DV W base P vl vw vd vt ws J) (ok : OkJ J K) (hK : K ≤ 1000000000000) (hP : ∀ k, W.heap.size ≤ k → P k) (hb : base ≤ W.heap.size) (hlen : J.evs.length + 2 * phi J ≤ 80000) (hll : J.last.length ≤ 100) :
    Calls Tryd.prog 44 #[dagg J vl vw vd vt] W fun e W' => ∃ vw' vd' vt' ws', e = .returned (dagg (runJ J) vl vw' vd' vt') ∧
      DV W' base P vl vw' vd' vt' ws' (runJ J) ∧ Kept W W' (fun k => some k = vt.ownBlock) ∧ (∀ k, k < W.heap.size → some k = vt'.ownBlock → some k = vt.ownBlock) ∧ Below base W W' := by
  obtain ⟨Al, nl, cl, rfl⟩ := V_sl h.last
  obtain ⟨Aw, nw, cw, rfl⟩ := V_sl h.wait
  obtain ⟨Ad, nd, cd, rfl⟩ := V_sl h.data
  obtain ⟨At, nt, ct, rfl⟩ := N_sl h.told
  have hu63 := Tryd.underlying63
  have HJ := Aside0.mk h
  have HOK := Aside0.mk ok
  have HPP := Aside0.mk hP
  have HLEN := Aside0.mk hlen
  have HLL := Aside0.mk hll
  clear h ok hP hlen hll
  go_enter Tryd.func44, Tryd.ntmps44
  go_upto_block 0 with (fail)
  obtain ⟨hB1, hB2, hBl, hsz⟩ := two_new W (.cells (dcells J (.slice Al nl cl) (.slice Aw nw cw) (.slice Ad nd cd) (.slice At nt ct)).toArray 63) (.cells zcells 63)
  obtain ⟨g1, hg1⟩ : ∃ g, W.heap.size = g := ⟨_, rfl⟩
  have hs0 : W.heap.size ≤ g1 := by omega
  rw [hg1] at hB1 hB2
  simp only [hg1]
  obtain ⟨g2, hg2⟩ : ∃ g, g1 + 1 = g := ⟨_, rfl⟩
  rw [hg2] at hB2
  simp only [hg2]
  have hdj := DJ.start HJ.out HPP.out hb hBl hB1 hB2 hs0 (by omega) (by omega)
  clear hB1 hB2 hBl hsz hs0 hg1 hg2
  generalize (W.alloc (.cells (dcells J (.slice Al nl cl) (.slice Aw nw cw) (.slice Ad nd cd) (.slice At nt ct)).toArray 63)).alloc (.cells zcells 63) = W1 at hdj ⊢
  have HD := Aside0.mk hdj
  clear hdj
  go_wp2_with (fail)
  go_loopg [4] (phi J) (fun k v4 wr => Aside0 (∃ vw1 vd1 vt1 ws1 J1, k = phi J1 ∧ DJ W wr base P g1 g2 (Value.slice At nt ct).ownBlock (.slice Al nl cl) vw1 vd1 vt1 ws1 J1 ∧ OkJ J1 K ∧ runJ J1 = runJ J ∧ J1.evs.length + 2 * phi J1 ≤ J.evs.length + 2 * phi J ∧ J1.last = J.last))
  case atStart => exact ⟨_, _, _, ws, J, rfl, HD.out, HOK.out, rfl, Nat.le_refl _, rfl⟩
  case round =>
    obtain ⟨vw1, vd1, vt1, ws1, J1, rfl, hd1, hok1, hrun, hlen1, hlast⟩ := hrel.out
    clear hrel HD
    obtain ⟨Aw1, nw1, cw1, rfl⟩ := V_sl hd1.dv.wait
    obtain ⟨Ad1, nd1, cd1, rfl⟩ := V_sl hd1.dv.data
    obtain ⟨At1, nt1, ct1, rfl⟩ := N_sl hd1.dv.told
    have hwl : ws1.length ≤ 100000 := by
      have h1 := hd1.dv.perm.length_eq
      have h2 : 3 * J1.wait.length ≤ phi J1 := by unfold phi; omega
      have := HLEN.out
      omega
    have hn1 : IntKind.i64.wrap (J1.next + 1) = J1.next + 1 := IntWalk.i64_in _ (by have := hok1.next0; have := hok1.nextK; omega)
    have hD1 := Aside0.mk hd1
    have HOK1 := Aside0.mk hok1
    have HR1 := Aside0.mk (And.intro hrun (And.intro hlen1 hlast))
    have HWL := Aside0.mk hwl
    clear hd1 hok1 hrun hlen1 hlast hwl
    obtain ⟨c0, c1, c2, c3, c4, c5, c6, c7, c8⟩ := hD1.out.cells
    have fx : ∀ j, wr.frozen? ⟨g1, j, none⟩ = false := hD1.out.fz
    by_cases hit : ∃ p q, J1.wait = p :: q ∧ p.1 = J1.next
    · obtain ⟨p, q, hw, hp⟩ := hit
      have hsort := HOK1.out.sort
      rw [hw] at hsort
      have hperm := hD1.out.dv.perm
      rw [hw] at hperm
      have hat := at_doc hD1.out.dv (by have := HWL.out; omega) J1.next (r1 := p.2.f0) (r2 := p.2.f1) (r3 := p.2.f2) (r4 := p.2.f3) (r5 := true) (by rw [← hp, find_at hperm hsort]; rfl)
      obtain ⟨ws2, hws2, hws3⟩ := without_at hperm hsort
      have HW := Aside0.mk (And.intro hw (And.intro hp (And.intro hws2 hws3)))
      clear hw hp hsort hperm hws2 hws3
      go_upto_region 2 with (first
        | (go_at_call 49; refine hat.mono ?_; rintro e w2 ⟨A, c, rfl, hv, hbb⟩; have HV := Aside0.mk hv; have HB2 := Aside0.mk hbb; clear hv hbb))
      obtain ⟨hw, hp, hws2, hws3⟩ := HW.out
      have hpk := HOK1.out.waitK p (by rw [hw]; simp)
      have hne3 := blk_lt (hD1.out.below HB2.out).b1
      have hne4 := blk_lt (hD1.out.below HB2.out).b2
      have hdp : DP W (w2.alloc (.cells #[.bool p.2.f0, .bool p.2.f1, .int .i64 p.2.f2, .slice A p.2.f3.length c] 24)) base P g1 g2 w2.heap.size (Value.slice At nt ct).ownBlock (.slice Al nl cl) (.slice Aw1 nw1 cw1) (.slice Ad1 nd1 cd1) (.slice At1 nt1 ct1) ws1 J1 p.2 A c := by
        refine ⟨(hD1.out.below HB2.out).below (below_alloc (Below.refl _ _) _), new1 _ _, Kd.V_below (Kd.V_mono HV.out (fun k hk => ?_)) (below_alloc (Below.refl _ _) _), by omega, by omega⟩
        rcases hk with hk | hk
        · exact hk
        · refine ⟨hD1.out.hP2 k hk, fun e => ?_⟩
          have := Kd.N_lt hD1.out.dv.told k e.symm
          omega
      obtain ⟨g3, hg3⟩ : ∃ g, w2.heap.size = g := ⟨_, rfl⟩
      rw [hg3] at hdp
      simp only [hg3]
      clear hg3 hne3 hne4 hpk c0 c1 c2 c3 c4 c5 c6 c7 c8 fx HV hw hp hws2 hws3
      generalize w2.alloc (.cells #[.bool p.2.f0, .bool p.2.f1, .int .i64 p.2.f2, .slice A p.2.f3.length c] 24) = W3 at hdp ⊢
      have HDP := Aside0.mk hdp
      clear hdp HB2 hD1
      have hwo := without_doc HDP.out.dj.dv (by have := HWL.out; omega) J1.next (by rw [← HW.out.2.1]; exact HW.out.2.2.1)
      obtain ⟨-, -, -, -, c4, c5, -, -, -⟩ := HDP.out.dj.cells
      go_upto_region 4 with (first
        | (go_at_call 53; refine hwo.mono ?_; rintro e w4 ⟨A4, m4, c4', rfl, hv, hbb⟩; have HV := Aside0.mk hv; have HB4 := Aside0.mk hbb; have hb1 := (HDP.out.dj.below hbb).b1; have fx : ∀ j, w4.frozen? ⟨g1, j, none⟩ = false := fun j => blk_frozen hb1 j; obtain ⟨-, -, -, -, z4, -, -, -, -⟩ := cells9 hb1; clear hv hbb hb1))
      have hdp5 : DP W (w4.setCell ⟨g1, 4, none⟩ (.slice A4 m4 c4')) base P g1 g2 g3 (Value.slice At nt ct).ownBlock (.slice Al nl cl) (.slice A4 m4 c4') (.slice Ad1 nd1 cd1) (.slice At1 nt1 ct1) ws2 { J1 with wait := q } p.2 A c := by
        refine (HDP.out.below HB4.out).put ((HDP.out.below HB4.out).dj.setWait _ ws2 q HW.out.2.2.2 (Kd.V_mono HV.out (fun k hk => ?_)))
        rcases hk with hk | hk
        · exact hk
        · refine ⟨HDP.out.dj.hP2 k hk, fun e => ?_⟩
          have := Kd.N_lt HDP.out.dj.dv.told k e.symm
          omega
      clear c4 c5 z4 fx HV
      generalize w4.setCell ⟨g1, 4, none⟩ (.slice A4 m4 c4') = W5 at hdp5 ⊢
      have HDP5 := Aside0.mk hdp5
      clear hdp5 HDP HB4
      have hpk := HOK1.out.waitK p (by rw [HW.out.1]; simp)
      have hth := through_any W5 base (Not2 P g1 g2) (.slice Al nl cl) (.slice A4 m4 c4') (.slice Ad1 nd1 cd1) (.slice At1 nt1 ct1) ws2 { J1 with wait := q } p.2 A c HDP5.out.dj.dv HDP5.out.pv HDP5.out.dj.hP2 HDP5.out.dj.hbW
        (by have := HR1.out.2.1; have := HLEN.out; show J1.evs.length ≤ 100000; omega) (by have := HOK1.out.data; have := HOK1.out.most; have h3 := hpk.2.2; show J1.data.length + p.2.f3.length ≤ 10000000; omega)
      obtain ⟨J6, hJ6⟩ : ∃ x, pieceJ { J1 with wait := q } J1.next p.2 = x := ⟨_, rfl⟩
      simp only [hJ6] at hth
      have HJ6 := Aside0.mk hJ6
      clear hpk hJ6
      obtain ⟨c0, c1, c2, c3, c4, c5, c6, c7, c8⟩ := HDP5.out.dj.cells
      obtain ⟨p0, p1, p2, p3⟩ := HDP5.out.cells
      go_upto_region 5 with (first
        | (go_at_call 54; refine hth.mono ?_; rintro e w6 ⟨vd6, vt6, rfl, hdv6, hk6, ho6, hb6⟩; obtain ⟨Ad6, nd6, cd6, rfl⟩ := V_sl hdv6.data; obtain ⟨At6, nt6, ct6, rfl⟩ := N_sl hdv6.told; have hg6 := (hk6.2 g1 (blk_lt HDP5.out.dj.b1) HDP5.out.dj.told_ne.1).trans HDP5.out.dj.b1; have fx : ∀ j, w6.frozen? ⟨g1, j, none⟩ = false := fun j => blk_frozen hg6 j; obtain ⟨z0, z1, z2, z3, z4, z5, z6, z7, z8⟩ := cells9 hg6; have HX6 := Aside0.mk (And.intro hdv6 (And.intro hk6 (And.intro ho6 hb6))); clear hdv6 hk6 ho6 hb6 hg6))
      obtain ⟨hdv6, hk6, ho6, hb6⟩ := HX6.out
      have hdj7 := HDP5.out.dj.store hdv6 hk6 ho6 hb6
      clear c0 c1 c2 c3 c4 c5 c6 c7 c8 p0 p1 p2 p3 z0 z1 z2 z3 z4 z5 z6 z7 z8 fx hdv6 hk6 ho6 hb6
      generalize (((((((((w6.setCell ⟨g1, 0, none⟩ (.bool true)).setCell ⟨g1, 1, none⟩ (.int .i64 J6.room)).setCell ⟨g1, 2, none⟩ (.int .i64 J6.most)).setCell ⟨g1, 3, none⟩ (.slice Al nl cl)).setCell ⟨g1, 4, none⟩ (.slice A4 m4 c4')).setCell ⟨g1, 5, none⟩ (.int .i64 J6.next)).setCell ⟨g1, 6, none⟩ (.int .i64 J6.mode)).setCell ⟨g1, 7, none⟩ (.slice Ad6 nd6 cd6)).setCell ⟨g1, 8, none⟩ (.slice At6 nt6 ct6)) = W7 at hdj7 ⊢
      have HD7 := Aside0.mk hdj7
      clear hdj7 HDP5 HX6
      have hnx : J6.next = J1.next := by rw [← HJ6.out, pieceJ_next]
      obtain ⟨-, -, -, -, -, c5, -, -, -⟩ := HD7.out.cells
      rw [hnx] at c5
      have HNX := Aside0.mk hnx
      clear hnx
      have fx : ∀ j, W7.frozen? ⟨g1, j, none⟩ = false := HD7.out.fz
      have hpop : popJ J1 p.2 q = { J6 with next := J1.next + 1 } := by rw [popJ, HJ6.out]
      have hst : stepJ J1 = some (popJ J1 p.2 q) := by
        unfold stepJ
        rw [HW.out.1]
        simp only [if_pos HW.out.2.1]
      have hso := step_ok HOK1.out hst
      have HST := Aside0.mk (And.intro hpop (And.intro hst hso))
      clear hpop hst hso
      go_wp2
      obtain ⟨hpop, hst, s1, s2, s3, s4, s5, s6, s7, s8⟩ := HST.out
      go_roundg (phi (popJ J1 p.2 q))
      case measure => exact s2
      case rel =>
        have hset := HD7.out.setNext (J1.next + 1)
        rw [← hpop] at hset
        exact ⟨⟨_, _, _, ws2, popJ J1 p.2 q, rfl, hset, s1, (run_step HOK1.out hst).symm.trans HR1.out.1, by have := HR1.out.2.1; omega, s7.trans HR1.out.2.2⟩⟩
    · have hmiss : ∀ p q, J1.wait = p :: q → p.1 ≠ J1.next := fun p q h1 h2 => hit ⟨p, q, h1, h2⟩
      clear hit
      have hnone : ∀ x ∈ J1.wait, x.1 ≠ J1.next := by
        intro x hx
        cases hw : J1.wait with
        | nil => rw [hw] at hx; cases hx
        | cons p q =>
          have h1 := hmiss p q hw
          have h2 := (HOK1.out.waitK p (by rw [hw]; simp)).1
          rw [hw] at hx
          rcases List.mem_cons.1 hx with e | e
          · rw [e]; exact h1
          · have h3 := HOK1.out.sort
            rw [hw] at h3
            have := (List.pairwise_cons.1 h3).1 x e
            omega
      have hat := at_doc hD1.out.dv (by have := HWL.out; omega) J1.next (r1 := false) (r2 := false) (r3 := 0) (r4 := []) (r5 := false) (by rw [find_none hD1.out.dv.perm hnone]; rfl)
      have hstm := step_miss hmiss
      have HSTM := Aside0.mk hstm
      clear hstm hnone hmiss
      go_upto_region 2 with (first
        | (go_at_call 49; refine hat.mono ?_; rintro e w2 ⟨A, c, rfl, hv, hbb⟩; have HB2 := Aside0.mk hbb; clear hv hbb))
      have hdj3 := (hD1.out.below HB2.out).below (below_alloc (Below.refl _ w2) (.cells #[.bool false, .bool false, .int .i64 0, .slice A 0 c] 24))
      obtain ⟨g3, hg3⟩ : ∃ g, w2.heap.size = g := ⟨_, rfl⟩
      simp only [hg3]
      clear hg3 c0 c1 c2 c3 c4 c5 c6 c7 c8 fx HB2
      generalize w2.alloc (.cells #[.bool false, .bool false, .int .i64 0, .slice A 0 c] 24) = W3 at hdj3 ⊢
      have HD3 := Aside0.mk hdj3
      clear hdj3 hD1
      have hlo := HOK1.out.low
      have hl1 : IntKind.i64.wrap (low J1 + 1) = low J1 + 1 := IntWalk.i64_in _ (by omega)
      have hle := least_doc HD3.out.dv HOK1.out.last0 (by rw [HR1.out.2.2]; have := HLL.out; omega)
      clear hlo
      obtain ⟨-, -, -, c3, -, -, -, -, -⟩ := HD3.out.cells
      go_upto_region 7 with (first
        | (go_at_call 55; refine hle.mono ?_; rintro e w4 ⟨rfl, hb4⟩; have HD4 := Aside0.mk (HD3.out.below hb4); clear hb4))
      have hfi := first_doc HD4.out.dv HOK1.out.sort (fun x hx => by have := (HOK1.out.waitK x hx).2.1; omega) (by have := HWL.out; omega)
      obtain ⟨fv, hfv⟩ : ∃ fv : Int, (match J1.wait with | [] => 4611686018427387904 | p :: _ => p.1) = fv := ⟨_, rfl⟩
      rw [hfv] at hfi
      have hfin : finJ J1 = if fv < low J1 + 1 then fv else low J1 + 1 := by
        unfold finJ
        cases hw : J1.wait with
        | nil =>
          rw [hw] at hfv
          have : fv = 4611686018427387904 := hfv.symm
          have h2 := HOK1.out.low
          rw [if_neg (by omega)]
        | cons p q =>
          rw [hw] at hfv
          have : p.1 = fv := hfv
          show min (low J1 + 1) p.1 = _
          rw [this]
          split <;> omega
      have HFIN := Aside0.mk hfin
      clear hfv hfin c3
      obtain ⟨c0, c1, c2, c3, c4, c5, c6, c7, c8⟩ := HD4.out.cells
      go_upto_if 36 with (first
        | (go_at_call 46; refine hfi.mono ?_; rintro e w5 ⟨rfl, hb5⟩; have HD5 := Aside0.mk (HD4.out.below hb5); clear hb5))
      clear c0 c1 c2 c3 c4 c5 c6 c7 c8 hle hfi hat
      go_cut [5] (fun v5 wc => v5 = .int .i64 (finJ J1) ∧ wc = w5)
      case first =>
        by_cases hlt : fv < low J1 + 1
        · have hd : decide (fv < low J1 + 1) = true := decide_eq_true hlt
          have HLT := Aside0.mk hlt
          simp only [hd]
          clear hlt
          go_wp2
          go_meet
          refine ⟨?_, rfl⟩
          rw [HFIN.out, if_pos (by have := HLT.out; omega)]
        · have hd : decide (fv < low J1 + 1) = false := decide_eq_false hlt
          have HLT := Aside0.mk hlt
          simp only [hd]
          clear hlt
          go_wp2
          go_meet
          refine ⟨?_, rfl⟩
          rw [HFIN.out, if_neg (by have := HLT.out; omega)]
      case rest =>
        obtain ⟨rfl, rfl⟩ := hcut
        obtain ⟨W5, hW5⟩ : ∃ V, V = wc := ⟨_, rfl⟩
        subst hW5
        obtain ⟨fin, hfin⟩ : ∃ f, finJ J1 = f := ⟨_, rfl⟩
        rw [hfin] at HSTM
        simp only [hfin]
        have hfb : J1.next ≤ K + 1 ∧ 0 ≤ J1.next ∧ -2 ≤ fin ∧ fin ≤ K + 1 := by
          have h1 := HOK1.out.low
          have h2 := HOK1.out.next0
          have h3 := HOK1.out.nextK
          have h4 := HFIN.out
          rw [hfin] at h4
          refine ⟨h3, h2, ?_, by split at h4 <;> omega⟩
          unfold finJ at hfin
          cases hw : J1.wait with
          | nil => rw [hw] at hfin; simp only at hfin; omega
          | cons p q =>
            have h5 := (HOK1.out.waitK p (by rw [hw]; simp)).1
            rw [hw] at hfin
            simp only at hfin
            omega
        have hwr : IntKind.i64.wrap (fin - J1.next) = fin - J1.next := IntWalk.i64_in _ (by omega)
        have HFB := Aside0.mk hfb
        clear hfb hfin HFIN HD4 HD3
        obtain ⟨c0, c1, c2, c3, c4, c5, c6, c7, c8⟩ := HD5.out.cells
        by_cases hle : fin ≤ J1.next
        · have hd : decide (fin ≤ J1.next) = true := decide_eq_true hle
          have hst : stepJ J1 = none := by rw [HSTM.out, if_pos hle]
          have hre : runJ J = J1 := by rw [← HR1.out.1, run_none hst]
          have HRE := Aside0.mk hre
          clear hle hst hre
          have fy : ∀ j, W5.frozen? ⟨g2, j, none⟩ = false := fun j => blk_frozen HD5.out.b2 j
          obtain ⟨y0, y1, y2, y3, y4, y5, y6, y7, y8⟩ := cells9 HD5.out.b2
          have hne12 : g1 ≠ g2 := HD5.out.ne
          go_wp2
          obtain ⟨X, hX⟩ : ∃ X, (((((((((W5.setCell ⟨g2, 0, none⟩ (.bool true)).setCell ⟨g2, 1, none⟩ (.int .i64 J1.room)).setCell ⟨g2, 2, none⟩ (.int .i64 J1.most)).setCell ⟨g2, 3, none⟩ (.slice Al nl cl)).setCell ⟨g2, 4, none⟩ (.slice Aw1 nw1 cw1)).setCell ⟨g2, 5, none⟩ (.int .i64 J1.next)).setCell ⟨g2, 6, none⟩ (.int .i64 J1.mode)).setCell ⟨g2, 7, none⟩ (.slice Ad1 nd1 cd1)).setCell ⟨g2, 8, none⟩ (.slice At1 nt1 ct1)) = X := ⟨_, rfl⟩
          obtain ⟨r1, r2, r3, r4, r5⟩ := HD5.out.answer hX.symm
          obtain ⟨x0, x1, x2, x3, x4, x5, x6, x7, x8⟩ := cells9 r1
          rw [hX]
          rw [HRE.out]
          refine bodyPost_ret (v := dagg J1 (.slice Al nl cl) (.slice Aw1 nw1 cw1) (.slice Ad1 nd1 cd1) (.slice At1 nt1 ct1)) (by simp [results, Tryd.results44, go_sem, x0, x1, x2, x3, x4, x5, x6, x7, x8]) rfl ?_
          exact ⟨_, _, _, _, rfl, r2, r3, r4, r5⟩
        · have hd : decide (fin ≤ J1.next) = false := decide_eq_false hle
          have hst : stepJ J1 = some (lostJ J1 fin) := by rw [HSTM.out, if_neg hle]
          have hso := step_ok HOK1.out hst
          have HST := Aside0.mk (And.intro hst hso)
          clear hle hst hso
          have hla := lack_any W5 base (Not2 P g1 g2) (.slice Al nl cl) (.slice Aw1 nw1 cw1) (.slice Ad1 nd1 cd1) (.slice At1 nt1 ct1) ws1 J1 fin HD5.out.dv HD5.out.hP2 HD5.out.hbW (by have := HR1.out.2.1; have := HLEN.out; omega) hwr
          obtain ⟨J6, hJ6⟩ : ∃ x, lostJ J1 fin = x := ⟨_, rfl⟩
          rw [hJ6] at hla HST
          clear hJ6 hwr
          go_wp2_with (first
            | (go_at_call 45; refine hla.mono ?_; rintro e w6 ⟨vt6, rfl, hdv6, hk6, ho6, hb6⟩; obtain ⟨At6, nt6, ct6, rfl⟩ := N_sl hdv6.told; have hg6 := (hk6.2 g1 (blk_lt HD5.out.b1) HD5.out.told_ne.1).trans HD5.out.b1; have fx : ∀ j, w6.frozen? ⟨g1, j, none⟩ = false := fun j => blk_frozen hg6 j; obtain ⟨z0, z1, z2, z3, z4, z5, z6, z7, z8⟩ := cells9 hg6; have HX6 := Aside0.mk (And.intro hdv6 (And.intro hk6 (And.intro ho6 hb6))); clear hdv6 hk6 ho6 hb6 hg6))
          obtain ⟨hdv6, hk6, ho6, hb6⟩ := HX6.out
          have hdj7 := HD5.out.store hdv6 hk6 ho6 hb6
          obtain ⟨hst, s1, s2, s3, s4, s5, s6, s7, s8⟩ := HST.out
          go_roundg (phi J6)
          case measure => exact s2
          case rel => exact ⟨⟨_, _, _, ws1, J6, rfl, hdj7, s1, (run_step HOK1.out hst).symm.trans HR1.out.1, by have := HR1.out.2.1; omega, s7.trans HR1.out.2.2⟩⟩
end Go.Proofs.YtgopklnfdlnojaaDoor.Le
namespace Go.Proofs.YtgopklnfdlnojaaDoor.Lf
open Go.RowKit Go.Proofs.YtgopklnfdlnojaaDoor.Lz Go.Proofs.YtgopklnfdlnojaaDoor.La Go.Proofs.YtgopklnfdlnojaaDoor.Lb Go.Proofs.YtgopklnfdlnojaaDoor.Ga Go.Proofs.YtgopklnfdlnojaaDoor.My Go.Proofs.YtgopklnfdlnojaaDoor.Gb Go.Proofs.YtgopklnfdlnojaaDoor.Gp Go.Proofs.YtgopklnfdlnojaaDoor.Ja Go.Proofs.YtgopklnfdlnojaaDoor.Jb Go.Proofs.YtgopklnfdlnojaaDoor.Jc Go.Proofs.YtgopklnfdlnojaaDoor.Je Go.Proofs.YtgopklnfdlnojaaDoor.Ka Go.Proofs.YtgopklnfdlnojaaDoorW.PrintWords Go.Proofs.YtgopklnfdlnojaaDoorW.PrintLast Go.Proofs.YtgopklnfdlnojaaDoorW.PrintMore Go.Proofs.YtgopklnfdlnojaaDoor.Lc Go.Proofs.YtgopklnfdlnojaaDoor.Ld Go.Proofs.YtgopklnfdlnojaaDoor.Le Go.Proofs.YtgopklnfdlnojaaDoor.Jg
set_option linter.unusedVariables false
set_option linter.unusedSimpArgs false

section
variable {W0 W W' : World} {base g1 g2 : Nat} {P : Nat → Prop} {u : Option Nat} {vl vw vd vt : Value} {ws : List (Int × S29)} {J : Jn}
/-- What was told is forgotten. -/
theorem DJ.clear (h : DJ W0 W base P g1 g2 u vl vw vd vt ws J) (hB : Below W0.heap.size W0 W) : DJ W0 (W.setCell ⟨g1, 8, none⟩ (.slice none 0 0)) base P g1 g2 none vl vw vd (.slice none 0 0) ws { J with evs := [] } := by
  have hk : Kept W (W.setCell ⟨g1, 8, none⟩ (.slice none 0 0)) (fun k => k = g1 ∨ k = g2) := ⟨by simp [World.setCell], fun k _ hs => far_cell W g1 8 k _ (fun e => hs (.inl e))⟩
  have hdv : DV W base (Not2 P g1 g2) vl vw vd (.slice none 0 0) ws { J with evs := [] } :=
    ⟨h.dv.perm, h.dv.nm, Kd.V_mono h.dv.last (fun k hk => ⟨hk.1, by simp [Value.ownBlock]⟩), Kd.V_mono h.dv.wait (fun k hk => ⟨hk.1, by simp [Value.ownBlock]⟩), Kd.V_mono h.dv.data (fun k hk => ⟨hk.1, by simp [Value.ownBlock]⟩), Kd.N_nil _ _ _ _ _⟩
  refine ⟨by have := blk_set h.b1 8 (.slice none 0 0); simpa using this, (far_cell W g1 8 g2 _ (fun e => h.ne e.symm)).trans h.b2, h.new1, h.new2, h.ne, hdv.kept hk (fun k hk => hk.2), ?_, fun k _ e => by simp [Value.ownBlock] at e, h.bel.setCell (p := ⟨g1, 8, none⟩) (Nat.le_trans h.hb h.new1) _, h.hb, h.hP⟩
  exact (Kept.of_below hB _).setCell (p := ⟨g1, 8, none⟩) (.inr h.new1) _
theorem first_at (h : DV W base P vl vw vd vt ws J) (hs : J.wait.Pairwise (fun p q => p.1 < q.1)) (hK : ∀ x ∈ J.wait, x.1 ≤ 1000000000000) (hx : ws.length ≤ 100000000) {p : Int × S29} {q : List (Int × S29)} (hw : J.wait = p :: q) :
    Calls Tryd.prog 46 #[dagg J vl vw vd vt] W fun e W' => e = .returned (.int .i64 p.1) ∧ Below W.heap.size W W' := by
  refine (first_doc h hs hK hx).mono ?_
  rintro e w ⟨rfl, hb⟩
  rw [hw]
  exact ⟨rfl, hb⟩
theorem keep9 (w : World) {g1 g2 : Nat} (hne : g1 ≠ g2) {v0 v1 v2 v3 v4 v5 v6 v7 v8 : Value} {j : Nat} {x : Value} (h : w.cell? ⟨g1, j, none⟩ = some x) :
    (((((((((w.setCell ⟨g2, 0, none⟩ v0).setCell ⟨g2, 1, none⟩ v1).setCell ⟨g2, 2, none⟩ v2).setCell ⟨g2, 3, none⟩ v3).setCell ⟨g2, 4, none⟩ v4).setCell ⟨g2, 5, none⟩ v5).setCell ⟨g2, 6, none⟩ v6).setCell ⟨g2, 7, none⟩ v7).setCell ⟨g2, 8, none⟩ v8).cell? ⟨g1, j, none⟩ = some x := by
  have hf : ∀ (W : World) (i : Nat) (u : Value), (W.setCell ⟨g2, i, none⟩ u).cell? ⟨g1, j, none⟩ = W.cell? ⟨g1, j, none⟩ := fun W i u => cell_far hne u
  rw [hf, hf, hf, hf, hf, hf, hf, hf, hf]
  exact h
theorem kept_none {W0 W : World} {base : Nat} (hk : Kept W0 W (fun k => some k = none)) (hb : Below base W0 W) : Below W0.heap.size W0 W :=
  ⟨hb.os, hb.tape, hb.output, hk.1, fun k h => hk.2 k h (by simp)⟩
end

set_option maxHeartbeats 1000000 in
set_option maxRecDepth 100000 in
theorem flush_doc (W : World) (base : Nat) (P : Nat → Prop) (vl vw vd vt : Value) (ws : List (Int × S29)) (J : Jn) (K : Int) (h : DV W base P vl vw vd vt ws J) (ok : OkJ { J with evs := [] } K) (hst : stepJ { J with evs := [] } = none) (hK : K ≤ 1000000000000) (hP : ∀ k, W.heap.size ≤ k → P k) (hb : base ≤ W.heap.size) (hlen : 2 * phi { J with evs := [] } ≤ 80000) (hll : J.last.length ≤ 100) :
    Calls Tryd.prog 30 #[dagg J vl vw vd vt] W fun e W' => ∃ vw' vd' vt' ws', e = .returned (.tuple #[dagg (thinJ 0 { J with evs := [] }) vl vw' vd' vt', vt']) ∧
      DV W' base P vl vw' vd' vt' ws' (thinJ 0 { J with evs := [] }) ∧ Below W.heap.size W W' := by
  obtain ⟨Al, nl, cl, rfl⟩ := V_sl h.last
  obtain ⟨Aw, nw, cw, rfl⟩ := V_sl h.wait
  obtain ⟨Ad, nd, cd, rfl⟩ := V_sl h.data
  obtain ⟨At, nt, ct, rfl⟩ := N_sl h.told
  have hu63 := Tryd.underlying63
  have HJ := Aside0.mk h
  have HOK := Aside0.mk ok
  have HST := Aside0.mk hst
  have HPP := Aside0.mk hP
  have HLEN := Aside0.mk hlen
  have HLL := Aside0.mk hll
  clear h ok hst hP hlen hll
  go_enter Tryd.func30, Tryd.ntmps30
  go_upto_region 1 with (fail)
  obtain ⟨hB1, hB2, hBl, hsz⟩ := two_new W (.cells (dcells J (.slice Al nl cl) (.slice Aw nw cw) (.slice Ad nd cd) (.slice At nt ct)).toArray 63) (.cells zcells 63)
  obtain ⟨g1, hg1⟩ : ∃ g, W.heap.size = g := ⟨_, rfl⟩
  have hs0 : W.heap.size ≤ g1 := by omega
  rw [hg1] at hB1 hB2
  simp only [hg1]
  obtain ⟨g2, hg2⟩ : ∃ g, g1 + 1 = g := ⟨_, rfl⟩
  rw [hg2] at hB2
  simp only [hg2]
  have hdj := DJ.clear (DJ.start HJ.out HPP.out hb hBl hB1 hB2 hs0 (by omega) (by omega)) hBl
  obtain ⟨-, -, -, -, -, -, -, -, c8⟩ := cells9 hB1
  have fx : ∀ j, ((W.alloc (.cells (dcells J (.slice Al nl cl) (.slice Aw nw cw) (.slice Ad nd cd) (.slice At nt ct)).toArray 63)).alloc (.cells zcells 63)).frozen? ⟨g1, j, none⟩ = false := fun j => blk_frozen hB1 j
  clear hB1 hB2 hBl hsz hs0 hg1 hg2
  generalize (W.alloc (.cells (dcells J (.slice Al nl cl) (.slice Aw nw cw) (.slice Ad nd cd) (.slice At nt ct)).toArray 63)).alloc (.cells zcells 63) = W1 at hdj c8 fx ⊢
  have HD := Aside0.mk hdj
  clear hdj
  go_upto_block 0 with (fail)
  clear c8 fx
  generalize W1.setCell ⟨g1, 8, none⟩ (.slice none 0 0) = W2 at HD ⊢
  obtain ⟨J0, hJ0⟩ : ∃ q : Jn, { J with evs := [] } = q := ⟨_, rfl⟩
  have hlast0 : J0.last = J.last := by rw [← hJ0]
  have hevs0 : J0.evs = [] := by rw [← hJ0]
  have HL0 := Aside0.mk (And.intro hlast0 hevs0)
  simp only [hJ0] at HD HOK HST HLEN ⊢
  have HLL' := Aside0.mk (show J0.last.length ≤ 100 by rw [hlast0]; exact HLL.out)
  clear HLL
  have HLL := HLL'
  clear HLL'
  have HJ0 := Aside0.mk hJ0
  clear hJ0 hlast0 hevs0
  go_wp2_with (fail)
  go_loopg [] (J0.wait.length) (fun k wr => Aside0 (∃ vw1 vd1 vt1 ws1 J1, k = J1.wait.length ∧ DJ W wr base P g1 g2 none (.slice Al nl cl) vw1 vd1 vt1 ws1 J1 ∧ OkJ J1 K ∧ stepJ J1 = none ∧ thinJ 0 J1 = thinJ 0 J0 ∧ J1.evs.length + 2 * phi J1 ≤ 2 * phi J0 ∧ J1.last = J0.last))
  case atStart => exact ⟨_, _, _, ws, J0, rfl, HD.out, HOK.out, HST.out, rfl, by rw [HL0.out.2]; simp, rfl⟩
  case round =>
    obtain ⟨vw1, vd1, vt1, ws1, J1, rfl, hd1, hok1, hst1, hthin, hlen1, hlast⟩ := hrel.out
    clear hrel HD
    obtain ⟨Aw1, cw1, rfl⟩ := Kd.V_slice hd1.dv.wait
    rw [List.length_map, hd1.dv.perm.length_eq] at hd1
    obtain ⟨Ad1, nd1, cd1, rfl⟩ := V_sl hd1.dv.data
    obtain ⟨At1, nt1, ct1, rfl⟩ := N_sl hd1.dv.told
    have HD1 := Aside0.mk hd1
    have HX := Aside0.mk (And.intro hok1 (And.intro hst1 (And.intro hthin (And.intro hlen1 hlast))))
    clear hd1 hok1 hst1 hthin hlen1 hlast
    obtain ⟨c0, c1, c2, c3, c4, c5, c6, c7, c8⟩ := HD1.out.cells
    have fx : ∀ j, wr.frozen? ⟨g1, j, none⟩ = false := HD1.out.fz
    by_cases hz : J1.wait.length = 0
    · have e0 : decide (0 < J1.wait.length) = false := decide_eq_false (by omega)
      have HZ := Aside0.mk hz
      clear hz
      go_upto_region 4 with (fail)
      have fy : ∀ j, wr.frozen? ⟨g2, j, none⟩ = false := fun j => blk_frozen HD1.out.b2 j
      obtain ⟨y0, y1, y2, y3, y4, y5, y6, y7, y8⟩ := cells9 HD1.out.b2
      have hne12 : g1 ≠ g2 := HD1.out.ne
      go_region
      go_wp2
      obtain ⟨X, hX⟩ : ∃ X, (((((((((wr.setCell ⟨g2, 0, none⟩ (.bool true)).setCell ⟨g2, 1, none⟩ (.int .i64 J1.room)).setCell ⟨g2, 2, none⟩ (.int .i64 J1.most)).setCell ⟨g2, 3, none⟩ (.slice Al nl cl)).setCell ⟨g2, 4, none⟩ (.slice Aw1 J1.wait.length cw1)).setCell ⟨g2, 5, none⟩ (.int .i64 J1.next)).setCell ⟨g2, 6, none⟩ (.int .i64 J1.mode)).setCell ⟨g2, 7, none⟩ (.slice Ad1 nd1 cd1)).setCell ⟨g2, 8, none⟩ (.slice At1 nt1 ct1)) = X := ⟨_, rfl⟩
      obtain ⟨r1, r2, r3, r4, r5⟩ := HD1.out.answer hX.symm
      rw [hX]
      have r6 := below_drew (kept_none r3 r5)
      obtain ⟨x0, x1, x2, x3, x4, x5, x6, x7, x8⟩ := cells9 (W := X.drew) r1
      have r7 := r2.drew
      generalize X.drew = Y at r6 r7 x0 x1 x2 x3 x4 x5 x6 x7 x8 ⊢
      have hJe : thinJ 0 { J with evs := [] } = J1 := by rw [HJ0.out, ← HX.out.2.2.1]; exact thin_stop (by have := HZ.out; omega)
      rw [hJe]
      refine bodyPost_ret (v := .tuple #[dagg J1 (.slice Al nl cl) (.slice Aw1 J1.wait.length cw1) (.slice Ad1 nd1 cd1) (.slice At1 nt1 ct1), .slice At1 nt1 ct1]) (by simp [results, Tryd.results30, go_sem, x0, x1, x2, x3, x4, x5, x6, x7, x8]) rfl ?_
      exact ⟨_, _, _, _, rfl, r7, r6⟩
    · have e0 : decide (0 < J1.wait.length) = true := decide_eq_true (by omega)
      have HZ := Aside0.mk hz
      clear hz
      go_upto_region 3 with (fail)
      clear e0 fx c0 c1 c2 c3 c4 c5 c6 c7 c8
      refine AnyT.begin_ 5 (fun w' : World => w'.cell? ⟨g1, 0, none⟩ = some (.bool true) ∧ w'.cell? ⟨g1, 1, none⟩ = some (.int .i64 J1.room) ∧ w'.cell? ⟨g1, 2, none⟩ = some (.int .i64 J1.most) ∧ w'.cell? ⟨g1, 3, none⟩ = some (.slice Al nl cl) ∧ w'.cell? ⟨g1, 4, none⟩ = some (.slice Aw1 J1.wait.length cw1) ∧ w'.cell? ⟨g1, 5, none⟩ = some (.int .i64 J1.next) ∧ w'.cell? ⟨g1, 6, none⟩ = some (.int .i64 J1.mode) ∧ w'.cell? ⟨g1, 7, none⟩ = some (.slice Ad1 nd1 cd1) ∧ w'.cell? ⟨g1, 8, none⟩ = some (.slice At1 nt1 ct1)) (by kernel_rfl) ?_
      have HD6 := Aside0.mk (HD1.out.drewN 1)
      obtain ⟨W6, hW6⟩ : ∃ V, wr.drew = V := ⟨_, rfl⟩
      have hD6' : Aside0 (DJ W W6 base P g1 g2 none (.slice Al nl cl) (.slice Aw1 J1.wait.length cw1) (.slice Ad1 nd1 cd1) (.slice At1 nt1 ct1) ws1 J1) := ⟨by rw [← hW6]; exact HD6.out⟩
      rw [hW6]
      clear hW6 HD6 HD1
      have HD6 := hD6'
      clear hD6'
      have hS : (fun w' : World => w'.cell? ⟨g1, 0, none⟩ = some (.bool true) ∧ w'.cell? ⟨g1, 1, none⟩ = some (.int .i64 J1.room) ∧ w'.cell? ⟨g1, 2, none⟩ = some (.int .i64 J1.most) ∧ w'.cell? ⟨g1, 3, none⟩ = some (.slice Al nl cl) ∧ w'.cell? ⟨g1, 4, none⟩ = some (.slice Aw1 J1.wait.length cw1) ∧ w'.cell? ⟨g1, 5, none⟩ = some (.int .i64 J1.next) ∧ w'.cell? ⟨g1, 6, none⟩ = some (.int .i64 J1.mode) ∧ w'.cell? ⟨g1, 7, none⟩ = some (.slice Ad1 nd1 cd1) ∧ w'.cell? ⟨g1, 8, none⟩ = some (.slice At1 nt1 ct1)) W6 := HD6.out.cells
      refine AnyT.take (i := 0) (v := .agg #[.bool true, .int .i64 J1.room, .int .i64 J1.most, (.slice Al nl cl), (.slice Aw1 J1.wait.length cw1), .int .i64 J1.next, .int .i64 J1.mode, (.slice Ad1 nd1 cd1), (.slice At1 nt1 ct1)]) rfl (by kernel_rfl) (by kernel_rfl) (by kernel_rfl) (by kernel_rfl) (fun _ _ _ h => h) (Or.inl ⟨by rfl, ?hy0⟩) hS ?rest0
      case hy0 =>
        intro w hSw
        go_split_ands
        go_simp
        try (with_reducible rfl)
      (try simp only [Act.put, List.setIfInBounds_toArray, List.set_cons_zero, List.set_cons_succ])
      refine AnyT.take (i := 1) (v := .agg #[.bool true, .int .i64 J1.room, .int .i64 J1.most, (.slice Al nl cl), (.slice Aw1 J1.wait.length cw1), .int .i64 J1.next, .int .i64 J1.mode, (.slice Ad1 nd1 cd1), (.slice At1 nt1 ct1)]) rfl (by kernel_rfl) (by kernel_rfl) (by kernel_rfl) (by kernel_rfl) (fun _ _ _ h => h) (Or.inl ⟨by rfl, ?hy1⟩) hS ?rest1
      case hy1 =>
        intro w hSw
        go_split_ands
        go_simp
        try (with_reducible rfl)
      (try simp only [Act.put, List.setIfInBounds_toArray, List.set_cons_zero, List.set_cons_succ])
      obtain ⟨p, q, hw⟩ : ∃ p q, J1.wait = p :: q := by
        cases hw : J1.wait with
        | nil => exact absurd (by rw [hw]; rfl) HZ.out
        | cons p q => exact ⟨p, q, rfl⟩
      obtain ⟨l1, l2, l3, l4⟩ := skip_lost HX.out.1 HX.out.2.1 hw
      have hwl : ws1.length ≤ 100000 := by
        have h1 := HD6.out.dv.perm.length_eq
        have h2 : 3 * J1.wait.length ≤ phi J1 := by unfold phi; omega
        have h3 := HX.out.2.2.2.1
        have h4 := HLEN.out
        omega
      have hfi := first_at HD6.out.dv HX.out.1.sort (fun x hx => by have := (HX.out.1.waitK x hx).2.1; omega) (by omega) hw
      have hsk : skipJ J1 = runJ (lostJ J1 p.1) := by unfold skipJ; rw [hw]
      have hwr : IntKind.i64.wrap (p.1 - J1.next) = p.1 - J1.next := IntWalk.i64_in _ (by have h1 := HX.out.1.next0; have h2 := HX.out.1.nextK; have h3 := HX.out.1.waitK p (by rw [hw]; simp); omega)
      have HL := Aside0.mk (And.intro l1 (And.intro l2 (And.intro l3 (And.intro hwl (And.intro hsk (And.intro hwr hw))))))
      clear l1 l2 l3 l4 hwl hsk hwr hw
      refine AnyT.one (i := 2) (by kernel_rfl) rfl (fun K hK => ?_)
      go_simp
      go_at_call 46
      refine hfi.mono ?_
      rintro e2 w7 ⟨rfl, hb7⟩
      go_wp2
      have HD7 := Aside0.mk (HD6.out.below hb7)
      clear hb7 hfi
      have hS7 : (fun w' : World => w'.cell? ⟨g1, 0, none⟩ = some (.bool true) ∧ w'.cell? ⟨g1, 1, none⟩ = some (.int .i64 J1.room) ∧ w'.cell? ⟨g1, 2, none⟩ = some (.int .i64 J1.most) ∧ w'.cell? ⟨g1, 3, none⟩ = some (.slice Al nl cl) ∧ w'.cell? ⟨g1, 4, none⟩ = some (.slice Aw1 J1.wait.length cw1) ∧ w'.cell? ⟨g1, 5, none⟩ = some (.int .i64 J1.next) ∧ w'.cell? ⟨g1, 6, none⟩ = some (.int .i64 J1.mode) ∧ w'.cell? ⟨g1, 7, none⟩ = some (.slice Ad1 nd1 cd1) ∧ w'.cell? ⟨g1, 8, none⟩ = some (.slice At1 nt1 ct1)) w7 := HD7.out.cells
      refine hK.out _ _ (.inr hS7) ?_
      clear hK K hS
      (try simp only [Act.put, List.setIfInBounds_toArray, List.set_cons_zero, List.set_cons_succ])
      have hla := lack_any w7 base (Not2 P g1 g2) (.slice Al nl cl) (.slice Aw1 J1.wait.length cw1) (.slice Ad1 nd1 cd1) (.slice At1 nt1 ct1) ws1 J1 p.1 HD7.out.dv HD7.out.hP2 HD7.out.hbW (by have := HX.out.2.2.2.1; have := HLEN.out; omega) HL.out.2.2.2.2.2.1
      refine AnyT.one (i := 3) (by kernel_rfl) rfl (fun K hK => ?_)
      go_simp
      go_at_call 45
      refine hla.mono ?_
      rintro e2 w8 ⟨vt8, rfl, hdv8, hk8, ho8, hb8⟩
      obtain ⟨At8, nt8, ct8, rfl⟩ := N_sl hdv8.told
      have hg8 := (hk8.2 g1 (blk_lt HD7.out.b1) HD7.out.told_ne.1).trans HD7.out.b1
      have hS8 : (fun w' : World => w'.cell? ⟨g1, 0, none⟩ = some (.bool true) ∧ w'.cell? ⟨g1, 1, none⟩ = some (.int .i64 J1.room) ∧ w'.cell? ⟨g1, 2, none⟩ = some (.int .i64 J1.most) ∧ w'.cell? ⟨g1, 3, none⟩ = some (.slice Al nl cl) ∧ w'.cell? ⟨g1, 4, none⟩ = some (.slice Aw1 J1.wait.length cw1) ∧ w'.cell? ⟨g1, 5, none⟩ = some (.int .i64 J1.next) ∧ w'.cell? ⟨g1, 6, none⟩ = some (.int .i64 J1.mode) ∧ w'.cell? ⟨g1, 7, none⟩ = some (.slice Ad1 nd1 cd1) ∧ w'.cell? ⟨g1, 8, none⟩ = some (.slice At1 nt1 ct1)) w8 := cells9 hg8
      have HX8 := Aside0.mk (And.intro hdv8 (And.intro hk8 (And.intro ho8 (And.intro hb8 hg8))))
      clear hdv8 hk8 ho8 hb8 hg8 hla
      go_wp2
      refine hK.out _ _ (.inr hS8) ?_
      clear hK K hS7
      (try simp only [Act.put, List.setIfInBounds_toArray, List.set_cons_zero, List.set_cons_succ])
      have hru := run_doc w8 base (Not2 P g1 g2) (.slice Al nl cl) (.slice Aw1 J1.wait.length cw1) (.slice none 0 0) (.slice At8 nt8 ct8) ws1 (lostJ J1 p.1) K HX8.out.1 HL.out.1 hK (fun k hk => HD7.out.hP2 k (Nat.le_trans HX8.out.2.1.1 hk)) (Nat.le_trans HD7.out.hbW HX8.out.2.1.1) (by have h1 := HL.out.2.1; have h2 := HX.out.2.2.2.1; have h3 := HLEN.out; omega) (by have h1 := HX.out.2.2.2.2; have h2 := HLL.out; show J1.last.length ≤ 100; rw [h1]; exact h2)
      obtain ⟨J9, hJ9⟩ : ∃ x, runJ (lostJ J1 p.1) = x := ⟨_, rfl⟩
      rw [hJ9] at hru
      have hs9 : skipJ J1 = J9 := HL.out.2.2.2.2.1.trans hJ9
      have HS9 := Aside0.mk hs9
      clear hJ9 hs9
      refine AnyT.one (i := 4) (by kernel_rfl) rfl (fun K2 hK2 => ?_)
      go_simp
      go_at_call 44
      refine hru.mono ?_
      rintro e2 w9 ⟨vw9, vd9, vt9, ws9, rfl, hdv9, hk9, ho9, hb9⟩
      obtain ⟨Aw9, nw9, cw9, rfl⟩ := V_sl hdv9.wait
      obtain ⟨Ad9, nd9, cd9, rfl⟩ := V_sl hdv9.data
      obtain ⟨At9, nt9, ct9, rfl⟩ := N_sl hdv9.told
      have hk79 : Kept w7 w9 (fun k => some k = (Value.ownBlock (.slice At1 nt1 ct1))) := HX8.out.2.1.then_ hk9 (fun k hk => by
        by_cases hlt : k < w7.heap.size
        · exact .inl (HX8.out.2.2.1 k hlt hk)
        · exact .inr (Nat.le_of_not_lt hlt))
      have ho79 : ∀ k, k < w7.heap.size → some k = (Value.slice At9 nt9 ct9).ownBlock → some k = (Value.ownBlock (.slice At1 nt1 ct1)) := fun k hk hm => HX8.out.2.2.1 k hk (ho9 k (Nat.lt_of_lt_of_le hk HX8.out.2.1.1) hm)
      have hb79 := HX8.out.2.2.2.1.trans hb9
      have hg9 := (hk79.2 g1 (blk_lt HD7.out.b1) HD7.out.told_ne.1).trans HD7.out.b1
      have hS9 : (fun w' : World => w'.cell? ⟨g1, 0, none⟩ = some (.bool true) ∧ w'.cell? ⟨g1, 1, none⟩ = some (.int .i64 J1.room) ∧ w'.cell? ⟨g1, 2, none⟩ = some (.int .i64 J1.most) ∧ w'.cell? ⟨g1, 3, none⟩ = some (.slice Al nl cl) ∧ w'.cell? ⟨g1, 4, none⟩ = some (.slice Aw1 J1.wait.length cw1) ∧ w'.cell? ⟨g1, 5, none⟩ = some (.int .i64 J1.next) ∧ w'.cell? ⟨g1, 6, none⟩ = some (.int .i64 J1.mode) ∧ w'.cell? ⟨g1, 7, none⟩ = some (.slice Ad1 nd1 cd1) ∧ w'.cell? ⟨g1, 8, none⟩ = some (.slice At1 nt1 ct1)) w9 := cells9 hg9
      have hdj := HD7.out.store hdv9 hk79 ho79 hb79
      have HDJ := Aside0.mk hdj
      have fx : ∀ j, w9.frozen? ⟨g1, j, none⟩ = false := fun j => blk_frozen hg9 j
      clear hdv9 hk9 ho9 hb9 hk79 ho79 hb79 hg9 hdj hru
      go_wp2
      refine hK2.out _ _ (.inr hS9) ?_
      clear hK2 K2 hS8
      (try simp only [Act.put, List.setIfInBounds_toArray, List.set_cons_zero, List.set_cons_succ])
      obtain ⟨z0, z1, z2, z3, z4, z5, z6, z7, z8⟩ := hS9
      refine AnyT.one (i := 5) (by kernel_rfl) rfl (fun K2 hK2 => ?_)
      go_simp
      refine hK2.out _ _ (.inl rfl) ?_
      clear hK2 K2 z0 z1 z2 z3 z4 z5 z6 z7 z8 fx
      (try simp only [Act.put, List.setIfInBounds_toArray, List.set_cons_zero, List.set_cons_succ])
      refine AnyT.done (by kernel_rfl) ?_ _
      generalize (((((((((w9.setCell ⟨g1, 0, none⟩ (.bool true)).setCell ⟨g1, 1, none⟩ (.int .i64 J9.room)).setCell ⟨g1, 2, none⟩ (.int .i64 J9.most)).setCell ⟨g1, 3, none⟩ (.slice Al nl cl)).setCell ⟨g1, 4, none⟩ (.slice Aw9 nw9 cw9)).setCell ⟨g1, 5, none⟩ (.int .i64 J9.next)).setCell ⟨g1, 6, none⟩ (.int .i64 J9.mode)).setCell ⟨g1, 7, none⟩ (.slice Ad9 nd9 cd9)).setCell ⟨g1, 8, none⟩ (.slice At9 nt9 ct9)) = W9 at HDJ ⊢
      obtain ⟨k1, k2, k3, k4, k5, k6, k7, k8, k9⟩ := skip_ok HX.out.1 HX.out.2.1
      have hne : J1.wait ≠ [] := by rw [HL.out.2.2.2.2.2.2]; simp
      have hts := thin_step (room := 0) HX.out.1 HX.out.2.1 (by have := HZ.out; omega)
      rw [HS9.out] at k1 k2 k3 k4 k5 k6 k7 k8 k9 hts
      have HK := Aside0.mk (And.intro k1 (And.intro k2 (And.intro k3 (And.intro k7 (And.intro (k9 hne) hts)))))
      clear k1 k2 k3 k4 k5 k6 k7 k8 k9 hne hts HD7 HX8 HL
      go_wp2
      go_roundg (J9.wait.length)
      case measure => exact HK.out.2.2.2.2.1
      case rel => exact ⟨⟨_, _, _, ws9, J9, rfl, HDJ.out, HK.out.1, HK.out.2.1, HK.out.2.2.2.2.2.symm.trans HX.out.2.2.1, by have h1 := HK.out.2.2.1; have h2 := HX.out.2.2.2.1; omega, HK.out.2.2.2.1.trans HX.out.2.2.2.2⟩⟩
end Go.Proofs.YtgopklnfdlnojaaDoor.Lf
