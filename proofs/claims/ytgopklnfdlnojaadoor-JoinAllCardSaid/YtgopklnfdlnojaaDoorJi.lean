/- A joiner is fed (35): a link that isn't, a number that isn't; the last places in memory. -/
import Derived.Test.YtgopklnfdlnojaaDoorJh
namespace Go.Proofs.YtgopklnfdlnojaaDoor.Ji
open Go.RowKit Go.Proofs.YtgopklnfdlnojaaDoor.Ga Go.Proofs.YtgopklnfdlnojaaDoor.My Go.Proofs.YtgopklnfdlnojaaDoor.Gb Go.Proofs.YtgopklnfdlnojaaDoor.Gp Go.Proofs.YtgopklnfdlnojaaDoor.Ja Go.Proofs.YtgopklnfdlnojaaDoor.Jb Go.Proofs.YtgopklnfdlnojaaDoor.Jc Go.Proofs.YtgopklnfdlnojaaDoor.Jd Go.Proofs.YtgopklnfdlnojaaDoor.Je Go.Proofs.YtgopklnfdlnojaaDoor.Jf Go.Proofs.YtgopklnfdlnojaaDoor.Jg Go.Proofs.YtgopklnfdlnojaaDoor.Jh Go.Proofs.YtgopklnfdlnojaaDoorW.PrintWords Go.Proofs.YtgopklnfdlnojaaDoorW.PrintLast Go.Proofs.YtgopklnfdlnojaaDoorW.PrintMore
set_option linter.unusedVariables false
set_option linter.unusedSimpArgs false

theorem below_drewN {B : Nat} {a w : World} (h : Below B a w) (q : Nat) : Below B a (w.drewN q) := ⟨h.os, h.tape, h.output, h.size, h.block⟩

section
variable {W : World} {base g bm : Nat} {vl vd ve : Value} {wv : List (Int × Value)} {er : List (List Value)} {J : Jn}
/-- The row of last places. -/
theorem last_row (h : JM W base g bm vl vd ve wv er J) (hne : J.last ≠ []) : ∃ gl cap, vl = .slice (some ⟨gl, 0, none⟩) J.last.length cap := by
  obtain ⟨inner, hown⟩ := Kd.R_own h.hlast
  have hpos : 0 < J.last.length := List.length_pos_iff.2 hne
  rcases hown.2 with ⟨_, hz⟩ | ⟨gl, cap, cur, rfl, _⟩
  · omega
  · exact ⟨gl, cap, rfl⟩
theorem last_at {gl cap : Nat} (h : JM W base g bm (.slice (some ⟨gl, 0, none⟩) J.last.length cap) vd ve wv er J) (k : Nat) (hk : k < J.last.length) :
    W.cell? ⟨gl, k, none⟩ = some (.int .i64 (J.last.getD k 0)) ∧ W.frozen? ⟨gl, k, none⟩ = false := by
  have := Kd.R_cell (0 : Int) h.hlast (k : Int) (by omega) (by omega)
  simpa [rdOf] using this
theorem last_base {gl cap : Nat} (h : JM W base g bm (.slice (some ⟨gl, 0, none⟩) J.last.length cap) vd ve wv er J) (hne : J.last ≠ []) : base ≤ gl := by
  have hpos : 0 < J.last.length := List.length_pos_iff.2 hne
  obtain ⟨inner, hown⟩ := Kd.R_own h.hlast
  rcases hown.2 with ⟨e, hz⟩ | ⟨gl', cap', cur, e, hb, _⟩
  · omega
  · cases e; exact hb
/-- Nothing but the last places' row has turned. -/
theorem JM_lasts {W' : World} {gl cap : Nat} {ls : List Int} (h : JM W base g bm (.slice (some ⟨gl, 0, none⟩) J.last.length cap) vd ve wv er J) (hk1 : Kept W W' (fun j => j = gl)) (hR : (Kd.int .i64).R 3 W' base (fun _ => True) (.slice (some ⟨gl, 0, none⟩) J.last.length cap) ls) :
    JM W' base g bm (.slice (some ⟨gl, 0, none⟩) J.last.length cap) vd ve wv er { J with last := ls } ∧ Kept W W' (Mut g bm (.slice (some ⟨gl, 0, none⟩) J.last.length cap) vd ve) := by
  obtain ⟨al, ad, ae, hgm⟩ := h.apart
  have hal := al gl rfl
  have hkM : Kept W W' (Mut g bm (.slice (some ⟨gl, 0, none⟩) J.last.length cap) vd ve) := ⟨hk1.1, fun j hj hs => hk1.2 j hj (fun e => hs (.inr (.inr (.inl (by rw [e]; rfl)))))⟩
  have hmut : ∀ j, j < W.heap.size → Mut g bm (.slice (some ⟨gl, 0, none⟩) J.last.length cap) vd ve j → Mut g bm (.slice (some ⟨gl, 0, none⟩) J.last.length cap) vd ve j := fun _ _ h => h
  obtain ⟨es, clock, hmb⟩ := map_blk h.hmap
  exact ⟨⟨(hk1.2 g (Array.getElem?_eq_some_iff.1 h.hg).1 (fun e => hal.1 e.symm)).trans h.hg, h.hgb, h.hbm, hR, R_stay rfl h.hdata hk1 (fun j hj hs => (ad j hj).2.2.1 (by rw [hs]; rfl)), R_stay rfl h.hevs hk1 (fun j hj hs => (ae j hj).2.2.1 (by rw [hs]; rfl)), h.hev.imp fun x y ⟨A, c, h1, h2, h3⟩ => ⟨A, c, h1, h2, h3.kept hkM hmut⟩, map_stay h.hmap (hk1.2 bm (Array.getElem?_eq_some_iff.1 hmb).1 (fun e => hal.2.1 e.symm)), h.hwv.imp fun x y ⟨h1, A, c, h2, h3, h4⟩ => ⟨h1, A, c, h2, h3, h4.kept hkM hmut⟩, h.hsort⟩, hkM⟩
/-- A last place is written. -/
theorem JM_last {gl cap : Nat} (h : JM W base g bm (.slice (some ⟨gl, 0, none⟩) J.last.length cap) vd ve wv er J) (k : Nat) (hk : k < J.last.length) (x : Int) :
    JM (W.setCell ⟨gl, k, none⟩ (.int .i64 x)) base g bm (.slice (some ⟨gl, 0, none⟩) J.last.length cap) vd ve wv er { J with last := J.last.set k x } ∧ Kept W (W.setCell ⟨gl, k, none⟩ (.int .i64 x)) (Mut g bm (.slice (some ⟨gl, 0, none⟩) J.last.length cap) vd ve) ∧ base ≤ gl := by
  have hk1 : Kept W (W.setCell ⟨gl, k, none⟩ (.int .i64 x)) (fun j => j = gl) := ⟨by simp [World.setCell], fun j _ hs => far_cell W gl k j _ hs⟩
  have hR := Kd.R_putn h.hlast (k : Int) x
  simp only [Int.toNat_natCast] at hR
  obtain ⟨h1, h2⟩ := JM_lasts h hk1 hR
  exact ⟨h1, h2, last_base h (fun e => by rw [e] at hk; simp at hk)⟩
end

/-- Does a piece wait for the place? -/
theorem has_wv {W : World} {base g bm : Nat} {vl vd ve : Value} {wv : List (Int × Value)} {er : List (List Value)} {J : Jn} (h : JM W base g bm vl vd ve wv er J) (place : Int) : Maps.has (mapD wv) (.int .i64 place) = hasJ J place := by
  have e1 : Maps.has (mapD wv) (.int .i64 place) = (wv.map (·.1)).any (fun x => x == place) := by
    simp only [Maps.has, List.any_map]
    refine congrArg (fun f => wv.any f) (funext fun x => ?_)
    simp only [Function.comp_apply, Lit.sameKey]
    by_cases e : x.1 = place <;> simp [e]
  rw [e1, places_wv h]
  simp only [places, hasJ, List.any_map]
  rfl
theorem wv_pc {W : World} {base g bm : Nat} {vl vd ve : Value} {wv : List (Int × Value)} {er : List (List Value)} {J : Jn} (h : JM W base g bm vl vd ve wv er J) (x : Int × Value) (hx : x ∈ wv) : ∃ f0 f1 f2 A l c, x.2 = pc f0 f1 f2 A l c := by
  obtain ⟨j, hj, e⟩ := List.getElem_of_mem hx
  have hl := h.hwv.1
  obtain ⟨-, A, c, h2, -⟩ := h.hwv.2 j (J.wait[j]'(by omega)) x (List.getElem?_eq_getElem _) (by rw [List.getElem?_eq_getElem hj, e])
  exact ⟨_, _, _, A, _, c, h2⟩
theorem look_at {W : World} {base g bm : Nat} {vl vd ve : Value} {wv : List (Int × Value)} {er : List (List Value)} {J : Jn} (h : JM W base g bm vl vd ve wv er J) (place : Int) (h0 : 0 ≤ place) (h1 : place ≤ 1000000000001) :
    ∃ f0 f1 f2 A l c, ∀ W' : World, W'.heap[bm]? = W.heap[bm]? → (Instr.lookup 99 (.map (some bm)) (.int .i64 place) true).run Tryd.prog W' = .ok (.tuple #[pc f0 f1 f2 A l c, .bool (hasJ J place)]) W' := by
  obtain ⟨es, clock, v, hb, hv, hrun⟩ := Jf.look h.hmap place h0 h1
  rw [has_wv h] at hrun
  have hp : ∃ f0 f1 f2 A l c, v = pc f0 f1 f2 A l c := by
    simp only [DataW.atKey] at hv
    split at hv
    · rename_i p hf
      obtain ⟨x, hx, rfl⟩ := List.mem_map.1 (List.mem_of_find?_eq_some hf)
      have e : v = x.2 := by simpa using hv
      rw [e]
      exact wv_pc h x hx
    · have e : v = pc false false 0 none 0 0 := by simpa using hv
      exact ⟨_, _, _, _, _, _, e⟩
  obtain ⟨f0, f1, f2, A, l, c, rfl⟩ := hp
  exact ⟨f0, f1, f2, A, l, c, fun W' hW' => hrun W' (hW'.trans hb)⟩

/-- A piece is laid beside those that wait. -/
theorem JM_put {W W' : World} {base g bm : Nat} {vl vd ve : Value} {wv : List (Int × Value)} {er : List (List Value)} {J : Jn} {place : Int} {p : S29} {v : Value} (h : JM W base g bm vl vd ve wv er J) (hgr : W.grownBy W' (some bm)) (hno : hasJ J place = false)
    (hm : W'.ownsMap Tryd.prog 3 elemR bm (wv.length + 1) ((mapD wv).put (.int .i64 place) (.held v))) (hv : WtOK W (Mut g bm vl vd ve) (place, p) (place, v)) :
    JM W' base g bm vl vd ve (insK (place, v) wv) er { J with wait := insK (place, p) J.wait } ∧ Kept W W' (Mut g bm vl vd ve) := by
  have hne : ∀ x ∈ wv, x.1 ≠ place := by
    intro x hx e
    have h1 : x.1 ∈ wv.map (·.1) := List.mem_map_of_mem hx
    rw [places_wv h] at h1
    obtain ⟨y, hy, hyx⟩ := List.mem_map.1 h1
    exact hasJ_false hno y hy (hyx.trans e)
  rw [put_ins place v wv hne] at hm
  refine JM_map h ⟨hgr.size, fun k hk hn => hgr.block k hk (fun e => hn (by cases e; rfl))⟩ (by rw [insK_length]; exact hm) (insK_all2 (fun a b hab => hab.1) hv _ _ h.hwv) (insK_sorted _ _ h.hsort (hasJ_false hno))

set_option maxHeartbeats 1000000 in
set_option maxRecDepth 100000 in
theorem feed_link (W : World) (base g bm : Nat) (vl vd ve : Value) (wv : List (Int × Value)) (er : List (List Value)) (J : Jn) (link : Int) (p : S29) (A : Option Addr) (c : Nat) (h : JM W base g bm vl vd ve wv er J) (hl : link < 0 ∨ (J.last.length : Int) ≤ link) :
    Calls Tryd.prog 35 #[.pointer (some ⟨g, 0, none⟩), .int .i64 link, pc p.f0 p.f1 p.f2 A p.f3.length c] W fun e W' => e = .returned (.tuple #[.slice none 0 0, .int .i64 1]) ∧ Below W.heap.size W W' := by
  obtain ⟨Al, cl, rfl⟩ := Kd.R_slice h.hlast
  have HJ := Aside0.mk h
  have hg := h.hg
  have c3 := blk_cell (blk_keep hg (below_alloc (Below.refl _ W) (.cells #[.bool p.f0, .bool p.f1, .int .i64 p.f2, .slice A p.f3.length c] 29))) 3
  simp at c3
  have HB := Aside0.mk (below_alloc (Below.refl _ W) (.cells #[.bool p.f0, .bool p.f1, .int .i64 p.f2, .slice A p.f3.length c] 29))
  clear h hg
  by_cases h0 : link < 0
  · have hd : decide (link < 0) = true := decide_eq_true h0
    clear h0 hl
    go_enter Tryd.func35, Tryd.ntmps35
    go_wp2
    go_ret2
    exact ⟨rfl, HB.out⟩
  · have hd : decide (link < 0) = false := decide_eq_false h0
    have hd2 : decide ((J.last.length : Int) ≤ link) = true := decide_eq_true (by omega)
    clear h0 hl
    go_enter Tryd.func35, Tryd.ntmps35
    go_wp2
    go_ret2
    exact ⟨rfl, HB.out⟩

set_option maxHeartbeats 1000000 in
set_option maxRecDepth 100000 in
theorem feed_num (W : World) (base g bm : Nat) (vl vd ve : Value) (wv : List (Int × Value)) (er : List (List Value)) (J : Jn) (k : Nat) (p : S29) (A : Option Addr) (c : Nat) (h : JM W base g bm vl vd ve wv er J) (hk : k < J.last.length) (hn : p.f2 < 0 ∨ J.nm ≤ p.f2) :
    Calls Tryd.prog 35 #[.pointer (some ⟨g, 0, none⟩), .int .i64 (k : Int), pc p.f0 p.f1 p.f2 A p.f3.length c] W fun e W' => e = .returned (.tuple #[.slice none 0 0, .int .i64 5]) ∧ Below W.heap.size W W' := by
  obtain ⟨Al, cl, rfl⟩ := Kd.R_slice h.hlast
  have hg := h.hg
  have hb1 := below_alloc (Below.refl W.heap.size W) (.cells #[.bool p.f0, .bool p.f1, .int .i64 p.f2, .slice A p.f3.length c] 29)
  have hn1 := new1 W (.cells #[.bool p.f0, .bool p.f1, .int .i64 p.f2, .slice A p.f3.length c] 29)
  have hg1 := blk_keep hg hb1
  have c3 := blk_cell hg1 3
  have c0 := blk_cell hg1 0
  simp at c3 c0
  obtain ⟨p0, p1, p2, p3⟩ := cells4 hn1
  have HB := Aside0.mk hb1
  have hdk0 : decide ((k : Int) < 0) = false := decide_eq_false (by omega)
  have hdk1 : decide ((J.last.length : Int) ≤ (k : Int)) = false := decide_eq_false (by omega)
  have hdk2 : decide (J.last.length ≤ k) = false := decide_eq_false (by omega)
  obtain ⟨g5, hg5⟩ : ∃ q, W.heap.size = q := ⟨_, rfl⟩
  clear h hg hb1 hn1 hg1
  by_cases h0 : p.f2 < 0
  · have hd : decide (p.f2 < 0) = true := decide_eq_true h0
    clear h0 hn
    go_enter Tryd.func35, Tryd.ntmps35
    go_upto_block 0 with (fail)
    go_wp2_with (fail)
    go_quiet (fail)
    go_wp2
    go_ret2
    exact ⟨rfl, below_drewN HB.out _⟩
  · have hd : decide (p.f2 < 0) = false := decide_eq_false h0
    have hd2 : decide (J.nm ≤ p.f2) = true := decide_eq_true (by omega)
    clear h0 hn
    go_enter Tryd.func35, Tryd.ntmps35
    go_upto_block 0 with (fail)
    go_wp2_with (fail)
    go_quiet (fail)
    go_wp2
    go_ret2
    exact ⟨rfl, below_drewN HB.out _⟩

end Go.Proofs.YtgopklnfdlnojaaDoor.Ji
