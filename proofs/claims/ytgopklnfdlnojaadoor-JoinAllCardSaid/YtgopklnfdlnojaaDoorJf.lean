/- A joiner runs (50), skips (47), is flushed (33). -/
import Derived.Deep.LoopGhost
import Derived.Test.YtgopklnfdlnojaaDoorJe
namespace Go.Proofs.YtgopklnfdlnojaaDoor.Jf
open Go.RowKit Go.Proofs.YtgopklnfdlnojaaDoor.Ga Go.Proofs.YtgopklnfdlnojaaDoor.My Go.Proofs.YtgopklnfdlnojaaDoor.Gb Go.Proofs.YtgopklnfdlnojaaDoor.Gp Go.Proofs.YtgopklnfdlnojaaDoor.Ja Go.Proofs.YtgopklnfdlnojaaDoor.Jb Go.Proofs.YtgopklnfdlnojaaDoor.Jc Go.Proofs.YtgopklnfdlnojaaDoor.Jd Go.Proofs.YtgopklnfdlnojaaDoor.Je Go.Proofs.YtgopklnfdlnojaaDoorW.PrintWords Go.Proofs.YtgopklnfdlnojaaDoorW.PrintLast Go.Proofs.YtgopklnfdlnojaaDoorW.PrintMore
set_option linter.unusedVariables false
set_option linter.unusedSimpArgs false

/-- The map as read. -/
abbrev mapD (wv : List (Int × Value)) : DataW Value := .map (wv.map fun x => ((.int .i64 x.1 : Lit), (DataW.held x.2 : DataW Value)))
theorem own_tight {W : World} {bm n : Nat} {wv : List (Int × Value)} (h : W.ownsMap Tryd.prog 3 elemR bm n (mapD wv)) : W.ownsMap Tryd.prog 3 elemR bm wv.length (mapD wv) := by
  obtain ⟨es, clock, h1, h2, h3, h4⟩ := h
  refine ⟨es, clock, h1, h2, ?_, h4⟩
  have := congrArg Maps.size h4
  simp [Maps.size, length_sorted] at this
  omega
theorem has_hit (n : Int) (v : Value) (wv : List (Int × Value)) : Maps.has (mapD ((n, v) :: wv)) (.int .i64 n) = true := by simp [Maps.has, Lit.sameKey]
theorem at_hit (n : Int) (v : Value) (wv : List (Int × Value)) (zd : DataW Value) : (mapD ((n, v) :: wv)).atKey (.int .i64 n) zd = .held v := by simp [DataW.atKey, Lit.sameKey]
theorem has_miss (n : Int) (wv : List (Int × Value)) (h : ∀ x ∈ wv, x.1 ≠ n) : Maps.has (mapD wv) (.int .i64 n) = false := by
  simp only [Maps.has, List.any_eq_false, List.mem_map]
  rintro p ⟨x, hx, rfl⟩
  simpa [Lit.sameKey] using h x hx
theorem del_hit (n : Int) (v : Value) (wv : List (Int × Value)) (h : ∀ x ∈ wv, x.1 ≠ n) : (mapD ((n, v) :: wv)).del (.int .i64 n) = mapD wv := by
  simp only [DataW.del, List.map_cons]
  rw [List.filter_cons_of_neg (by simp [Lit.sameKey]), List.filter_eq_self.2]
  intro p hp
  obtain ⟨x, hx, rfl⟩ := List.mem_map.1 hp
  simpa [Lit.sameKey] using h x hx

theorem JM_map {W W' : World} {base g bm : Nat} {vl vd ve : Value} {wv wv' : List (Int × Value)} {er : List (List Value)} {J : Jn} {wait' : List (Int × S29)} (h : JM W base g bm vl vd ve wv er J) (hk : Kept W W' (fun k => k = bm))
    (hm : W'.ownsMap Tryd.prog 3 elemR bm wv'.length (mapD wv')) (hwv : All2 (WtOK W (Mut g bm vl vd ve)) wait' wv') (hs : wait'.Pairwise (fun p q => p.1 < q.1)) :
    JM W' base g bm vl vd ve wv' er { J with wait := wait' } ∧ Kept W W' (Mut g bm vl vd ve) := by
  obtain ⟨al, ad, ae, hgm⟩ := h.apart
  have hkM : Kept W W' (Mut g bm vl vd ve) := ⟨hk.1, fun k hk1 hs => hk.2 k hk1 (fun e => hs (.inr (.inl e)))⟩
  have hmut : ∀ k, k < W.heap.size → Mut g bm vl vd ve k → Mut g bm vl vd ve k := fun _ _ h => h
  refine ⟨⟨(hk.2 g (Array.getElem?_eq_some_iff.1 h.hg).1 hgm).trans h.hg, h.hgb, h.hbm, R_stay rfl h.hlast hk (fun k hk1 hs => (al k hk1).2.1 hs), R_stay rfl h.hdata hk (fun k hk1 hs => (ad k hk1).2.1 hs), R_stay rfl h.hevs hk (fun k hk1 hs => (ae k hk1).2.1 hs), h.hev.imp fun x y ⟨A, c, h1, h2, h3⟩ => ⟨A, c, h1, h2, h3.kept hkM hmut⟩, hm, hwv.imp fun x y ⟨h1, A, c, h2, h3, h4⟩ => ⟨h1, A, c, h2, h3, h4.kept hkM hmut⟩, hs⟩, hkM⟩

theorem kept_turned {W W' : World} {bm : Nat} (h : W.mapTurned W' bm) : Kept W W' (fun k => k = bm) :=
  ⟨h.grown.size, fun k hk hn => h.grown.block k hk (fun e => hn (by cases e; rfl))⟩
theorem below_turned {W W' : World} {bm base : Nat} (h : W.mapTurned W' bm) (hb : base ≤ bm) (hs : base ≤ W.heap.size) : Below base W W' :=
  (Below.refl base W).grown h.grown hs (fun k e => by cases e; exact hb)

theorem key64 {n : Int} (h0 : 0 ≤ n) (h1 : n ≤ 1000000000001) : keyOf Tryd.prog 3 (.int .i64 n) = some (.int .i64 n) := by
  have hwf : (Lit.int .i64 n).wf = true := by
    have e1 : IntKind.i64.min = -9223372036854775808 := rfl
    have e2 : IntKind.i64.max = 9223372036854775807 := rfl
    simp [Lit.wf, e1, e2]
    omega
  simp [keyOf, Tryd.underlying3, mapKey, hwf]
theorem look {W : World} {bm n : Nat} {wv : List (Int × Value)} (h : W.ownsMap Tryd.prog 3 elemR bm n (mapD wv)) (x : Int) (h0 : 0 ≤ x) (h1 : x ≤ 1000000000001) :
    ∃ es clock v, W.heap[bm]? = some (.map es clock) ∧ (.held v : DataW Value) = (mapD wv).atKey (.int .i64 x) (.held (.agg #[.bool false, .bool false, .int .i64 0, .slice none 0 0])) ∧ ∀ w' : World, w'.heap[bm]? = some (.map es clock) → (Instr.lookup 99 (.map (some bm)) (.int .i64 x) true).run Tryd.prog w' = .ok (.tuple #[v, .bool (Maps.has (mapD wv) (.int .i64 x))]) w' := by
  obtain ⟨es, clock, hb, F, hs, hD⟩ := h
  obtain ⟨v, ps, hrun, hv⟩ := World.ownsMap.look_ok (w := W) ⟨es, clock, hb, F, hs, hD⟩ (Maps.int_keyed Tryd.underlying3) Tryd.underlying99 (Tryd.zeroValue29 W) (zd := .held (.agg #[.bool false, .bool false, .int .i64 0, .slice none 0 0])) (zp := []) rfl (key64 h0 h1)
  refine ⟨es, clock, v, hb, ?_, fun w' hw' => ?_⟩
  · simp [elemR] at hv
    exact hv.1
  · obtain ⟨v', ps', hrun', hv'⟩ := World.ownsMap.look_ok (w := w') ⟨es, clock, hw', F, hs, hD⟩ (Maps.int_keyed Tryd.underlying3) Tryd.underlying99 (Tryd.zeroValue29 w') (zd := .held (.agg #[.bool false, .bool false, .int .i64 0, .slice none 0 0])) (zp := []) rfl (key64 h0 h1)
    simp [elemR] at hv hv'
    have e : v' = v := by
      have := hv'.1.trans hv.1.symm
      simpa using this
    rw [← e]
    exact hrun'

theorem all2_cons {α β : Type} {R : α → β → Prop} {x : α} {xs : List α} {ys : List β} (h : All2 R (x :: xs) ys) : ∃ y ys', ys = y :: ys' ∧ R x y ∧ All2 R xs ys' := by
  obtain ⟨h1, h2⟩ := h
  cases ys with
  | nil => simp at h1
  | cons y ys => exact ⟨y, ys, rfl, h2 0 x y rfl rfl, by simpa using h1, fun j a b ha hb => h2 (j + 1) a b (by simpa using ha) (by simpa using hb)⟩

/-- What stands in the map at the place that is next. -/
theorem look_jm {W : World} {base g bm : Nat} {vl vd ve : Value} {wv : List (Int × Value)} {er : List (List Value)} {J : Jn} {K : Int} (h : JM W base g bm vl vd ve wv er J) (ok : OkJ J K) (hK : K ≤ 1000000000000) :
    ∃ b f0 f1 f2 A l c, (∀ W' : World, W'.heap[bm]? = W.heap[bm]? → (Instr.lookup 99 (.map (some bm)) (.int .i64 J.next) true).run Tryd.prog W' = .ok (.tuple #[pc f0 f1 f2 A l c, .bool b]) W') ∧
      ((b = true ∧ ∃ p q wv', J.wait = p :: q ∧ p.1 = J.next ∧ f0 = p.2.f0 ∧ f1 = p.2.f1 ∧ f2 = p.2.f2 ∧ l = p.2.f3.length ∧ l ≤ c ∧ Sl W (Mut g bm vl vd ve) A l p.2.f3 ∧ wv = (p.1, pc f0 f1 f2 A l c) :: wv' ∧ All2 (WtOK W (Mut g bm vl vd ve)) q wv' ∧ (∀ x ∈ wv', x.1 ≠ J.next)) ∨
       (b = false ∧ ∀ p q, J.wait = p :: q → p.1 ≠ J.next)) := by
  have hnx := ok.next0
  have hnx2 := ok.nextK
  obtain ⟨es, clock, v, hb, hv, hrun⟩ := look h.hmap J.next hnx (by omega)
  have hpl := places_wv h
  have hmiss : (∀ x ∈ wv, x.1 ≠ J.next) → ∃ b f0 f1 f2 A l c, (∀ W' : World, W'.heap[bm]? = W.heap[bm]? → (Instr.lookup 99 (.map (some bm)) (.int .i64 J.next) true).run Tryd.prog W' = .ok (.tuple #[pc f0 f1 f2 A l c, .bool b]) W') ∧ b = false := by
    intro hall
    have hm := has_miss J.next wv hall
    rw [Maps.atKey_of_not_has hm] at hv
    have hv2 : v = pc false false 0 none 0 0 := by simpa using hv
    refine ⟨false, false, false, 0, none, 0, 0, fun W' hW' => ?_, rfl⟩
    have := hrun W' (hW'.trans hb)
    rw [hm, hv2] at this
    exact this
  cases hw : J.wait with
  | nil =>
    have hz : wv = [] := List.length_eq_zero_iff.1 (by rw [h.hwv.1, hw]; rfl)
    obtain ⟨b, f0, f1, f2, A, l, c, h1, h2⟩ := hmiss (by rw [hz]; simp)
    exact ⟨b, f0, f1, f2, A, l, c, h1, .inr ⟨h2, fun p q e => by cases e⟩⟩
  | cons p q =>
    have hwv := h.hwv
    rw [hw] at hwv
    obtain ⟨y, wv', rfl, ⟨hy1, A, c, hy2, hc, hsl⟩, hall⟩ := all2_cons hwv
    have hsort := h.hsort
    rw [hw] at hsort
    obtain ⟨hs1, hs2⟩ := List.pairwise_cons.1 hsort
    have hrest : ∀ x ∈ wv', p.1 < x.1 := by
      intro x hx
      have : x.1 ∈ wv'.map (·.1) := List.mem_map_of_mem hx
      have e : wv'.map (·.1) = q.map (·.1) := by
        have := hpl
        simp only [places, hw, List.map_cons, List.cons.injEq] at this
        exact this.2
      rw [e] at this
      obtain ⟨z, hz, hzx⟩ := List.mem_map.1 this
      have := hs1 z hz
      omega
    by_cases hp : p.1 = J.next
    · have e : y = (J.next, y.2) := by rw [← hp, ← hy1]
      have hh : Maps.has (mapD (y :: wv')) (.int .i64 J.next) = true := by rw [e]; exact has_hit _ _ _
      have ha : v = y.2 := by
        rw [e, at_hit] at hv
        simpa using hv
      refine ⟨true, p.2.f0, p.2.f1, p.2.f2, A, p.2.f3.length, c, fun W' hW' => ?_, .inl ⟨rfl, p, q, wv', rfl, hp, rfl, rfl, rfl, rfl, hc, hsl, ?_, hall, fun x hx => ?_⟩⟩
      · have := hrun W' (hW'.trans hb)
        rw [hh, ha, hy2] at this
        exact this
      · rw [← hy2, ← hy1]
      · have := hrest x hx; omega
    · obtain ⟨b, f0, f1, f2, A', l, c', h1, h2⟩ := hmiss (by
        intro x hx
        have hle := (ok.waitK p (by rw [hw]; simp)).1
        rcases List.mem_cons.1 hx with e | e
        · rw [e, hy1]; exact hp
        · have := hrest x e; omega)
      exact ⟨b, f0, f1, f2, A', l, c', h1, .inr ⟨h2, fun p' q' e => by cases e; exact hp⟩⟩

/-- The least of a row of numbers. -/
theorem min_any {W : World} {base : Nat} {ok : Nat → Prop} {vl : Value} {xs : List Int} (h : (Kd.int .i64).R 3 W base ok vl xs) (hne : xs ≠ []) : Calls Tryd.prog 59 #[vl] W fun e w' => e = .returned (.int .i64 (Lib.minOf xs)) ∧ w' = W := by
  obtain ⟨inner, hown⟩ := Kd.R_own h
  have hpos : 0 < xs.length := List.length_pos_iff.2 hne
  rcases hown.2 with ⟨_, hz⟩ | ⟨g, cap, cur, rfl, _⟩
  · omega
  · have hC := (Kd.R_reads' h).2.2
    have hbig := hC.2.1
    have := AnyG.slices_Min_int Tryd.jMin g 0 xs.length cap xs W hpos (Nat.le_refl _) hbig (fun j hj => by
      obtain ⟨ad, e, hc⟩ := Kd.at_int hC (j : Int) (by omega) (by omega)
      cases e
      by_cases h0 : j = 0
      · subst h0; simpa [Addr.add, rd] using hc
      · simpa [Addr.add, rd, h0] using hc)
    rw [List.take_length] at this
    exact this

set_option maxHeartbeats 4000000 in
set_option maxRecDepth 100000 in
theorem run_any (W : World) (base g bm : Nat) (vl vd ve : Value) (wv : List (Int × Value)) (er : List (List Value)) (J : Jn) (K : Int) (h : JM W base g bm vl vd ve wv er J) (ok : OkJ J K) (hK : K ≤ 1000000000000) (hb : base ≤ W.heap.size) (hlen : er.length + 2 * phi J ≤ 80000) :
    Calls Tryd.prog 50 #[.pointer (some ⟨g, 0, none⟩)] W fun e W' => ∃ vd' ve' wv' er', (∃ v, e = .returned v) ∧
      JM W' base g bm vl vd' ve' wv' er' (runJ J) ∧ Kept W W' (Mut g bm vl vd ve) ∧ (∀ k, k < W.heap.size → Mut g bm vl vd' ve' k → Mut g bm vl vd ve k) ∧ Below base W W' := by
  have HJ := Aside0.mk h
  have HOK := Aside0.mk ok
  have HLEN := Aside0.mk hlen
  clear h ok hlen
  go_enter Tryd.func50, Tryd.ntmps50
  go_wp2_with (fail)
  go_loopg [2] (phi J) (fun k v2 wr => Aside0 (∃ vd1 ve1 wv1 er1 J1, k = phi J1 ∧ JM wr base g bm vl vd1 ve1 wv1 er1 J1 ∧ OkJ J1 K ∧ runJ J1 = runJ J ∧ er1.length + 2 * phi J1 ≤ er.length + 2 * phi J ∧ Kept W wr (Mut g bm vl vd ve) ∧ (∀ k, k < W.heap.size → Mut g bm vl vd1 ve1 k → Mut g bm vl vd ve k) ∧ Below base W wr))
  case atStart => exact ⟨vd, ve, wv, er, J, rfl, HJ.out, HOK.out, rfl, Nat.le_refl _, Kept.refl _ _, fun _ _ h => h, Below.refl _ _⟩
  case round =>
    obtain ⟨vd1, ve1, wv1, er1, J1, rfl, hJ1, hok1, hrun, hlen1, hk1, hm1, hb1⟩ := hrel.out
    clear hrel
    have HJ1 := Aside0.mk hJ1
    have HOK1 := Aside0.mk hok1
    have HRUN := Aside0.mk hrun
    have HLEN1 := Aside0.mk hlen1
    have HK1 := Aside0.mk hk1
    have HM1 := Aside0.mk hm1
    have HB1 := Aside0.mk hb1
    have hg := hJ1.hg
    have c3 := blk_cell hg 3
    have c4 := blk_cell hg 4
    have c5 := blk_cell hg 5
    have fz : ∀ j, wr.frozen? ⟨g, j, none⟩ = false := fun j => blk_frozen hg j
    simp at c3 c4 c5
    obtain ⟨b, f0, f1, f2, A, l, c, hlk, hcase⟩ := look_jm hJ1 hok1 hK
    have HCASE := Aside0.mk hcase
    have hlk1 := hlk wr.drew rfl
    have hlk2 := fun o => hlk (wr.alloc o).drew ((below_alloc (Below.refl wr.heap.size wr) o).block bm (mut_lt hJ1 bm (.inr (.inl rfl))))
    clear hcase hlk hJ1 hok1 hrun hlen1 hk1 hm1 hb1 hg
    have hnew := fun o => World.new_ne (wr.drew.alloc o)
    go_upto_region 0 with (fail)
    go_cut [2, 3] (fun v2 v3 wc => v3 = .bool b ∧ ∃ n, v2 = .pointer (some ⟨n, 0, none⟩) ∧ wr.heap.size ≤ n ∧ wc.heap[n]? = some (.cells #[.bool f0, .bool f1, .int .i64 f2, .slice A l c] 29 (0, 0)) ∧ Below wr.heap.size wr wc)
    case first =>
      go_region_held3 (fun w' => w'.cell? ⟨g, 4, none⟩ = some (.map (some bm)) ∧ w'.cell? ⟨g, 5, none⟩ = some (.int .i64 J1.next)) (first | go_keep) (first | fail)
      all_goals
        go_wp2
        go_meet
        exact ⟨rfl, wr.heap.size, rfl, Nat.le_refl _, new1 wr _, below_drew (below_alloc (Below.refl _ wr) _)⟩
    case rest =>
      obtain ⟨rfl, n, rfl, hn, hcn, hbc⟩ := hcut
      clear hlk1 hlk2 hnew fz
      have hJc := jm_below HJ1.out hbc
      have HJC := Aside0.mk hJc
      have HBC := Aside0.mk hbc
      have hg := hJc.hg
      have c3 := blk_cell hg 3
      have c4 := blk_cell hg 4
      have c5 := blk_cell hg 5
      simp at c3 c4 c5
      have hmap := hJc.hmap
      have HN := Aside0.mk (And.intro hn hcn)
      clear hn hcn hg hbc hJc
      rcases HCASE.out with ⟨rfl, p, q, wv', hw, hp, rfl, rfl, rfl, rfl, hlc, hsl, rfl, hall, hne⟩ | ⟨rfl, hmiss⟩
      · have hnx := HOK1.out.next0
        have hnx2 := HOK1.out.nextK
        have hkey := key64 hnx (show J1.next ≤ 1000000000001 by omega)
        have HX := Aside0.mk (And.intro hw (And.intro hp (And.intro hlc (And.intro hsl (And.intro hall hne)))))
        clear hw hp hlc hsl hall hne HCASE hnx hnx2
        go_wp2_with (fail)
        go_still_tail 8, (by kernel_rfl)
        change wpList _ _ _ _ _ wc.drew
        have hmapd : wc.drew.ownsMap Tryd.prog 3 elemR bm _ _ := hmap
        go_wp2_with (at_delete; refine wpList_delete_own _ rfl _ _ 99 3 rfl 29 (Maps.int_keyed Tryd.underlying3) Tryd.underlying99 elemR bm _ _ rfl hmapd _ _ rfl hkey ?_; intro w1 hown1 hturn1)
        have hX := HX.out
        obtain ⟨hw, hp, hlc, hsl, hall, hne⟩ := hX
        rw [hp, del_hit _ _ _ hne] at hown1
        have hwv2 := HJC.out.hwv
        rw [hw] at hwv2
        obtain ⟨y, ys, hyy, ⟨hy1, hy2⟩, hall2⟩ := all2_cons hwv2
        have hyt : ys = wv' := by cases hyy; rfl
        subst hyt
        have hsrt := HJC.out.hsort
        rw [hw] at hsrt
        obtain ⟨hJ3, hk3⟩ := JM_map (jm_drew HJC.out) (kept_turned hturn1) (own_tight hown1) hall2 (List.pairwise_cons.1 hsrt).2
        have hsl1 : Sl w1 (Mut g bm vl vd1 ve1) A p.2.f3.length p.2.f3 := (hsl.kept (kept_of_below HBC.out _) (fun _ _ h => h)).kept hk3 (fun _ _ h => h)
        have hbel3 : Below base wr w1 := (HBC.out.mono (Nat.le_trans hb HB1.out.size)).trans ((below_drew (Below.refl base wc)).trans (below_turned hturn1 HJ.out.hbm (Nat.le_trans hb (Nat.le_trans HB1.out.size HBC.out.size))))
        have hk31 : Kept wr w1 (Mut g bm vl vd1 ve1) := kept_trans (kept_of_below HBC.out _) hk3 (fun _ _ h => h)
        have hnm : ¬ Mut g bm vl vd1 ve1 n := fun e => by have := mut_lt HJ1.out _ e; have := HN.out.1; omega
        have hnl : n < wc.heap.size := (Array.getElem?_eq_some_iff.1 HN.out.2).1
        have hcn3 := (hk3.2 n hnl hnm).trans HN.out.2
        have hg3 := hJ3.hg
        have c5 := blk_cell hg3 5
        simp at c5
        obtain ⟨p0, p1, p2, p3⟩ := cells4 hcn3
        have HJ3 := Aside0.mk hJ3
        have HSL := Aside0.mk hsl1
        have HB3 := Aside0.mk hbel3
        have HK3 := Aside0.mk hk31
        have HCN := Aside0.mk (And.intro hnm hcn3)
        have hdl : J1.data.length + p.2.f3.length ≤ 10000000 := by
          have h1 := HOK1.out.data
          have h2 := HOK1.out.most
          have h3 := (HOK1.out.waitK p (by rw [hw]; simp)).2.2
          omega
        have hlen2 : er1.length ≤ 90000 := by
          have h1 := HLEN1.out
          have h2 := HLEN.out
          omega
        have hbw : base ≤ w1.heap.size := Nat.le_trans hb (Nat.le_trans HB1.out.size hbel3.size)
        have HA := Aside0.mk (And.intro hdl (And.intro hlen2 (And.intro hbw (And.intro hlc HOK1.out.nm0))))
        clear hw hp hlc hsl hall hne hown1 hturn1 hwv2 hyy hy1 hy2 hall2 hsrt hJ3 hk3 hsl1 hbel3 hk31 hnm hnl hcn3 hg3 hdl hlen2 hbw c3 c4 hmap hmapd
        simp only [Act.put]
        go_region_held3 (fun w' => w'.cell? ⟨g, 5, none⟩ = some (.int .i64 J1.next) ∧ w'.cell? ⟨n, 0, none⟩ = some (.bool p.2.f0) ∧ w'.cell? ⟨n, 1, none⟩ = some (.bool p.2.f1) ∧ w'.cell? ⟨n, 2, none⟩ = some (.int .i64 p.2.f2) ∧ w'.cell? ⟨n, 3, none⟩ = some (.slice A p.2.f3.length c)) (first | go_keep)
          (first | (go_at_call 58; refine (piece_any _ base g bm vl vd1 ve1 ys er1 { J1 with wait := q } J1.next p.2 A c (jm_drew HJ3.out) HA.out.2.2.2.2 HA.out.2.2.1 HA.out.2.1 HA.out.1 HA.out.2.2.2.1 HSL.out).mono ?_; rintro e2 w2 ⟨vd2, ve2, er2, ⟨v2, rfl⟩, hle2, hJ2, hk2, hm2, hb2⟩; have HJ2 := Aside0.mk hJ2; have HK2 := Aside0.mk hk2; have HM2 := Aside0.mk hm2; have HB2 := Aside0.mk hb2; have HLE2 := Aside0.mk hle2; have y5 := blk_cell hJ2.hg 5; have hcn4 := (hk2.2 n (Array.getElem?_eq_some_iff.1 HCN.out.2).1 HCN.out.1).trans HCN.out.2; obtain ⟨z0, z1, z2, z3⟩ := cells4 hcn4; simp [pieceJ_next] at y5; clear hJ2 hk2 hm2 hb2 hle2 hcn4))
        have fz2 : ∀ j, w2.frozen? ⟨g, j, none⟩ = false := fun j => blk_frozen HJ2.out.hg j
        have hwr : IntKind.i64.wrap (J1.next + 1) = J1.next + 1 := IntWalk.i64_in _ (by have := HOK1.out.next0; have := HOK1.out.nextK; omega)
        go_wp2
        have hs := blk_set HJ2.out.hg 5 (.int .i64 (J1.next + 1))
        have hk : Kept w2 (w2.setCell ⟨g, 5, none⟩ (.int .i64 (J1.next + 1))) (fun k => k = g) := ⟨by simp [World.setCell], fun k _ hs => far_cell _ g 5 k _ hs⟩
        obtain ⟨h1, h2, h3⟩ := JM_cells (J' := popJ J1 p.2 q) HJ2.out hk (by simpa [popJ] using hs) (.inl ⟨rfl, rfl⟩) (.inl ⟨rfl, rfl, rfl⟩) rfl rfl
        have hst : stepJ J1 = some (popJ J1 p.2 q) := by
          obtain ⟨hw, hp, -⟩ := HX.out
          unfold stepJ
          rw [hw]
          simp only
          rw [if_pos hp]
        obtain ⟨q1, q2, q3, q4⟩ := step_ok HOK1.out hst
        have hkk : Kept wr w2 (Mut g bm vl vd1 ve1) := kept_trans HK3.out (kept_trans (kept_of_below (below_drew (Below.refl _ _)) _) HK2.out (fun _ _ h => h)) (fun _ _ h => h)
        go_roundg (phi (popJ J1 p.2 q))
        case measure => exact q2
        case rel =>
          refine ⟨vd2, ve2, ys, er2, popJ J1 p.2 q, rfl, h1, q1, (run_step HOK1.out hst).symm.trans HRUN.out, ?_, ?_, ?_, ?_⟩
          · have := HLE2.out
            have := HLEN1.out
            omega
          · exact kept_trans HK1.out (kept_trans hkk h2 (fun k hk1 hm => HM2.out k (Nat.lt_of_lt_of_le hk1 HK3.out.1) hm)) HM1.out
          · intro k hk1 hm
            have hl : k < wr.heap.size := Nat.lt_of_lt_of_le hk1 HK1.out.1
            exact HM1.out k hk1 (HM2.out k (Nat.lt_of_lt_of_le hl HK3.out.1) (h3 k (Nat.lt_of_lt_of_le hl hkk.1) hm))
          · exact HB1.out.trans ((HB3.out.trans ((below_drew (Below.refl base w1)).trans HB2.out)).setCell (p := ⟨g, 5, none⟩) HJ.out.hgb _)
      · have hnx := HOK1.out.next0
        have hnx2 := HOK1.out.nextK
        have HM := Aside0.mk hmiss
        have hlw := HOK1.out.low
        have hmin := min_any HJC.out.hlast HOK1.out.last0
        have hnx3 : IntKind.i64.wrap (low J1 + 1) = low J1 + 1 := IntWalk.i64_in _ (by omega)
        change Calls Tryd.prog 59 _ _ (fun e w' => e = .returned (.int .i64 (low J1)) ∧ w' = wc) at hmin
        have HWL := Aside0.mk (show J1.wait.length ≤ 100000 by
          have h1 := HLEN1.out
          have h2 := HLEN.out
          have h3 : 3 * J1.wait.length ≤ phi J1 := by unfold phi; omega
          omega)
        obtain ⟨lw, hlwe⟩ : ∃ lw, low J1 = lw := ⟨_, rfl⟩
        have HLW := Aside0.mk hlwe
        have HNX := Aside0.mk (And.intro hlw (And.intro hnx hnx2))
        rw [hlwe] at hmin hnx3
        clear hmiss HCASE hmap c4 hlw hnx hnx2 hlwe
        cases hw : J1.wait with
        | nil =>
          have HW := Aside0.mk hw
          have hah := (ahead_any wc base g bm vl vd1 ve1 wv1 er1 J1 HJC.out HWL.out).mono (R' := fun e W' => e = .returned (.tuple #[.int .i64 0, .bool false]) ∧ W' = wc) (by
            rintro e w' (⟨-, rfl, rfl⟩ | ⟨p, q, hpq, -, -⟩)
            · exact ⟨rfl, rfl⟩
            · rw [hw] at hpq; cases hpq)
          clear hw
          by_cases hle : lw + 1 ≤ J1.next
          · have hst : stepJ J1 = none := by
              unfold stepJ
              rw [HW.out]
              simp only
              rw [if_pos (by rw [HLW.out]; exact hle)]
            have hrj : J1 = runJ J := (run_none hst).symm.trans HRUN.out
            have HRJ := Aside0.mk hrj
            clear hst hrj
            go_wp2_with (first | (go_at_call 59; refine hmin.mono ?_; rintro e w' ⟨rfl, rfl⟩) | (go_at_call 56; refine hah.mono ?_; rintro e w' ⟨rfl, rfl⟩))
            refine bodyPost_ret (results_none rfl _ _ _) rfl ?_
            exact ⟨vd1, ve1, wv1, er1, ⟨_, rfl⟩, HRJ.out ▸ HJC.out, kept_trans HK1.out (kept_of_below HBC.out (Mut g bm vl vd1 ve1)) HM1.out, HM1.out, HB1.out.trans (HBC.out.mono (Nat.le_trans hb HB1.out.size))⟩
          · have hwrp : IntKind.i64.wrap (lw + 1 - J1.next) = lw + 1 - J1.next := IntWalk.i64_in _ (by have := HNX.out; have := HLW.out; omega)
            have HBS := Aside0.mk (show base ≤ wc.heap.size from Nat.le_trans hb (Nat.le_trans HB1.out.size HBC.out.size))
            have HL2 := Aside0.mk (show er1.length ≤ 100000 by
              have h1 := HLEN1.out
              have h2 := HLEN.out
              omega)
            have hst : stepJ J1 = some (lostJ J1 (lw + 1)) := by
              unfold stepJ
              rw [HW.out]
              simp only
              rw [HLW.out, if_neg hle]
            obtain ⟨q1, q2, q3, q4⟩ := step_ok HOK1.out hst
            go_wp2_with (first | (go_at_call 59; refine hmin.mono ?_; rintro e w' ⟨rfl, rfl⟩) | (go_at_call 56; refine hah.mono ?_; rintro e w' ⟨rfl, rfl⟩) | (go_at_call 57; refine (lose_any _ base g bm vl vd1 ve1 wv1 er1 J1 (lw + 1) HJC.out HOK1.out.nm0 HBS.out HL2.out hwrp).mono ?_; rintro e w2 ⟨ve2, er2, ⟨v2, rfl⟩, hle2, hJ2, hk2, hm2, hb2⟩; have HX2 := Aside0.mk (And.intro hle2 (And.intro hJ2 (And.intro hk2 (And.intro hm2 hb2)))); clear hle2 hJ2 hk2 hm2 hb2))
            obtain ⟨hle2, hJ2, hk2, hm2, hb2⟩ := HX2.out
            have hkk := kept_trans HK1.out (kept_trans (kept_of_below HBC.out (Mut g bm vl vd1 ve1)) hk2 (fun _ _ h => h)) HM1.out
            go_roundg (phi (lostJ J1 (lw + 1)))
            case measure => exact q2
            case rel =>
              refine ⟨_, ve2, wv1, er2, lostJ J1 (lw + 1), rfl, hJ2, q1, (run_step HOK1.out hst).symm.trans HRUN.out, ?_, hkk, fun k hk1 hm => HM1.out k hk1 (hm2 k (Nat.lt_of_lt_of_le (Nat.lt_of_lt_of_le hk1 HK1.out.1) HBC.out.size) hm), (HB1.out.trans (HBC.out.mono (Nat.le_trans hb HB1.out.size))).trans hb2⟩
              have := HLEN1.out
              omega
        | cons p q =>
          have HW := Aside0.mk hw
          have hah := (ahead_any wc base g bm vl vd1 ve1 wv1 er1 J1 HJC.out HWL.out).mono (R' := fun e W' => e = .returned (.tuple #[.int .i64 p.1, .bool true]) ∧ Below wc.heap.size wc W') (by
            rintro e w' (⟨hn, -, -⟩ | ⟨p', q', hpq, he, hbb⟩)
            · rw [hw] at hn; cases hn
            · rw [hw] at hpq; cases hpq; exact ⟨he, hbb⟩)
          clear hw
          have hpk := HOK1.out.waitK p (by rw [HW.out]; simp)
          have HPK := Aside0.mk hpk
          clear hpk
          by_cases hle : min (lw + 1) p.1 ≤ J1.next
          · have hst : stepJ J1 = none := by
              unfold stepJ
              rw [HW.out]
              simp only
              rw [HLW.out, if_neg (HM.out p q HW.out), if_pos hle]
            have hrj : J1 = runJ J := (run_none hst).symm.trans HRUN.out
            have HRJ := Aside0.mk hrj
            clear hst hrj
            go_wp2_with (first | (go_at_call 59; refine hmin.mono ?_; rintro e w' ⟨rfl, rfl⟩) | (go_at_call 56; refine hah.mono ?_; rintro e w' ⟨rfl, hba⟩; have HBA := Aside0.mk hba; have c5a := (hba.cell (p := ⟨g, 5, none⟩) (Array.getElem?_eq_some_iff.1 HJC.out.hg).1).trans c5; clear hba))
            refine bodyPost_ret (results_none rfl _ _ _) rfl ?_
            exact ⟨vd1, ve1, wv1, er1, ⟨_, rfl⟩, HRJ.out ▸ jm_below HJC.out HBA.out, kept_trans HK1.out (kept_of_below (HBC.out.trans (HBA.out.mono HBC.out.size)) (Mut g bm vl vd1 ve1)) HM1.out, HM1.out, HB1.out.trans ((HBC.out.trans (HBA.out.mono HBC.out.size)).mono (Nat.le_trans hb HB1.out.size))⟩
          · have hwrp : IntKind.i64.wrap (min (lw + 1) p.1 - J1.next) = min (lw + 1) p.1 - J1.next := IntWalk.i64_in _ (by have := HNX.out; have := HLW.out; have := HPK.out.1; have := HPK.out.2.1; omega)
            have HBS := Aside0.mk (show base ≤ wc.heap.size from Nat.le_trans hb (Nat.le_trans HB1.out.size HBC.out.size))
            have HL2 := Aside0.mk (show er1.length ≤ 100000 by
              have h1 := HLEN1.out
              have h2 := HLEN.out
              omega)
            have hst : stepJ J1 = some (lostJ J1 (min (lw + 1) p.1)) := by
              unfold stepJ
              rw [HW.out]
              simp only
              rw [HLW.out, if_neg (HM.out p q HW.out), if_neg hle]
            obtain ⟨q1, q2, q3, q4⟩ := step_ok HOK1.out hst
            go_wp2_with (first | (go_at_call 59; refine hmin.mono ?_; rintro e w' ⟨rfl, rfl⟩) | (go_at_call 56; refine hah.mono ?_; rintro e w' ⟨rfl, hba⟩; have HBA := Aside0.mk hba; have c5a := (hba.cell (p := ⟨g, 5, none⟩) (Array.getElem?_eq_some_iff.1 HJC.out.hg).1).trans c5; have HBS2 := Aside0.mk (Nat.le_trans HBS.out hba.size); clear hba) | (go_at_call 57; refine (lose_any _ base g bm vl vd1 ve1 wv1 er1 J1 (min (lw + 1) p.1) (jm_below HJC.out HBA.out) HOK1.out.nm0 HBS2.out HL2.out hwrp).mono ?_; rintro e w2 ⟨ve2, er2, ⟨v2, rfl⟩, hle2, hJ2, hk2, hm2, hb2⟩; have HX2 := Aside0.mk (And.intro hle2 (And.intro hJ2 (And.intro hk2 (And.intro hm2 hb2)))); clear hle2 hJ2 hk2 hm2 hb2))
            obtain ⟨hle2, hJ2, hk2, hm2, hb2⟩ := HX2.out
            have hkk := kept_trans HK1.out (kept_trans (kept_of_below (HBC.out.trans (HBA.out.mono HBC.out.size)) (Mut g bm vl vd1 ve1)) hk2 (fun _ _ h => h)) HM1.out
            go_roundg (phi (lostJ J1 (min (lw + 1) p.1)))
            case measure => exact q2
            case rel =>
              refine ⟨_, ve2, wv1, er2, lostJ J1 (min (lw + 1) p.1), rfl, hJ2, q1, (run_step HOK1.out hst).symm.trans HRUN.out, ?_, hkk, fun k hk1 hm => HM1.out k hk1 (hm2 k (Nat.lt_of_lt_of_le (Nat.lt_of_lt_of_le hk1 HK1.out.1) (HBC.out.trans (HBA.out.mono HBC.out.size)).size) hm), (HB1.out.trans ((HBC.out.trans (HBA.out.mono HBC.out.size)).mono (Nat.le_trans hb HB1.out.size))).trans hb2⟩
              have := HLEN1.out
              omega

end Go.Proofs.YtgopklnfdlnojaaDoor.Jf
