/- A packet, parted: frag.Split. Conditions: the octets are few. -/
import Derived.RangeFuncFrom
import Derived.Test.YtgopklnfdlnojaaDoorSa
import Derived.Test.YtgopklnfdlnojaaDoorGp
import Derived.Test.YtgopklnfdlnojaaDoorMy
import Derived.Deep.RegionHeld3
namespace Go.Proofs.YtgopklnfdlnojaaDoor.Sb
open Go.RowKit Go.Shelf Go.Proofs.YtgopklnfdlnojaaDoor.Ga Go.Proofs.YtgopklnfdlnojaaDoor.My Go.Proofs.YtgopklnfdlnojaaDoor.Gb Go.Proofs.YtgopklnfdlnojaaDoor.Gp Go.Proofs.YtgopklnfdlnojaaDoor.Sa Go.Proofs.YtgopklnfdlnojaaDoorW.PrintWords Go.Proofs.YtgopklnfdlnojaaDoorW.PrintLast Go.Proofs.YtgopklnfdlnojaaDoorW.PrintMore
set_option linter.unusedVariables false
set_option linter.unusedSimpArgs false
attribute [local go_sem] Oper.semAt_some

set_option maxHeartbeats 2000000 in
set_option maxRecDepth 100000 in
theorem split_arg (short : Bool) (first most : Int) (A : Option Addr) (n c : Nat) (w : World) (hS : Shapes w) (hm : most < 1) :
    Calls Tryd.prog 20 #[.bool short, .int .i64 first, .int .i64 most, .slice A n c] w fun e w' => e = .returned (.tuple #[.slice none 0 0, .int .i64 0, .int .i64 1]) ∧ Below w.heap.size w w' := by
  go_enter Tryd.func20, Tryd.ntmps20
  go_wp2_with (go_at_call 38; refine (of_any short _ hS).mono ?_; rintro e1 w1 ⟨rfl, hb⟩)
  have hm2 : decide (most < 1) = true := decide_eq_true hm
  have X := Aside0.mk (below_alloc hb (.cells #[.int .i64 (octets short), .int .i64 (numbers short), .int .u8 (mask short)] 91))
  go_wp2
  exact bodyPost_ret (v := .tuple #[.slice none 0 0, .int .i64 0, .int .i64 1]) (by simp [results, Tryd.results20, go_sem]) rfl ⟨rfl, X.out⟩

set_option maxHeartbeats 2000000 in
set_option maxRecDepth 100000 in
theorem split_range (short : Bool) (first most : Int) (A : Option Addr) (n c : Nat) (w : World) (hS : Shapes w) (hm : ¬ most < 1) (hf : ¬ (0 ≤ first ∧ first < numbers short)) :
    Calls Tryd.prog 20 #[.bool short, .int .i64 first, .int .i64 most, .slice A n c] w fun e w' => e = .returned (.tuple #[.slice none 0 0, .int .i64 0, .int .i64 5]) ∧ Below w.heap.size w w' := by
  go_enter Tryd.func20, Tryd.ntmps20
  have hm2 : decide (most < 1) = false := decide_eq_false hm
  go_wp2_with (go_at_call 38; refine (of_any short _ hS).mono ?_; rintro e1 w1 ⟨rfl, hb⟩)
  have X := Aside0.mk (below_alloc hb (.cells #[.int .i64 (octets short), .int .i64 (numbers short), .int .u8 (mask short)] 91))
  refine (has_any short first _).mono ?_
  rintro e2 w2 ⟨rfl, hb2⟩
  have hf2 : decide (0 ≤ first ∧ first < numbers short) = false := decide_eq_false hf
  have X2 := Aside0.mk (below_step X.out hb2)
  rw [hf2]
  go_wp2
  exact bodyPost_ret (v := .tuple #[.slice none 0 0, .int .i64 0, .int .i64 5]) (by simp [results, Tryd.results20, go_sem]) rfl ⟨rfl, X2.out⟩

theorem info22 : (Tryd.prog.info? 22).map (fun i => (i.zero, i.size, i.bytes)) = some (some (.slice none 0 0), 1, 24) := by kernel_rfl
theorem cnt_le (m n : Nat) (hm : 1 ≤ m) : cnt m n ≤ n := by
  by_cases h : cnt m n = 0
  · omega
  · have := (cnt_lt m n (cnt m n - 1) hm).1 (by omega)
    have h2 : cnt m n - 1 ≤ (cnt m n - 1) * m := Nat.le_mul_of_pos_right _ hm
    omega
theorem set_far (w1 : World) (g k : Nat) (u : Value) (h : k ≠ g) : (w1.setCell ⟨g, 0, none⟩ u).heap[k]? = w1.heap[k]? := by
  simp [World.setCell, Array.getElem?_modify, Ne.symm h]
theorem al_at (W : World) (o : Obj) (k : Nat) (h : k < W.heap.size) : (W.alloc o).heap[k]? = W.heap[k]? := (below_alloc (Below.refl _ W) o).block k h
/-- The pieces. -/
def pcs (first nm : Int) (m N : Nat) (xs : List Int) : List S29 := (List.range N).map fun (k : Nat) => ⟨((k : Int) == 0), ((k : Int) == (N : Int) - 1), (first + k) % nm, (xs.drop (k * m)).take m⟩
theorem pcs_len (first nm : Int) (m N : Nat) (xs : List Int) : (pcs first nm m N xs).length = N := by simp [pcs]
theorem pcs_take (first nm : Int) (m N : Nat) (xs : List Int) (k : Nat) (h : k < N) : (pcs first nm m N xs).take (k + 1) = (pcs first nm m N xs).take k ++ [⟨((k : Int) == 0), ((k : Int) == (N : Int) - 1), (first + k) % nm, (xs.drop (k * m)).take m⟩] := by
  rw [List.take_add_one]
  congr 1
  simp [pcs, List.getElem?_range h]
theorem rnd (first nm : Int) (k N : Nat) (h0 : 0 ≤ first) (h1 : first < nm) (hn : nm = 4096 ∨ nm = 16777216) (hk : k < N) (hN : N ≤ 1000) :
    IntKind.i64.wrap (first + k) = first + k ∧ Int.tmod (first + k) nm = (first + k) % nm ∧ nm ≠ 0 ∧ IntKind.i64.wrap ((N : Int) - 1) = (N : Int) - 1 :=
  ⟨by rw [IntKind.wrap_i64]; omega, Int.tmod_eq_emod_of_nonneg (by omega), by omega, by rw [IntKind.wrap_i64]; omega⟩
theorem C_none {α : Type} {d : Kd α} {w : World} {A : Option Addr} {n : Nat} {xs : List α} (h : d.C w A n xs) : A = none → n = 0 := fun e => by
  by_cases hn : 0 < n
  · obtain ⟨ad, e2, _⟩ := h.2.2 hn
    rw [e] at e2
    cases e2
  · omega
theorem rnd2 (first nm : Int) (N : Nat) (h0 : 0 ≤ first) (h1 : first < nm) (hn : nm = 4096 ∨ nm = 16777216) (hN : N ≤ 1000) :
    IntKind.i64.wrap (first + N) = first + N ∧ Int.tmod (first + N) nm = (first + N) % nm ∧ nm ≠ 0 ∧ True :=
  ⟨by rw [IntKind.wrap_i64]; omega, Int.tmod_eq_emod_of_nonneg (by omega), by omega, trivial⟩
/-- One value of a row of the call's own. -/
theorem own_cell {w : World} {base : Nat} {e : TypeId} {N c : Nat} {A : Option Addr} {vs : List Value} {k : Nat} {u : Value} (h : w.ownsRow base e 1 (.slice A N c) N vs) (hk : k < N) (hu : vs[k]? = some u) : ∃ ad, A = some ad ∧ w.cell? (ad.add k) = some u := by
  rcases h.2 with ⟨he, hv⟩ | ⟨g, cap, cur, he, hg, hh, h1, h2, h3, h4⟩
  · omega
  · injection he with e1 e2 e3
    subst e1
    refine ⟨_, rfl, ?_⟩
    rw [add_plain, blk_cell hh]
    rw [← h4, List.getElem?_take, if_pos (by omega)] at hu
    simpa using hu
theorem chunk_C {w : World} {ad : Addr} {n : Nat} {xs : List Int} (h : (Kd.int .u8).C w (some ad) n xs) (m o : Nat) (ho : o < n) : (Kd.int .u8).C w (some (ad.add o)) (min m (n - o)) ((xs.drop o).take m) := by
  obtain rfl : xs.length = n := h.1
  have h1 := Kd.C_drop (c := xs.length + 1) (m := o) h (by omega) (by omega)
  rw [if_neg (by omega)] at h1
  have e : (some ad).map (·.add (o * (Kd.int .u8).sz)) = some (ad.add o) := by
    show some (ad.add (o * 1)) = _
    rw [Nat.mul_one]
  rw [e] at h1
  have h2 := Kd.C_take (m := min m (xs.length - o)) h1 (by rw [List.length_drop]; omega)
  have e2 : (xs.drop o).take (min m (xs.length - o)) = (xs.drop o).take m := by
    by_cases hm : m ≤ xs.length - o
    · rw [Nat.min_eq_left hm]
    · rw [Nat.min_eq_right (by omega), List.take_of_length_le (by rw [List.length_drop]; omega), List.take_of_length_le (by rw [List.length_drop]; omega)]
  rw [e2] at h2
  have e3 : ((xs.drop o).take m).length = min m (xs.length - o) := by rw [List.length_take, List.length_drop]
  rwa [e3] at h2
theorem grownBy_at (W : World) (l : Nat) (o : Obj) (k : Nat) (h : k ≠ l) : (W.putObj l o).heap[k]? = W.heap[k]? := by
  simp [World.putObj, Array.getElem?_setIfInBounds, Ne.symm h]
abbrev ev (x : Ch) : Value := .slice x.1 x.2.1 x.2.2
theorem rf {P : Program} {assign body : Code} {Q : Exit → Act → World → Prop} {a : Act} {w : World} {g : Operand} {lb : Array Value} {gf : Nat} (hg : a.eval g = .func (.func gf) #[] lb) (eg : ∀ args w, (callFunc gf args).run P w = .ok (.enter gf args) w)
    {Kp : World → World → Prop} {S Sp : List Ch → Prop} {N : Nat} (hseq : SeqStopsK Fence.wide 4 P gf lb enc1 Kp S Sp N w)
    (hKt : ∀ {A B C : World}, Kp A B → Kp B C → Kp A C) (hKb : ∀ (W : World) (l : Nat) (o o' : Obj), w.heap.size ≤ l → W.heap[l]? = some o → o.isCells = false → o.isWalk = false → Kp W (W.putObj l o'))
    (I : List Ch → World → Prop) (hI : OwnFrom w.heap.size I) (h0 : I [] w)
    (hassign : ∀ (l : Nat) (x : Ch) (W : World) (K : Act → World → Prop), K { tmps := (a.tmps.setIfInBounds 30 (ev x)).setIfInBounds 13 (ev x), defers := [] } W →
      assign.wpIn (Fence.wide.inRound l) (5 - 1 - 1) P (Exit.then K (fun _ _ _ => False)) { tmps := a.tmps.setIfInBounds 30 (ev x), defers := [] } W)
    (hbody : ∀ (l : Nat) (pre : List Ch) (x : Ch) (W : World), I pre W → pre.length < N → body.wpIn (Fence.wide.inRound l) (5 - 1 - 1) P (ownPostK Kp I (fun _ _ _ => False) (pre ++ [x]) W) { tmps := (a.tmps.setIfInBounds 30 (ev x)).setIfInBounds 13 (ev x), defers := [] } W)
    (hdone : ∀ (D : Nat) (xs : List Ch) (W : World), w.heap.size ≤ D → S xs → I xs W → W.heap[D]? = some (.deferred (some [])) → Q .normal { a with defers := { target := .collected D, args := #[] } :: a.defers } W) :
    (Code.rangeFunc g #[30] assign body).wp P Q a w :=
  wpIn_wide.1 (wpIn_rangeFunc_ownF (F := Fence.wide) (n := 5) rfl (by decide) hg trivial eg hseq hKt hKb (Below.refl _ _) (fun _ => rfl) I (fun _ _ _ => False) hI (fun _ _ _ _ _ h _ _ => h.elim) h0
    (fun x => { tmps := (a.tmps.setIfInBounds 30 (ev x)).setIfInBounds 13 (ev x), defers := [] }) (fun l x W K hK => by simpa [enc1] using hassign l x W K hK) hbody hdone (fun _ _ _ _ _ _ h _ => h.elim))

set_option maxHeartbeats 2000000 in
set_option maxRecDepth 100000 in
theorem split_main (short : Bool) (first : Int) (m : Nat) (A : Option Addr) (n c : Nat) (xs : List Int) (w : World) (hS : Shapes w) (hm : 1 ≤ m) (h0 : 0 ≤ first) (h1 : first < numbers short) (hC : (Kd.int .u8).C w A n xs) (hc : n ≤ c) (hn : n ≤ 1000) (hn0 : 0 < n) :
    Calls Tryd.prog 20 #[.bool short, .int .i64 first, .int .i64 m, .slice A n c] w fun e w' => ∃ A' c', e = .returned (.tuple #[.slice A' (cnt m n) c', .int .i64 ((first + (cnt m n : Nat)) % numbers short), .int .i64 0]) ∧ cnt m n ≤ c' ∧ k29.R 29 w' w.heap.size (fun _ => True) (.slice A' (cnt m n) c') (pcs first (numbers short) m (cnt m n) xs) ∧ Below w.heap.size w w' := by
  refine (callsIn_wide (n := 5)).1 (callsIn_of_wp_marks Tryd.func20 rfl trivial ?_ rfl)
  refine wpIn_wide.2 ?_
  simp only [Tryd.ntmps20, List.size_toArray, List.length_cons, List.length_nil, Nat.reduceAdd, Nat.reduceSub, Array.replicate_succ, Array.replicate_zero, List.push_toArray, List.append_toArray, List.nil_append, List.cons_append]
  obtain ⟨i0, hi, hz0, hz1, hz2⟩ := info_parts info22
  have hmm : decide ((m : Int) < 1) = false := decide_eq_false (by omega)
  go_wp2_with (go_at_call 38; refine (of_any short _ hS).mono ?_; rintro e1 w1 ⟨rfl, hb⟩)
  have X := Aside0.mk (below_alloc hb (.cells #[.int .i64 (octets short), .int .i64 (numbers short), .int .u8 (mask short)] 91))
  have hB11 := new1 w1 (.cells #[.int .i64 (octets short), .int .i64 (numbers short), .int .u8 (mask short)] 91)
  refine (has_any short first _).mono ?_
  rintro e2 w2 ⟨rfl, hb2⟩
  have hf2 : decide (0 ≤ first ∧ first < numbers short) = true := decide_eq_true ⟨h0, h1⟩
  have X2 := Aside0.mk (below_step X.out hb2)
  have HB11 := Aside0.mk (blk_keep hB11 hb2)
  clear hb hb2 hB11 X hS
  rw [hf2]
  generalize w1.heap.size = g11 at *
  go_wp2_with (go_at_call 42; refine (chunks_any A n c m _).mono ?_; rintro e3 w3 ⟨rfl, rfl⟩)
  obtain ⟨g12, hg12⟩ : ∃ g, w2.heap.size = g := ⟨_, rfl⟩
  obtain ⟨W0, hW0⟩ : ∃ W, ((w2.alloc (.cells #[.slice none 0 0] 81)).alloc (.cells #[.slice A n c] 22)).alloc (.cells #[.int .i64 m] 3) = W := ⟨_, rfl⟩
  have hsz : W0.heap.size = g12 + 3 := by rw [← hW0, World.size_alloc, World.size_alloc, World.size_alloc, hg12]
  have q0 : W0.heap[g12]? = some (.cells #[.slice none 0 0] 81 (0, 0)) := by
    rw [← hW0, ← hg12]
    exact blk_keep (blk_keep (new1 _ _) (below_alloc (Below.refl _ _) _)) (below_alloc (Below.refl _ _) _)
  have q1 : W0.heap[g12 + 1]? = some (.cells #[.slice A n c] 22 (0, 0)) := by
    have := new1 (w2.alloc (.cells #[.slice none 0 0] 81)) (.cells #[.slice A n c] 22)
    rw [World.size_alloc, hg12] at this
    rw [← hW0]
    exact blk_keep this (below_alloc (Below.refl _ _) _)
  have q2 : W0.heap[g12 + 2]? = some (.cells #[.int .i64 m] 3 (0, 0)) := by
    have := new1 ((w2.alloc (.cells #[.slice none 0 0] 81)).alloc (.cells #[.slice A n c] 22)) (.cells #[.int .i64 m] 3)
    rw [World.size_alloc, World.size_alloc, hg12] at this
    rw [← hW0]
    exact this
  have X0 : Below w.heap.size w W0 := by rw [← hW0]; exact below_alloc (below_alloc (below_alloc X2.out _) _) _
  have q3 : W0.heap[g11]? = some (.cells #[.int .i64 (octets short), .int .i64 (numbers short), .int .u8 (mask short)] 91 (0, 0)) := by
    rw [← hW0]
    exact blk_keep HB11.out (below_alloc (below_alloc (below_alloc (Below.refl _ _) _) _) _)
  have hg12b : w.heap.size ≤ g12 := by rw [← hg12]; exact X2.out.size
  have hg11 : g11 < g12 := by rw [← hg12]; exact (Array.getElem?_eq_some_iff.1 HB11.out).1
  rw [hW0]
  simp only [hg12]
  clear hW0 HB11 X2
  obtain ⟨ad, hA⟩ : ∃ ad, A = some ad := by
    obtain ⟨ad, e, _⟩ := hC.2.2 hn0
    exact ⟨ad, e⟩
  subst hA
  refine rf (gf := 51) rfl (enters_of Tryd.func51 (by kernel_rfl) rfl) (chunks_stops Fence.wide 4 trivial rfl (by decide) (g12 + 1) (g12 + 1 + 1) (some ad) ad n c m (fun _ => rfl) (by omega) hc hm _ (by omega) (by omega) (by simp [World.cell?, q1]) (by simp [World.cell?, q2])) K2.trans
    (fun W l o o' hl ho _ _ => ⟨grownBy_at W l o' (g12 + 1) (by omega), grownBy_at W l o' (g12 + 1 + 1) (by omega)⟩)
    (fun pre W => (∃ v, Boxed W g12 81 v ∧ W.ownsRow (g12 + 3) 22 1 v pre.length (pre.map ev)) ∧ Below w.heap.size w W ∧ W.heap[g11]? = some (.cells #[.int .i64 (octets short), .int .i64 (numbers short), .int .u8 (mask short)] 91 (0, 0)) ∧ W0.heap.size ≤ W.heap.size)
    ?hI ⟨⟨_, q0, World.ownsRow_nil _ _ _ _⟩, X0, q3, Nat.le_refl _⟩ ?assign ?body ?done
  case hI =>
    refine OwnFrom.and (Own.from (by have := holdsRow_own (g12 + 3) g12 81 22 1 (fun pre : List Ch => pre.length) (fun pre => pre.map ev) (fun _ _ => True); simpa using this) _) (OwnFrom.and (ownFrom_below (Nat.le_refl _) (by omega)) ?_)
    intro s W W' row hs hg hr
    refine ⟨(hg.block g11 (Array.getElem?_eq_some_iff.1 hs.1).1 (fun e => ?_)).trans hs.1, Nat.le_trans hs.2 hg.size⟩
    have := (hr g11 e.symm).1
    omega
  case assign =>
    intro l x W K hK
    gi_wp2
    exact hK
  case body =>
    rintro l pre x W ⟨⟨v, hv, hrow⟩, hB, hg, hsW⟩ hlt
    have hc0 := hv.cell
    have hcn := cnt_le m n hm
    have hbb1 : pre.length + 1 ≤ maxLen := by unfold maxLen; omega
    have hbb2 : (pre.length + 1) * 24 ≤ 140737488355328 := by omega
    simp only [List.setIfInBounds_toArray, List.set_cons_zero, List.set_cons_succ]
    gi_wp2_with (gi_at_builtin; refine wpListIn_append_own _ rfl _ _ 81 rfl (g12 + 3) 22 i0 (.slice none 0 0) 1 24 Tryd.underlying81 hi hz0 hz1 hz2 rfl (by decide) _ _ _ rfl (hrow.alloc _) ⟨W.heap.size, 0, none⟩ 1 1 [ev x] rfl rfl (cell_one_new _ _ _) (by simp [Value.oneCell']) hbb1 hbb2 (by rw [World.size_alloc]; omega) ?_; intro v' w1 hown' hgrow _; obtain ⟨g', cap', rfl⟩ := ownsRow_succ hown'; obtain ⟨hv1, hv2, hr2, hk2, hb2⟩ := hv.appended (n₀ := g12) (by decide) (own_weaken hrow (by omega)) (by omega) (Nat.le_refl _) (own_weaken hown' (by omega)) hgrow; have hc1 := hv1.cell; have hf1 := hv1.frozen)
    have hne : some g12 ≠ (Value.slice (some ⟨g', 0, none⟩) (pre.length + 1) cap').ownBlock := fun e => by
      have := own_base hown' g12 e.symm
      omega
    have hK : ∀ k, g12 < k → k < g12 + 3 → (w1.setCell ⟨g12, 0, none⟩ (.slice (some ⟨g', 0, none⟩) (pre.length + 1) cap')).heap[k]? = W.heap[k]? := fun k h1 h2 =>
      (set_far w1 g12 k _ (by omega)).trans ((hgrow.block k (by rw [World.size_alloc]; omega) (fun e => by have := own_base hrow k e.symm; omega)).trans (al_at W _ k (by omega)))
    refine ⟨hk2, ⟨hK _ (by omega) (by omega), hK _ (by omega) (by omega)⟩, ⟨_, hv2, ?_⟩, hB.trans (hb2.mono hg12b), (hb2.block g11 hg11).trans hg, Nat.le_trans hsW hb2.size⟩
    have hr := own_setCell hown' (p := ⟨g12, 0, none⟩) hne (.slice (some ⟨g', 0, none⟩) (pre.length + 1) cap')
    simpa using hr
  case done =>
    rintro D ys W hD rfl ⟨⟨v, hv, hrow⟩, hB, hg, hsW⟩ hK
    obtain ⟨AP, cp, rfl⟩ := own_slice hrow
    have hc0 := hv.cell
    simp only [upto_len] at hrow hv hc0
    have hcn := cnt_le m n hm
    have hcp : 0 < cnt m n := (cnt_lt m n 0 hm).2 (by omega)
    obtain ⟨N, hN⟩ : ∃ N, cnt m n = N := ⟨_, rfl⟩
    rw [hN] at hrow hv hc0 hcn hcp
    have e0 : decide ((N : Int) = 0) = false := decide_eq_false (by omega)
    have e0b : ((N : Int) == 0) = false := by simp; omega
    obtain ⟨-, c1, -⟩ := cells3 hg
    obtain ⟨nm, hnm⟩ : ∃ nm, numbers short = nm := ⟨_, rfl⟩
    rw [hnm] at c1 h1 ⊢
    have hn2 : nm = 4096 ∨ nm = 16777216 := by
      rw [← hnm]
      cases short
      · exact .inr rfl
      · exact .inl rfl
    have hq : decide (Int.tdiv nm 2 < (N : Int)) = false := by
      have h1 : Int.tdiv 4096 2 = 2048 := rfl
      have h2 : Int.tdiv 16777216 2 = 8388608 := rfl
      rcases hn2 with h | h <;> rw [h] <;> (first | rw [h1] | rw [h2]) <;> exact decide_eq_false (by omega)
    have hq2 : wrap64 (Int.tdiv nm 2) = Int.tdiv nm 2 := by
      have h1 : Int.tdiv 4096 2 = 2048 := rfl
      have h2 : Int.tdiv 16777216 2 = 8388608 := rfl
      rcases hn2 with h | h <;> rw [h] <;> (first | rw [h1] | rw [h2]) <;> (unfold wrap64; omega)
    have HP : ∀ k, k < N → ∃ adP Ak nk ck, AP = some adP ∧ W.cell? (adP.add k) = some (.slice Ak nk ck) ∧ nk ≤ ck ∧ nk ≤ 1000 ∧ (Kd.int .u8).C W Ak nk ((xs.drop (k * m)).take m) := by
      intro k hk
      obtain ⟨adP, e, hcell⟩ := own_cell hrow (k := k) (u := ev (chk ad c m n k)) hk (by simp [upto, List.getElem?_range hk])
      have hkm : k * m < n := (cnt_lt m n k hm).1 (by omega)
      refine ⟨adP, some (ad.add (k * m)), min m (n - k * m), c - k * m, e, hcell, by omega, by omega, ?_⟩
      exact chunk_C (Kd.C_below hC hB) m (k * m) hkm
    have HPA := Aside0.mk HP
    clear HP
    have HPs := hv
    obtain ⟨HBT, HBL⟩ : Aside0 (Boxed W g12 81 (.slice AP N cp)) ∧ Aside0 (Below w.heap.size w W) := ⟨⟨hv⟩, ⟨hB⟩⟩
    have HG11 := Aside0.mk hg
    have HDK := Aside0.mk hK
    clear hv hB hg hK hrow hsW HPs
    have HDW := Aside0.mk (show w.heap.size ≤ D by omega)
    clear q0 q1 q2 q3 X0 hsz
    go_wp2
    clear hq hq2 e0 e0b
    go_loopw [14, 47] (fun v14 v47 wr => ∃ k : Nat, k ≤ N ∧ v47 = .int .i64 k ∧ Aside0 (k29.R 29 wr W.heap.size (fun _ => True) v14 ((pcs first nm m N xs).take k)) ∧ Aside0 (Below W.heap.size W wr)) (fun _ v47 _ => N - (intOf v47).toNat)
    case atStart => exact ⟨0, Nat.zero_le _, rfl, ⟨Kd.R_nil _ _ _ _ _⟩, ⟨Below.refl _ _⟩⟩
    case round =>
      obtain ⟨k, hk, rfl, HR, HB⟩ := hrel
      by_cases hlt : k < N
      · obtain ⟨adP, Ak, nk, ck, rfl, hpc, hnk, hnk2, hCk⟩ := HPA.out k hlt
        have hp0 := pw_cell_below HB.out hpc
        have d0 := pw_cell_below HB.out hc0
        have d1 := pw_cell_below HB.out c1
        have HCK := Aside0.mk (Kd.C_below hCk HB.out)
        obtain ⟨e1, e2, e3, e4⟩ := rnd first nm k N h0 h1 hn2 hlt (by omega)
        clear hCk hpc
        have hu41 := Tryd.underlying41
        have hAk : Ak = none → nk = 0 := C_none HCK.out
        have HNK := Aside0.mk (And.intro hnk (And.intro hnk2 hAk))
        clear hnk hnk2 hAk
        go_wp2_with (fail)
        have HLT := Aside0.mk (show g11 < W.heap.size ∧ g12 < W.heap.size from ⟨(Array.getElem?_eq_some_iff.1 HG11.out).1, (Array.getElem?_eq_some_iff.1 HBT.out).1⟩)
        have HC1 := Aside0.mk c1
        have HC0 := Aside0.mk hc0
        have hll : ((pcs first nm m N xs).take k).length = k := by rw [List.length_take, pcs_len]; omega
        have HLL := Aside0.mk hll
        clear hll c1 hc0
        go_region_held3 (fun w' => w'.cell? ⟨g12, 0, none⟩ = some (.slice (some adP) N cp) ∧ w'.cell? ⟨g11, 1, none⟩ = some (.int .i64 nm))
          (first | go_keep)
          (first | (go_at_call 41; refine (clone_any Ak nk ck ((xs.drop (k * m)).take m) _ (Kd.C_drew HCK.out) HNK.out.1 HNK.out.2.2 (by have := HNK.out.2.1; omega)).mono ?_; rintro e2 w2 ⟨A', c', rfl, hlc, hR, hb⟩; have HBB := Aside0.mk (below_step (below_drew HB.out) hb); have HRR := Aside0.mk (Kd.R_below (Kd.R_drew HR.out) hb); have HRC := Aside0.mk hR; have HLC := Aside0.mk hlc; have HSZ := Aside0.mk hb.size; have y0 := (HBB.out.cell (p := ⟨g12, 0, none⟩) HLT.out.2).trans HC0.out; have y1 := (HBB.out.cell (p := ⟨g11, 1, none⟩) HLT.out.1).trans HC1.out; clear hlc hR hb)
                 | (refine Kd.R_append_step k29 (w0 := W) W.heap.size ?aW (.tmp 52) (.tmp 69) 41 29 (.agg #[.bool false, .bool false, .int .i64 0, .slice none 0 0]) 40 ?aU Tryd.underlying41 info29 rfl (by decide) (by decide) u14 ((pcs first nm m N xs).take k) ⟨((k : Int) == 0), ((k : Int) == (N : Int) - 1), (first + k) % nm, (xs.drop (k * m)).take m⟩ [.bool ((k : Int) == 0), .bool ((k : Int) == (N : Int) - 1), .int .i64 ((first + k) % nm), .slice A' nk c'] (fun _ => True) (fun j => wr.heap.size ≤ j) ?aV ?aX ?aP ?aK (fun _ _ => trivial) ?aO ?aB ?aS ?aL ?_; (case aW => rfl); (case aU => rfl); (case aV => rfl); (case aX => rfl); (case aO => exact HRR.out); (case aB => exact HBB.out); (case aS => exact HBB.out.size); (case aP => exact k29_mkM w2 W.heap.size _ _ (Kd.R_lower (Kd.R_mono (Kd.R_bound HRC.out) (fun j hj => hj.2.1)) HB.out.size)); (case aK => exact fun j hj => ⟨trivial, fun e => absurd (Kd.R_lt HR.out j e.symm) (by omega)⟩); (case aL => rw [HLL.out]; omega); intro v1 w9 ho hb9 hg hat; have HR2 := Aside0.mk ho; have HB2 := Aside0.mk hb9; have z0 := (hb9.cell (p := ⟨g12, 0, none⟩) HLT.out.2).trans HC0.out; have z1 := (hb9.cell (p := ⟨g11, 1, none⟩) HLT.out.1).trans HC1.out; clear ho hb9 hg hat))
        go_wp2
        go_roundw
        case measure => simp [intOf]; omega
        case rel =>
          exact ⟨k + 1, by omega, by go_num, ⟨by rw [pcs_take _ _ _ _ _ _ hlt]; exact HR2.out⟩, HB2⟩
      · have hk : k = N := by omega
        subst hk
        have d0 := pw_cell_below HB.out hc0
        have d1 := pw_cell_below HB.out c1
        have hDs := (Array.getElem?_eq_some_iff.1 HDK.out).1
        have HDK2 := Aside0.mk ((HB.out.block D hDs).trans HDK.out)
        obtain ⟨e1, e2, e3, e4⟩ := rnd2 first nm k h0 h1 hn2 (by omega)
        go_wp2_with (fail)
        go_region_held3 (fun w' => w'.cell? ⟨g12, 0, none⟩ = some (.slice AP k cp) ∧ w'.cell? ⟨g11, 1, none⟩ = some (.int .i64 nm)) (first | go_keep) (first | fail)
        go_wp2
        have HF := Aside0.mk (Kd.R_drew HR.out)
        have HBF := Aside0.mk (below_drew HB.out)
        have hDd : wr.drew.heap[D]? = some (.deferred (some [])) := HDK2.out
        generalize wr.drew = wf at HF HBF hDd ⊢
        have hll : (pcs first nm m k xs).length = k := pcs_len _ _ _ _ _
        refine ⟨by simp, .inl ⟨_, _, rfl, run_takeDeferred hDd, ?_⟩⟩
        refine ⟨.tuple #[u14, .int .i64 ((first + k) % nm), .int .i64 0], by simp [results, Tryd.results20, go_sem], ?_⟩
        have hF2 := Kd.R_step (w1 := wf.putObj D (.deferred none)) (Kd.R_bound HF.out) (fun j hj _ => grownBy_at wf D _ j (by omega))
        rw [List.take_of_length_le (by omega)] at hF2
        obtain ⟨A', c', hv, hcc, hC2⟩ := Kd.R_reads hF2
        rw [hll] at hv hcc hC2
        subst hv
        rw [hN, hnm]
        exact ⟨A', c', rfl, hcc, Kd.R_lower (Kd.R_mono hF2 (fun _ _ => trivial)) HBL.out.size, (HBL.out.trans (HBF.out.mono HBL.out.size)).trans (belowK_b (w := w) (Nat.le_refl _) wf D _ _ HDW.out hDd rfl rfl)⟩

-- ZERO
set_option maxHeartbeats 2000000 in
set_option maxRecDepth 100000 in
theorem split_zero (short : Bool) (first : Int) (m : Nat) (A : Option Addr) (n c : Nat) (xs : List Int) (w : World) (hS : Shapes w) (hm : 1 ≤ m) (h0 : 0 ≤ first) (h1 : first < numbers short) (hC : (Kd.int .u8).C w A n xs) (hc : n ≤ c) (hn : n ≤ 1000) (hn0 : n = 0) :
    Calls Tryd.prog 20 #[.bool short, .int .i64 first, .int .i64 m, .slice A n c] w fun e w' => ∃ A' c', e = .returned (.tuple #[.slice A' 1 c', .int .i64 ((first + (1 : Nat)) % numbers short), .int .i64 0]) ∧ 1 ≤ c' ∧ k29.R 29 w' w.heap.size (fun _ => True) (.slice A' 1 c') (pcs first (numbers short) m 1 xs) ∧ Below w.heap.size w w' := by
  have HN0 := Aside0.mk hn0
  clear hn0
  refine (callsIn_wide (n := 5)).1 (callsIn_of_wp_marks Tryd.func20 rfl trivial ?_ rfl)
  refine wpIn_wide.2 ?_
  simp only [Tryd.ntmps20, List.size_toArray, List.length_cons, List.length_nil, Nat.reduceAdd, Nat.reduceSub, Array.replicate_succ, Array.replicate_zero, List.push_toArray, List.append_toArray, List.nil_append, List.cons_append]
  obtain ⟨i0, hi, hz0, hz1, hz2⟩ := info_parts info22
  have hmm : decide ((m : Int) < 1) = false := decide_eq_false (by omega)
  go_wp2_with (go_at_call 38; refine (of_any short _ hS).mono ?_; rintro e1 w1 ⟨rfl, hb⟩)
  have X := Aside0.mk (below_alloc hb (.cells #[.int .i64 (octets short), .int .i64 (numbers short), .int .u8 (mask short)] 91))
  have hB11 := new1 w1 (.cells #[.int .i64 (octets short), .int .i64 (numbers short), .int .u8 (mask short)] 91)
  refine (has_any short first _).mono ?_
  rintro e2 w2 ⟨rfl, hb2⟩
  have hf2 : decide (0 ≤ first ∧ first < numbers short) = true := decide_eq_true ⟨h0, h1⟩
  have X2 := Aside0.mk (below_step X.out hb2)
  have HB11 := Aside0.mk (blk_keep hB11 hb2)
  clear hb hb2 hB11 X hS
  rw [hf2]
  generalize w1.heap.size = g11 at *
  go_wp2_with (go_at_call 42; refine (chunks_any A n c m _).mono ?_; rintro e3 w3 ⟨rfl, rfl⟩)
  obtain ⟨g12, hg12⟩ : ∃ g, w2.heap.size = g := ⟨_, rfl⟩
  obtain ⟨W0, hW0⟩ : ∃ W, ((w2.alloc (.cells #[.slice none 0 0] 81)).alloc (.cells #[.slice A n c] 22)).alloc (.cells #[.int .i64 m] 3) = W := ⟨_, rfl⟩
  have hsz : W0.heap.size = g12 + 3 := by rw [← hW0, World.size_alloc, World.size_alloc, World.size_alloc, hg12]
  have q0 : W0.heap[g12]? = some (.cells #[.slice none 0 0] 81 (0, 0)) := by
    rw [← hW0, ← hg12]
    exact blk_keep (blk_keep (new1 _ _) (below_alloc (Below.refl _ _) _)) (below_alloc (Below.refl _ _) _)
  have q1 : W0.heap[g12 + 1]? = some (.cells #[.slice A n c] 22 (0, 0)) := by
    have := new1 (w2.alloc (.cells #[.slice none 0 0] 81)) (.cells #[.slice A n c] 22)
    rw [World.size_alloc, hg12] at this
    rw [← hW0]
    exact blk_keep this (below_alloc (Below.refl _ _) _)
  have q2 : W0.heap[g12 + 2]? = some (.cells #[.int .i64 m] 3 (0, 0)) := by
    have := new1 ((w2.alloc (.cells #[.slice none 0 0] 81)).alloc (.cells #[.slice A n c] 22)) (.cells #[.int .i64 m] 3)
    rw [World.size_alloc, World.size_alloc, hg12] at this
    rw [← hW0]
    exact this
  have X0 : Below w.heap.size w W0 := by rw [← hW0]; exact below_alloc (below_alloc (below_alloc X2.out _) _) _
  have q3 : W0.heap[g11]? = some (.cells #[.int .i64 (octets short), .int .i64 (numbers short), .int .u8 (mask short)] 91 (0, 0)) := by
    rw [← hW0]
    exact blk_keep HB11.out (below_alloc (below_alloc (below_alloc (Below.refl _ _) _) _) _)
  have hg12b : w.heap.size ≤ g12 := by rw [← hg12]; exact X2.out.size
  have hg11 : g11 < g12 := by rw [← hg12]; exact (Array.getElem?_eq_some_iff.1 HB11.out).1
  rw [hW0]
  simp only [hg12]
  clear hW0 HB11 X2
  obtain ⟨ad, hA⟩ : ∃ ad : Addr, ad = ⟨0, 0, none⟩ := ⟨_, rfl⟩
  refine rf (gf := 51) rfl (enters_of Tryd.func51 (by kernel_rfl) rfl) (chunks_stops Fence.wide 4 trivial rfl (by decide) (g12 + 1) (g12 + 1 + 1) A ad n c m (fun h => absurd h (by have := HN0.out; omega)) (by omega) hc hm _ (by omega) (by omega) (by simp [World.cell?, q1]) (by simp [World.cell?, q2])) K2.trans
    (fun W l o o' hl ho _ _ => ⟨grownBy_at W l o' (g12 + 1) (by omega), grownBy_at W l o' (g12 + 1 + 1) (by omega)⟩)
    (fun pre W => (∃ v, Boxed W g12 81 v ∧ W.ownsRow (g12 + 3) 22 1 v pre.length (pre.map ev)) ∧ Below w.heap.size w W ∧ W.heap[g11]? = some (.cells #[.int .i64 (octets short), .int .i64 (numbers short), .int .u8 (mask short)] 91 (0, 0)) ∧ W0.heap.size ≤ W.heap.size)
    ?hI ⟨⟨_, q0, World.ownsRow_nil _ _ _ _⟩, X0, q3, Nat.le_refl _⟩ ?assign ?body ?done
  case hI =>
    refine OwnFrom.and (Own.from (by have := holdsRow_own (g12 + 3) g12 81 22 1 (fun pre : List Ch => pre.length) (fun pre => pre.map ev) (fun _ _ => True); simpa using this) _) (OwnFrom.and (ownFrom_below (Nat.le_refl _) (by omega)) ?_)
    intro s W W' row hs hg hr
    refine ⟨(hg.block g11 (Array.getElem?_eq_some_iff.1 hs.1).1 (fun e => ?_)).trans hs.1, Nat.le_trans hs.2 hg.size⟩
    have := (hr g11 e.symm).1
    omega
  case assign =>
    intro l x W K hK
    gi_wp2
    exact hK
  case body =>
    rintro l pre x W ⟨⟨v, hv, hrow⟩, hB, hg, hsW⟩ hlt
    have hc0 := hv.cell
    have hcn := cnt_le m n hm
    have hbb1 : pre.length + 1 ≤ maxLen := by unfold maxLen; omega
    have hbb2 : (pre.length + 1) * 24 ≤ 140737488355328 := by omega
    simp only [List.setIfInBounds_toArray, List.set_cons_zero, List.set_cons_succ]
    gi_wp2_with (gi_at_builtin; refine wpListIn_append_own _ rfl _ _ 81 rfl (g12 + 3) 22 i0 (.slice none 0 0) 1 24 Tryd.underlying81 hi hz0 hz1 hz2 rfl (by decide) _ _ _ rfl (hrow.alloc _) ⟨W.heap.size, 0, none⟩ 1 1 [ev x] rfl rfl (cell_one_new _ _ _) (by simp [Value.oneCell']) hbb1 hbb2 (by rw [World.size_alloc]; omega) ?_; intro v' w1 hown' hgrow _; obtain ⟨g', cap', rfl⟩ := ownsRow_succ hown'; obtain ⟨hv1, hv2, hr2, hk2, hb2⟩ := hv.appended (n₀ := g12) (by decide) (own_weaken hrow (by omega)) (by omega) (Nat.le_refl _) (own_weaken hown' (by omega)) hgrow; have hc1 := hv1.cell; have hf1 := hv1.frozen)
    have hne : some g12 ≠ (Value.slice (some ⟨g', 0, none⟩) (pre.length + 1) cap').ownBlock := fun e => by
      have := own_base hown' g12 e.symm
      omega
    have hK : ∀ k, g12 < k → k < g12 + 3 → (w1.setCell ⟨g12, 0, none⟩ (.slice (some ⟨g', 0, none⟩) (pre.length + 1) cap')).heap[k]? = W.heap[k]? := fun k h1 h2 =>
      (set_far w1 g12 k _ (by omega)).trans ((hgrow.block k (by rw [World.size_alloc]; omega) (fun e => by have := own_base hrow k e.symm; omega)).trans (al_at W _ k (by omega)))
    refine ⟨hk2, ⟨hK _ (by omega) (by omega), hK _ (by omega) (by omega)⟩, ⟨_, hv2, ?_⟩, hB.trans (hb2.mono hg12b), (hb2.block g11 hg11).trans hg, Nat.le_trans hsW hb2.size⟩
    have hr := own_setCell hown' (p := ⟨g12, 0, none⟩) hne (.slice (some ⟨g', 0, none⟩) (pre.length + 1) cap')
    simpa using hr
  case done =>
    rintro D ys W hD rfl ⟨⟨v, hv, hrow⟩, hB, hg, hsW⟩ hK
    have hcn := cnt_le m n hm
    have hz : cnt m n = 0 := by have := HN0.out; omega
    rw [hz] at hrow
    obtain ⟨AP0, cp0, rfl⟩ := own_slice hrow
    have hc00 := hv.cell
    simp only [upto, List.range_zero, List.map_nil, List.length_nil] at hc00 hv hrow
    have hf00 := hv.frozen
    have hc01 : (W.alloc (.cells #[.slice none 0 0] 22)).cell? ⟨g12, 0, none⟩ = some (.slice AP0 0 cp0) := (below_alloc (Below.refl _ W) (.cells #[.slice none 0 0] 22)).cell (p := ⟨g12, 0, none⟩) hv.lt |>.trans hc00
    have hf01 := (hv.alloc (.cells #[.slice none 0 0] 22)).frozen
    go_upto_region 12 with (fail)
    have hv1 := (hv.alloc (.cells #[.slice none 0 0] 22)).set (.slice (some ⟨W.heap.size, 0, none⟩) 1 1)
    have hB1 : Below w.heap.size w ((W.alloc (.cells #[.slice none 0 0] 22)).setCell ⟨g12, 0, none⟩ (.slice (some ⟨W.heap.size, 0, none⟩) 1 1)) := (below_alloc hB _).setCell (p := ⟨g12, 0, none⟩) hg12b _
    have hg1 := (set_far (W.alloc (.cells #[.slice none 0 0] 22)) g12 g11 (.slice (some ⟨W.heap.size, 0, none⟩) 1 1) (by omega)).trans (blk_keep hg (below_alloc (Below.refl _ W) _))
    have hK1 := (set_far (W.alloc (.cells #[.slice none 0 0] 22)) g12 D (.slice (some ⟨W.heap.size, 0, none⟩) 1 1) (by omega)).trans (blk_keep hK (below_alloc (Below.refl _ W) _))
    have hP1 : ((W.alloc (.cells #[.slice none 0 0] 22)).setCell ⟨g12, 0, none⟩ (.slice (some ⟨W.heap.size, 0, none⟩) 1 1)).cell? ⟨W.heap.size, 0, none⟩ = some (.slice none 0 0) := by
      rw [World.cell?, set_far _ _ _ _ (show W.heap.size ≠ g12 from (Nat.ne_of_lt hv.lt).symm), new1 W (.cells #[.slice none 0 0] 22)]
      rfl
    clear hc00 hc01 hf00 hf01 hv hB hg hK hrow
    generalize (W.alloc (.cells #[.slice none 0 0] 22)).setCell ⟨g12, 0, none⟩ (.slice (some ⟨W.heap.size, 0, none⟩) 1 1) = W9 at hv1 hB1 hg1 hK1 hP1 ⊢
    generalize W.heap.size = gp at hv1 hP1 ⊢
    clear hsW
    clear W
    rename World => W
    obtain ⟨N, hN⟩ : ∃ N, 1 = N := ⟨_, rfl⟩
    obtain ⟨cp, hcpe⟩ : ∃ c : Nat, c = 1 := ⟨_, rfl⟩
    obtain ⟨AP, hAP⟩ : ∃ A, some (⟨gp, 0, none⟩ : Addr) = A := ⟨_, rfl⟩
    rw [hAP] at hv1
    have hv : Boxed W g12 81 (.slice AP N cp) := by rw [← hN, hcpe]; exact hv1
    have hc0 := hv.cell
    have hB := hB1
    have hg := hg1
    have hK := hK1
    clear hv1 hB1 hg1 hK1
    have hcn : N ≤ 1 := by omega
    have hcp : 0 < N := by omega
    have HN1 := Aside0.mk hN
    have HCP := Aside0.mk hcpe
    have HAP := Aside0.mk hAP
    clear hN hcpe hAP
    have hrow := hcn
    have hsW := hcn
    have e0 : decide ((N : Int) = 0) = false := decide_eq_false (by omega)
    have e0b : ((N : Int) == 0) = false := by simp; omega
    obtain ⟨-, c1, -⟩ := cells3 hg
    obtain ⟨nm, hnm⟩ : ∃ nm, numbers short = nm := ⟨_, rfl⟩
    rw [hnm] at c1 h1 ⊢
    have hn2 : nm = 4096 ∨ nm = 16777216 := by
      rw [← hnm]
      cases short
      · exact .inr rfl
      · exact .inl rfl
    have hq : decide (Int.tdiv nm 2 < (N : Int)) = false := by
      have h1 : Int.tdiv 4096 2 = 2048 := rfl
      have h2 : Int.tdiv 16777216 2 = 8388608 := rfl
      rcases hn2 with h | h <;> rw [h] <;> (first | rw [h1] | rw [h2]) <;> exact decide_eq_false (by omega)
    have hq2 : wrap64 (Int.tdiv nm 2) = Int.tdiv nm 2 := by
      have h1 : Int.tdiv 4096 2 = 2048 := rfl
      have h2 : Int.tdiv 16777216 2 = 8388608 := rfl
      rcases hn2 with h | h <;> rw [h] <;> (first | rw [h1] | rw [h2]) <;> (unfold wrap64; omega)
    have HP : ∀ k, k < N → ∃ adP Ak nk ck, AP = some adP ∧ W.cell? (adP.add k) = some (.slice Ak nk ck) ∧ nk ≤ ck ∧ nk ≤ 1000 ∧ (Kd.int .u8).C W Ak nk ((xs.drop (k * m)).take m) := by
      intro k hk
      obtain rfl : k = 0 := by omega
      have hAP := HAP.out
      subst hAP
      refine ⟨_, none, 0, 0, rfl, ?_, Nat.le_refl _, by omega, ?_⟩
      · rw [add_plain]
        exact hP1
      · have hxs : xs = [] := List.length_eq_zero_iff.1 (hC.1.trans HN0.out)
        rw [hxs]
        simp only [List.drop_nil, List.take_nil]
        exact Kd.C_nil _ _
    have HPA := Aside0.mk HP
    clear HP
    have HPs := hv
    obtain ⟨HBT, HBL⟩ : Aside0 (Boxed W g12 81 (.slice AP N cp)) ∧ Aside0 (Below w.heap.size w W) := ⟨⟨hv⟩, ⟨hB⟩⟩
    have HG11 := Aside0.mk hg
    have HDK := Aside0.mk hK
    clear hv hB hg hK hrow hsW HPs
    have HDW := Aside0.mk (show w.heap.size ≤ D by omega)
    clear q0 q1 q2 q3 X0 hsz
    go_wp2
    clear hq hq2 e0 e0b
    go_loopw [14, 47] (fun v14 v47 wr => ∃ k : Nat, k ≤ N ∧ v47 = .int .i64 k ∧ Aside0 (k29.R 29 wr W.heap.size (fun _ => True) v14 ((pcs first nm m N xs).take k)) ∧ Aside0 (Below W.heap.size W wr)) (fun _ v47 _ => N - (intOf v47).toNat)
    case atStart => exact ⟨0, Nat.zero_le _, rfl, ⟨Kd.R_nil _ _ _ _ _⟩, ⟨Below.refl _ _⟩⟩
    case round =>
      obtain ⟨k, hk, rfl, HR, HB⟩ := hrel
      by_cases hlt : k < N
      · obtain ⟨adP, Ak, nk, ck, rfl, hpc, hnk, hnk2, hCk⟩ := HPA.out k hlt
        have hp0 := pw_cell_below HB.out hpc
        have d0 := pw_cell_below HB.out hc0
        have d1 := pw_cell_below HB.out c1
        have HCK := Aside0.mk (Kd.C_below hCk HB.out)
        obtain ⟨e1, e2, e3, e4⟩ := rnd first nm k N h0 h1 hn2 hlt (by omega)
        clear hCk hpc
        have hu41 := Tryd.underlying41
        have hAk : Ak = none → nk = 0 := C_none HCK.out
        have HNK := Aside0.mk (And.intro hnk (And.intro hnk2 hAk))
        clear hnk hnk2 hAk
        go_wp2_with (fail)
        have HLT := Aside0.mk (show g11 < W.heap.size ∧ g12 < W.heap.size from ⟨(Array.getElem?_eq_some_iff.1 HG11.out).1, (Array.getElem?_eq_some_iff.1 HBT.out).1⟩)
        have HC1 := Aside0.mk c1
        have HC0 := Aside0.mk hc0
        have hll : ((pcs first nm m N xs).take k).length = k := by rw [List.length_take, pcs_len]; omega
        have HLL := Aside0.mk hll
        clear hll c1 hc0
        go_region_held3 (fun w' => w'.cell? ⟨g12, 0, none⟩ = some (.slice (some adP) N cp) ∧ w'.cell? ⟨g11, 1, none⟩ = some (.int .i64 nm))
          (first | go_keep)
          (first | (go_at_call 41; refine (clone_any Ak nk ck ((xs.drop (k * m)).take m) _ (Kd.C_drew HCK.out) HNK.out.1 HNK.out.2.2 (by have := HNK.out.2.1; omega)).mono ?_; rintro e2 w2 ⟨A', c', rfl, hlc, hR, hb⟩; have HBB := Aside0.mk (below_step (below_drew HB.out) hb); have HRR := Aside0.mk (Kd.R_below (Kd.R_drew HR.out) hb); have HRC := Aside0.mk hR; have HLC := Aside0.mk hlc; have HSZ := Aside0.mk hb.size; have y0 := (HBB.out.cell (p := ⟨g12, 0, none⟩) HLT.out.2).trans HC0.out; have y1 := (HBB.out.cell (p := ⟨g11, 1, none⟩) HLT.out.1).trans HC1.out; clear hlc hR hb)
                 | (refine Kd.R_append_step k29 (w0 := W) W.heap.size ?aW (.tmp 52) (.tmp 69) 41 29 (.agg #[.bool false, .bool false, .int .i64 0, .slice none 0 0]) 40 ?aU Tryd.underlying41 info29 rfl (by decide) (by decide) u14 ((pcs first nm m N xs).take k) ⟨((k : Int) == 0), ((k : Int) == (N : Int) - 1), (first + k) % nm, (xs.drop (k * m)).take m⟩ [.bool ((k : Int) == 0), .bool ((k : Int) == (N : Int) - 1), .int .i64 ((first + k) % nm), .slice A' nk c'] (fun _ => True) (fun j => wr.heap.size ≤ j) ?aV ?aX ?aP ?aK (fun _ _ => trivial) ?aO ?aB ?aS ?aL ?_; (case aW => rfl); (case aU => rfl); (case aV => rfl); (case aX => rfl); (case aO => exact HRR.out); (case aB => exact HBB.out); (case aS => exact HBB.out.size); (case aP => exact k29_mkM w2 W.heap.size _ _ (Kd.R_lower (Kd.R_mono (Kd.R_bound HRC.out) (fun j hj => hj.2.1)) HB.out.size)); (case aK => exact fun j hj => ⟨trivial, fun e => absurd (Kd.R_lt HR.out j e.symm) (by omega)⟩); (case aL => rw [HLL.out]; omega); intro v1 w9 ho hb9 hg hat; have HR2 := Aside0.mk ho; have HB2 := Aside0.mk hb9; have z0 := (hb9.cell (p := ⟨g12, 0, none⟩) HLT.out.2).trans HC0.out; have z1 := (hb9.cell (p := ⟨g11, 1, none⟩) HLT.out.1).trans HC1.out; clear ho hb9 hg hat))
        go_wp2
        go_roundw
        case measure => simp [intOf]; omega
        case rel =>
          exact ⟨k + 1, by omega, by go_num, ⟨by rw [pcs_take _ _ _ _ _ _ hlt]; exact HR2.out⟩, HB2⟩
      · have hk : k = N := by omega
        subst hk
        have d0 := pw_cell_below HB.out hc0
        have d1 := pw_cell_below HB.out c1
        have hDs := (Array.getElem?_eq_some_iff.1 HDK.out).1
        have HDK2 := Aside0.mk ((HB.out.block D hDs).trans HDK.out)
        obtain ⟨e1, e2, e3, e4⟩ := rnd2 first nm k h0 h1 hn2 (by omega)
        go_wp2_with (fail)
        go_region_held3 (fun w' => w'.cell? ⟨g12, 0, none⟩ = some (.slice AP k cp) ∧ w'.cell? ⟨g11, 1, none⟩ = some (.int .i64 nm)) (first | go_keep) (first | fail)
        go_wp2
        have HF := Aside0.mk (Kd.R_drew HR.out)
        have HBF := Aside0.mk (below_drew HB.out)
        have hDd : wr.drew.heap[D]? = some (.deferred (some [])) := HDK2.out
        generalize wr.drew = wf at HF HBF hDd ⊢
        have hll : (pcs first nm m k xs).length = k := pcs_len _ _ _ _ _
        refine ⟨by simp, .inl ⟨_, _, rfl, run_takeDeferred hDd, ?_⟩⟩
        refine ⟨.tuple #[u14, .int .i64 ((first + k) % nm), .int .i64 0], by simp [results, Tryd.results20, go_sem], ?_⟩
        have hF2 := Kd.R_step (w1 := wf.putObj D (.deferred none)) (Kd.R_bound HF.out) (fun j hj _ => grownBy_at wf D _ j (by omega))
        rw [List.take_of_length_le (by omega)] at hF2
        obtain ⟨A', c', hv, hcc, hC2⟩ := Kd.R_reads hF2
        have hN := HN1.out
        rw [hll, ← hN] at hv hcc hC2
        rw [← hN] at hF2
        subst hv
        rw [hnm, ← hN]
        exact ⟨A', c', rfl, hcc, Kd.R_lower (Kd.R_mono hF2 (fun _ _ => trivial)) HBL.out.size, (HBL.out.trans (HBF.out.mono HBL.out.size)).trans (belowK_b (w := w) (Nat.le_refl _) wf D _ _ HDW.out hDd rfl rfl)⟩


/-- How many pieces. -/
def nP (m n : Nat) : Nat := max 1 (cnt m n)
/-- What a packet is parted into, the number behind, and the error. -/
def splitP (short : Bool) (first most : Int) (xs : List Int) : List S29 × Int × Int :=
  if most < 1 then ([], 0, 1) else if ¬ (0 ≤ first ∧ first < numbers short) then ([], 0, 5)
  else (pcs first (numbers short) most.toNat (nP most.toNat xs.length) xs, (first + (nP most.toNat xs.length : Nat)) % numbers short, 0)

theorem R_C {α : Type} {d : Kd α} {e base n c : Nat} {ok : Nat → Prop} {w : World} {A : Option Addr} {xs : List α} (h : d.R e w base ok (.slice A n c) xs) : d.C w A n xs := by
  have h2 := Kd.R_reads' h
  rw [h2.1]
  exact h2.2.2
/-- The pieces, in memory of their own. -/
theorem split_row (short : Bool) (first : Int) (m : Nat) (A : Option Addr) (n c : Nat) (xs : List Int) (w : World) (hS : Shapes w) (hm : 1 ≤ m) (h0 : 0 ≤ first) (h1 : first < numbers short) (hC : (Kd.int .u8).C w A n xs) (hc : n ≤ c) (hn : n ≤ 1000) :
    Calls Tryd.prog 20 #[.bool short, .int .i64 first, .int .i64 m, .slice A n c] w fun e w' => ∃ A' c', e = .returned (.tuple #[.slice A' (nP m n) c', .int .i64 ((first + (nP m n : Nat)) % numbers short), .int .i64 0]) ∧ nP m n ≤ c' ∧ k29.R 29 w' w.heap.size (fun _ => True) (.slice A' (nP m n) c') (pcs first (numbers short) m (nP m n) xs) ∧ Below w.heap.size w w' := by
  by_cases hz0 : n = 0
  · have hz : nP m n = 1 := by
      have := cnt_le m n (by omega)
      unfold nP
      omega
    rw [hz]
    exact split_zero short first m A n c xs w hS hm h0 h1 hC hc hn hz0
  · have hz : nP m n = cnt m n := by
      have := (cnt_lt m n 0 (by omega)).2 (by omega)
      unfold nP
      omega
    rw [hz]
    exact split_main short first m A n c xs w hS hm h0 h1 hC hc hn (by omega)

theorem split_any (short : Bool) (first most : Int) (A : Option Addr) (n c : Nat) (xs : List Int) (w : World) (hS : Shapes w) (hC : (Kd.int .u8).C w A n xs) (hc : n ≤ c) (hn : n ≤ 1000) :
    Calls Tryd.prog 20 #[.bool short, .int .i64 first, .int .i64 most, .slice A n c] w fun e w' => ∃ A' c', e = .returned (.tuple #[.slice A' (splitP short first most xs).1.length c', .int .i64 (splitP short first most xs).2.1, .int .i64 (splitP short first most xs).2.2]) ∧ (splitP short first most xs).1.length ≤ c' ∧ k29.C w' A' (splitP short first most xs).1.length (splitP short first most xs).1 ∧ Below w.heap.size w w' := by
  have hxl : xs.length = n := hC.1
  unfold splitP
  by_cases hm : most < 1
  · rw [if_pos hm]
    refine (split_arg short first most A n c w hS hm).mono ?_
    rintro e w' ⟨rfl, hb⟩
    exact ⟨none, 0, rfl, Nat.le_refl _, Kd.C_nil _ _, hb⟩
  rw [if_neg hm]
  by_cases hf : 0 ≤ first ∧ first < numbers short
  · rw [if_neg (by simpa using hf), hxl]
    obtain ⟨m, rfl⟩ : ∃ m : Nat, most = (m : Int) := ⟨most.toNat, by omega⟩
    rw [Int.toNat_natCast]
    simp only [pcs_len]
    refine (split_row short first m A n c xs w hS (by omega) hf.1 hf.2 hC hc hn).mono ?_
    rintro e w' ⟨A', c', he, h2, h3, h4⟩
    exact ⟨A', c', he, h2, R_C h3, h4⟩
  · rw [if_pos hf]
    refine (split_range short first most A n c w hS hm hf).mono ?_
    rintro e w' ⟨rfl, hb⟩
    exact ⟨none, 0, rfl, Nat.le_refl _, Kd.C_nil _ _, hb⟩

end Go.Proofs.YtgopklnfdlnojaaDoor.Sb
