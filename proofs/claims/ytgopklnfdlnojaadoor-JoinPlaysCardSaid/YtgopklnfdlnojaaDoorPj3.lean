/- A joiner of the program in memory: its small methods, and how it goes through a piece. -/
import Derived.RangeFuncBox
import Derived.RangeFuncLeaves
import Derived.Shelf.Abstract
import Derived.WalkKit
import Derived.OwnWalkIn
import Derived.TacticsInMore
import Derived.LoopNIn
import Derived.LoopIn
import Derived.Maps.AppendAt
import Derived.Test.YtgopklnfdlnojaaDoorPj1
import Derived.RangeFuncFrom
import Derived.Deep.RegionHeld3
import Derived.StillTailTactics
import Derived.Deep.RegionLaw
import Derived.Maps.OwnSet
import Derived.Deep.CutBlock
namespace Go.Proofs.YtgopklnfdlnojaaDoor.Sa
open Go.RowKit Go.Shelf Go.Proofs.YtgopklnfdlnojaaDoor.Gb Go.Proofs.YtgopklnfdlnojaaDoorW.PrintWords Go.Proofs.YtgopklnfdlnojaaDoorW.PrintLast Go.Proofs.YtgopklnfdlnojaaDoorW.PrintMore
set_option linter.unusedVariables false
set_option linter.unusedSimpArgs false
attribute [local go_sem] Oper.semAt_some

abbrev Ch := Option Addr × Nat × Nat
def enc1 (x : Ch) : Array Value := #[.slice x.1 x.2.1 x.2.2]
def cnt (m n : Nat) : Nat := (n + m - 1) / m
def chk (ad : Addr) (c m n k : Nat) : Ch := (some (ad.add (k * m)), min m (n - k * m), c - k * m)
def upto (ad : Addr) (c m n k : Nat) : List Ch := (List.range k).map (chk ad c m n)
theorem upto_succ (ad : Addr) (c m n k : Nat) : upto ad c m n (k + 1) = upto ad c m n k ++ [chk ad c m n k] := by simp [upto, List.range_succ]
theorem upto_len (ad : Addr) (c m n k : Nat) : (upto ad c m n k).length = k := by simp [upto]
theorem cnt_lt (m n k : Nat) (hm : 1 ≤ m) : k < cnt m n ↔ k * m < n := by
  unfold cnt
  rw [Nat.lt_div_iff_mul_lt hm]
  omega

theorem wsub (N X : Nat) (h : X ≤ N) (hN : N ≤ 100000) : wrap64 ((N : Int) - (X : Nat)) = ((N - X : Nat) : Int) := by unfold wrap64; omega
theorem wadd (X Y : Nat) (h : X + Y ≤ 100000) : wrap64 ((X : Int) + (Y : Nat)) = ((X + Y : Nat) : Int) := by unfold wrap64; omega
theorem imin (a b : Nat) : min (a : Int) (b : Nat) = ((min a b : Nat) : Int) := by omega

/-- What the goer-through asks of a round: its two boxes are left alone. -/
def K2 (b1 b2 : Nat) (W W' : World) : Prop := W'.heap[b1]? = W.heap[b1]? ∧ W'.heap[b2]? = W.heap[b2]?
theorem K2.c1 {b1 b2 : Nat} {W W' : World} (h : K2 b1 b2 W W') : W'.cell? ⟨b1, 0, none⟩ = W.cell? ⟨b1, 0, none⟩ := by simp [World.cell?, h.1]
theorem K2.c2 {b1 b2 : Nat} {W W' : World} (h : K2 b1 b2 W W') : W'.cell? ⟨b2, 0, none⟩ = W.cell? ⟨b2, 0, none⟩ := by simp [World.cell?, h.2]
theorem K2.trans {b1 b2 : Nat} {A B C : World} (h : K2 b1 b2 A B) (k : K2 b1 b2 B C) : K2 b1 b2 A C := ⟨k.1.trans h.1, k.2.trans h.2⟩
theorem upto_pre (ad : Addr) (c m n k N : Nat) (h : k ≤ N) : upto ad c m n k <+: upto ad c m n N := by
  obtain ⟨j, rfl⟩ := Nat.exists_eq_add_of_le h
  refine ⟨(List.range j).map (fun i => chk ad c m n (k + i)), ?_⟩
  simp [upto, List.range_add]
theorem facts (N X m c : Nat) (hlt : X < N) (hc : N ≤ c) (hm : 1 ≤ m) (hN : N ≤ 100000) : wrap64 ((N : Int) - (X : Nat)) = ((N - X : Nat) : Int) ∧ min (m : Int) ((N - X : Nat) : Int) = ((min m (N - X) : Nat) : Int) ∧ wrap64 ((X : Int) + (min m (N - X) : Nat)) = ((X + min m (N - X) : Nat) : Int) ∧
    X ≤ c ∧ X + min m (N - X) ≤ N ∧ 1 ≤ min m (N - X) ∧ X + min m (N - X) = min (X + m) N ∧ (X : Int) < (N : Int) :=
  ⟨wsub N X (by omega) hN, imin m (N - X), wadd X (min m (N - X)) (by omega), by omega, by omega, by omega, by omega, by omega⟩

set_option maxRecDepth 100000 in
set_option maxHeartbeats 400000 in
theorem chunks1_in (F : Fence) (n : Nat) (h51 : F.fn 51) (hro : F.round = none) (hn : 1 ≤ n) (l b1 b2 : Nat) (A : Option Addr) (ad : Addr) (N c m : Nat) (hA : 0 < N → A = some ad) (hN : N ≤ 100000) (hc : N ≤ c) (hm : 1 ≤ m)
    (J Jx : List Ch → World → Prop)
    (hY : ∀ pre x W, J pre W → pre.length < cnt m N → YieldAt F (n - 1) Tryd.prog l (enc1 x) W fun e W' =>
      (e = .returned (.bool true) ∧ J (pre ++ [x]) W' ∧ K2 b1 b2 W W') ∨ (e = .returned (.bool false) ∧ Jx (pre ++ [x]) W'))
    (W : World) (hB1 : W.cell? ⟨b1, 0, none⟩ = some (.slice A N c)) (hB2 : W.cell? ⟨b2, 0, none⟩ = some (.int .i64 m)) (h0 : J [] W) :
    CallsIn F n Tryd.prog 51 #[.func (.yield l) #[] #[], .pointer (some ⟨b1, 0, none⟩), .pointer (some ⟨b2, 0, none⟩)] W fun e W' => (∃ v, e = .returned v) ∧
      ((∃ ys, ys = upto ad c m N (cnt m N) ∧ J ys W') ∨ (∃ pre, pre <+: upto ad c m N (cnt m N) ∧ Jx pre W')) := by
  have hu22 := Tryd.underlying22
  refine callsIn_of_wp Tryd.func51 rfl h51 ?_ hro
  simp only [Tryd.ntmps51, List.size_toArray, List.length_cons, List.length_nil, Nat.reduceAdd, Nat.reduceSub, Array.replicate_succ, Array.replicate_zero, List.push_toArray, List.append_toArray, List.nil_append, List.cons_append]
  gi_wp2
  gi_loopw [4] (fun p wr => ∃ k : Nat, k ≤ cnt m N ∧ p = .int .i64 (min (k * m) N : Nat) ∧ wr.cell? ⟨b1, 0, none⟩ = some (.slice A N c) ∧ wr.cell? ⟨b2, 0, none⟩ = some (.int .i64 m) ∧ J (upto ad c m N k) wr)
    (fun p wr => N - (intOf p).toNat)
  case atStart =>
    exact ⟨0, Nat.zero_le _, by simp, hB1, hB2, h0⟩
  case round =>
    obtain ⟨k, hk, rfl, hB1', hB2', hJs⟩ := hrel
    by_cases hlt : k * m < N
    · have hkc := (cnt_lt m N k hm).2 hlt
      have e0 : min (k * m) N = k * m := by omega
      rw [e0]
      have hA' := hA (by omega)
      subst hA'
      obtain ⟨fn, tmps, assign, body, hy, hR⟩ := hY _ (chk ad c m N k) wr hJs (by rw [upto_len]; exact hkc)
      dsimp only [enc1, chk] at hy
      obtain ⟨hs1, hs2, hs3, hXc, hY0, hYp, hnx, hlt2⟩ := facts N (k * m) m c hlt hc hm hN
      rw [← Nat.succ_mul] at hnx
      have HNX := Aside0.mk hnx
      have HJ := Aside0.mk hJs
      have HR := Aside0.mk hR
      have HKC := Aside0.mk hkc
      clear hnx hJs hR hkc hlt hk hm h0 hY hA
      generalize min m (N - k * m) = Y at *
      generalize hX : k * m = X at *
      have HX := Aside0.mk hX
      clear hX
      generalize hD : N - X = D at *
      have HD := Aside0.mk hD
      clear hD
      have hDD := HD.out
      by_cases hmd : (N : Int) - X < m
      · have hyy : ((X : Int) + ((N : Int) - (X : Int))).toNat - X = Y := by omega
        gi_wp2
        refine HR.out.mono ?_
        rintro e W3 (⟨rfl, hJ3, hk3⟩ | ⟨rfl, hJx3⟩)
        · have hc1 : W3.cell? ⟨b1, 0, none⟩ = some (.slice (some ad) N c) := hk3.c1.trans hB1'
          have hc2 : W3.cell? ⟨b2, 0, none⟩ = some (.int .i64 m) := hk3.c2.trans hB2'
          gi_wp2
          go_roundw
          case rel => exact ⟨k + 1, HKC.out, by rw [← HNX.out]; exact congrArg (Value.int .i64) (by omega), hc1, hc2, by rw [upto_succ]; exact hJ3⟩
          case measure => simp [intOf]; omega
        · gi_wp2
          refine bodyPost_ret (results_none rfl _ _ _) rfl ?_
          refine ⟨⟨_, rfl⟩, .inr ⟨_, ?_, hJx3⟩⟩
          rw [← upto_succ]
          exact upto_pre ad c m N _ _ HKC.out
      · have hyy : ((X : Int) + (m : Int)).toNat - X = Y := by omega
        gi_wp2
        refine HR.out.mono ?_
        rintro e W3 (⟨rfl, hJ3, hk3⟩ | ⟨rfl, hJx3⟩)
        · have hc1 : W3.cell? ⟨b1, 0, none⟩ = some (.slice (some ad) N c) := hk3.c1.trans hB1'
          have hc2 : W3.cell? ⟨b2, 0, none⟩ = some (.int .i64 m) := hk3.c2.trans hB2'
          gi_wp2
          go_roundw
          case rel => exact ⟨k + 1, HKC.out, by rw [← HNX.out]; exact congrArg (Value.int .i64) (by omega), hc1, hc2, by rw [upto_succ]; exact hJ3⟩
          case measure => simp [intOf]; omega
        · gi_wp2
          refine bodyPost_ret (results_none rfl _ _ _) rfl ?_
          refine ⟨⟨_, rfl⟩, .inr ⟨_, ?_, hJx3⟩⟩
          rw [← upto_succ]
          exact upto_pre ad c m N _ _ HKC.out
    · gi_wp2
      go_end0
      have hkc : k = cnt m N := by have := mt (cnt_lt m N k hm).1 hlt; omega
      exact ⟨⟨_, rfl⟩, .inl ⟨_, by rw [hkc], hJs⟩⟩

set_option maxHeartbeats 1000000 in
theorem chunks_any (A : Option Addr) (N c : Nat) (m : Int) (w : World) :
    Calls Tryd.prog 42 #[.slice A N c, .int .i64 m] w fun e w' => e = .returned (.func (.func 51) #[] #[.pointer (some ⟨w.heap.size, 0, none⟩), .pointer (some ⟨w.heap.size + 1, 0, none⟩)]) ∧ w' = (w.alloc (.cells #[.slice A N c] 22)).alloc (.cells #[.int .i64 m] 3) := by
  go_enter Tryd.func42, Tryd.ntmps42
  go_wp2
  go_ret
  exact ⟨rfl, rfl⟩

theorem chunks_stops (F : Fence) (n : Nat) (h51 : F.fn 51) (hro : F.round = none) (hn : 1 ≤ n) (b1 b2 : Nat) (A : Option Addr) (ad : Addr) (N c m : Nat) (hA : 0 < N → A = some ad) (hN : N ≤ 100000) (hc : N ≤ c) (hm : 1 ≤ m) (w : World) (hb1 : b1 < w.heap.size) (hb2 : b2 < w.heap.size)
    (hB1 : w.cell? ⟨b1, 0, none⟩ = some (.slice A N c)) (hB2 : w.cell? ⟨b2, 0, none⟩ = some (.int .i64 m)) :
    SeqStopsK F n Tryd.prog 51 #[.pointer (some ⟨b1, 0, none⟩), .pointer (some ⟨b2, 0, none⟩)] enc1 (K2 b1 b2) (fun ys => ys = upto ad c m N (cnt m N)) (fun pre => pre <+: upto ad c m N (cnt m N)) (cnt m N) w := fun l J Jx W hW _ _ hY h0 =>
  chunks1_in F n h51 hro hn l b1 b2 A ad N c m hA hN hc hm J Jx hY W ((hW.cell (p := ⟨b1, 0, none⟩) hb1).trans hB1) ((hW.cell (p := ⟨b2, 0, none⟩) hb2).trans hB2) h0

end Go.Proofs.YtgopklnfdlnojaaDoor.Sa
namespace Go.Proofs.YtgopklnfdlnojaaDoor.Sb
open Go.RowKit Go.Shelf Go.Proofs.YtgopklnfdlnojaaDoor.Ga Go.Proofs.YtgopklnfdlnojaaDoor.My Go.Proofs.YtgopklnfdlnojaaDoor.Gb Go.Proofs.YtgopklnfdlnojaaDoor.Gp Go.Proofs.YtgopklnfdlnojaaDoor.Sa Go.Proofs.YtgopklnfdlnojaaDoorW.PrintWords Go.Proofs.YtgopklnfdlnojaaDoorW.PrintLast Go.Proofs.YtgopklnfdlnojaaDoorW.PrintMore
set_option linter.unusedVariables false
set_option linter.unusedSimpArgs false
attribute [local go_sem] Oper.semAt_some

set_option maxHeartbeats 2000000 in
set_option maxRecDepth 100000 in
theorem split_arg (short : Bool) (first most : Int) (A : Option Addr) (n c : Nat) (w : World) (hS : Shapes w) (hm : most < 1) :
    Calls Tryd.prog 20 #[.bool short, .int .i64 first, .int .i64 most, .slice A n c] w fun e w' => e = .returned (.tuple #[.slice none 0 0, .int .i64 0, .int .i64 1]) ∧ Below w.heap.size w w' := by
  go_enter Tryd.func20, Tryd.ntmps20
  go_wp2_with (go_at_call 38; refine (of_any short _ hS).mono ?_; rintro e1 w1 ⟨rfl, hb⟩)
  have hm2 : decide (most < 1) = true := decide_eq_true hm
  have X := Aside0.mk (below_alloc hb (.cells #[.int .i64 (octets short), .int .i64 (numbers short), .int .u8 (mask short)] 91))
  go_wp2
  exact bodyPost_ret (v := .tuple #[.slice none 0 0, .int .i64 0, .int .i64 1]) (by simp [results, Tryd.results20, go_sem]) rfl ⟨rfl, X.out⟩

set_option maxHeartbeats 2000000 in
set_option maxRecDepth 100000 in
theorem split_range (short : Bool) (first most : Int) (A : Option Addr) (n c : Nat) (w : World) (hS : Shapes w) (hm : ¬ most < 1) (hf : ¬ (0 ≤ first ∧ first < numbers short)) :
    Calls Tryd.prog 20 #[.bool short, .int .i64 first, .int .i64 most, .slice A n c] w fun e w' => e = .returned (.tuple #[.slice none 0 0, .int .i64 0, .int .i64 5]) ∧ Below w.heap.size w w' := by
  go_enter Tryd.func20, Tryd.ntmps20
  have hm2 : decide (most < 1) = false := decide_eq_false hm
  go_wp2_with (go_at_call 38; refine (of_any short _ hS).mono ?_; rintro e1 w1 ⟨rfl, hb⟩)
  have X := Aside0.mk (below_alloc hb (.cells #[.int .i64 (octets short), .int .i64 (numbers short), .int .u8 (mask short)] 91))
  refine (has_any short first _).mono ?_
  rintro e2 w2 ⟨rfl, hb2⟩
  have hf2 : decide (0 ≤ first ∧ first < numbers short) = false := decide_eq_false hf
  have X2 := Aside0.mk (below_step X.out hb2)
  rw [hf2]
  go_wp2
  exact bodyPost_ret (v := .tuple #[.slice none 0 0, .int .i64 0, .int .i64 5]) (by simp [results, Tryd.results20, go_sem]) rfl ⟨rfl, X2.out⟩

theorem info22 : (Tryd.prog.info? 22).map (fun i => (i.zero, i.size, i.bytes)) = some (some (.slice none 0 0), 1, 24) := by kernel_rfl
theorem cnt_le (m n : Nat) (hm : 1 ≤ m) : cnt m n ≤ n := by
  by_cases h : cnt m n = 0
  · omega
  · have := (cnt_lt m n (cnt m n - 1) hm).1 (by omega)
    have h2 : cnt m n - 1 ≤ (cnt m n - 1) * m := Nat.le_mul_of_pos_right _ hm
    omega
theorem set_far (w1 : World) (g k : Nat) (u : Value) (h : k ≠ g) : (w1.setCell ⟨g, 0, none⟩ u).heap[k]? = w1.heap[k]? := by
  simp [World.setCell, Array.getElem?_modify, Ne.symm h]
theorem al_at (W : World) (o : Obj) (k : Nat) (h : k < W.heap.size) : (W.alloc o).heap[k]? = W.heap[k]? := (below_alloc (Below.refl _ W) o).block k h
/-- The pieces. -/
def pcs (first nm : Int) (m N : Nat) (xs : List Int) : List S29 := (List.range N).map fun (k : Nat) => ⟨((k : Int) == 0), ((k : Int) == (N : Int) - 1), (first + k) % nm, (xs.drop (k * m)).take m⟩
theorem pcs_len (first nm : Int) (m N : Nat) (xs : List Int) : (pcs first nm m N xs).length = N := by simp [pcs]
theorem pcs_take (first nm : Int) (m N : Nat) (xs : List Int) (k : Nat) (h : k < N) : (pcs first nm m N xs).take (k + 1) = (pcs first nm m N xs).take k ++ [⟨((k : Int) == 0), ((k : Int) == (N : Int) - 1), (first + k) % nm, (xs.drop (k * m)).take m⟩] := by
  rw [List.take_add_one]
  congr 1
  simp [pcs, List.getElem?_range h]
theorem rnd (first nm : Int) (k N : Nat) (h0 : 0 ≤ first) (h1 : first < nm) (hn : nm = 4096 ∨ nm = 16777216) (hk : k < N) (hN : N ≤ 1000) :
    IntKind.i64.wrap (first + k) = first + k ∧ Int.tmod (first + k) nm = (first + k) % nm ∧ nm ≠ 0 ∧ IntKind.i64.wrap ((N : Int) - 1) = (N : Int) - 1 :=
  ⟨by rw [IntKind.wrap_i64]; omega, Int.tmod_eq_emod_of_nonneg (by omega), by omega, by rw [IntKind.wrap_i64]; omega⟩
theorem C_none {α : Type} {d : Kd α} {w : World} {A : Option Addr} {n : Nat} {xs : List α} (h : d.C w A n xs) : A = none → n = 0 := fun e => by
  by_cases hn : 0 < n
  · obtain ⟨ad, e2, _⟩ := h.2.2 hn
    rw [e] at e2
    cases e2
  · omega
theorem rnd2 (first nm : Int) (N : Nat) (h0 : 0 ≤ first) (h1 : first < nm) (hn : nm = 4096 ∨ nm = 16777216) (hN : N ≤ 1000) :
    IntKind.i64.wrap (first + N) = first + N ∧ Int.tmod (first + N) nm = (first + N) % nm ∧ nm ≠ 0 ∧ True :=
  ⟨by rw [IntKind.wrap_i64]; omega, Int.tmod_eq_emod_of_nonneg (by omega), by omega, trivial⟩
/-- One value of a row of the call's own. -/
theorem own_cell {w : World} {base : Nat} {e : TypeId} {N c : Nat} {A : Option Addr} {vs : List Value} {k : Nat} {u : Value} (h : w.ownsRow base e 1 (.slice A N c) N vs) (hk : k < N) (hu : vs[k]? = some u) : ∃ ad, A = some ad ∧ w.cell? (ad.add k) = some u := by
  rcases h.2 with ⟨he, hv⟩ | ⟨g, cap, cur, he, hg, hh, h1, h2, h3, h4⟩
  · omega
  · injection he with e1 e2 e3
    subst e1
    refine ⟨_, rfl, ?_⟩
    rw [add_plain, blk_cell hh]
    rw [← h4, List.getElem?_take, if_pos (by omega)] at hu
    simpa using hu
theorem chunk_C {w : World} {ad : Addr} {n : Nat} {xs : List Int} (h : (Kd.int .u8).C w (some ad) n xs) (m o : Nat) (ho : o < n) : (Kd.int .u8).C w (some (ad.add o)) (min m (n - o)) ((xs.drop o).take m) := by
  obtain rfl : xs.length = n := h.1
  have h1 := Kd.C_drop (c := xs.length + 1) (m := o) h (by omega) (by omega)
  rw [if_neg (by omega)] at h1
  have e : (some ad).map (·.add (o * (Kd.int .u8).sz)) = some (ad.add o) := by
    show some (ad.add (o * 1)) = _
    rw [Nat.mul_one]
  rw [e] at h1
  have h2 := Kd.C_take (m := min m (xs.length - o)) h1 (by rw [List.length_drop]; omega)
  have e2 : (xs.drop o).take (min m (xs.length - o)) = (xs.drop o).take m := by
    by_cases hm : m ≤ xs.length - o
    · rw [Nat.min_eq_left hm]
    · rw [Nat.min_eq_right (by omega), List.take_of_length_le (by rw [List.length_drop]; omega), List.take_of_length_le (by rw [List.length_drop]; omega)]
  rw [e2] at h2
  have e3 : ((xs.drop o).take m).length = min m (xs.length - o) := by rw [List.length_take, List.length_drop]
  rwa [e3] at h2
theorem grownBy_at (W : World) (l : Nat) (o : Obj) (k : Nat) (h : k ≠ l) : (W.putObj l o).heap[k]? = W.heap[k]? := by
  simp [World.putObj, Array.getElem?_setIfInBounds, Ne.symm h]
abbrev ev (x : Ch) : Value := .slice x.1 x.2.1 x.2.2
theorem rf {P : Program} {assign body : Code} {Q : Exit → Act → World → Prop} {a : Act} {w : World} {g : Operand} {lb : Array Value} {gf : Nat} (hg : a.eval g = .func (.func gf) #[] lb) (eg : ∀ args w, (callFunc gf args).run P w = .ok (.enter gf args) w)
    {Kp : World → World → Prop} {S Sp : List Ch → Prop} {N : Nat} (hseq : SeqStopsK Fence.wide 4 P gf lb enc1 Kp S Sp N w)
    (hKt : ∀ {A B C : World}, Kp A B → Kp B C → Kp A C) (hKb : ∀ (W : World) (l : Nat) (o o' : Obj), w.heap.size ≤ l → W.heap[l]? = some o → o.isCells = false → o.isWalk = false → Kp W (W.putObj l o'))
    (I : List Ch → World → Prop) (hI : OwnFrom w.heap.size I) (h0 : I [] w)
    (hassign : ∀ (l : Nat) (x : Ch) (W : World) (K : Act → World → Prop), K { tmps := (a.tmps.setIfInBounds 30 (ev x)).setIfInBounds 13 (ev x), defers := [] } W →
      assign.wpIn (Fence.wide.inRound l) (5 - 1 - 1) P (Exit.then K (fun _ _ _ => False)) { tmps := a.tmps.setIfInBounds 30 (ev x), defers := [] } W)
    (hbody : ∀ (l : Nat) (pre : List Ch) (x : Ch) (W : World), I pre W → pre.length < N → body.wpIn (Fence.wide.inRound l) (5 - 1 - 1) P (ownPostK Kp I (fun _ _ _ => False) (pre ++ [x]) W) { tmps := (a.tmps.setIfInBounds 30 (ev x)).setIfInBounds 13 (ev x), defers := [] } W)
    (hdone : ∀ (D : Nat) (xs : List Ch) (W : World), w.heap.size ≤ D → S xs → I xs W → W.heap[D]? = some (.deferred (some [])) → Q .normal { a with defers := { target := .collected D, args := #[] } :: a.defers } W) :
    (Code.rangeFunc g #[30] assign body).wp P Q a w :=
  wpIn_wide.1 (wpIn_rangeFunc_ownF (F := Fence.wide) (n := 5) rfl (by decide) hg trivial eg hseq hKt hKb (Below.refl _ _) (fun _ => rfl) I (fun _ _ _ => False) hI (fun _ _ _ _ _ h _ _ => h.elim) h0
    (fun x => { tmps := (a.tmps.setIfInBounds 30 (ev x)).setIfInBounds 13 (ev x), defers := [] }) (fun l x W K hK => by simpa [enc1] using hassign l x W K hK) hbody hdone (fun _ _ _ _ _ _ h _ => h.elim))

set_option maxHeartbeats 2000000 in
set_option maxRecDepth 100000 in
theorem split_main (short : Bool) (first : Int) (m : Nat) (A : Option Addr) (n c : Nat) (xs : List Int) (w : World) (hS : Shapes w) (hm : 1 ≤ m) (h0 : 0 ≤ first) (h1 : first < numbers short) (hC : (Kd.int .u8).C w A n xs) (hc : n ≤ c) (hn : n ≤ 1000) (hn0 : 0 < n) :
    Calls Tryd.prog 20 #[.bool short, .int .i64 first, .int .i64 m, .slice A n c] w fun e w' => ∃ A' c', e = .returned (.tuple #[.slice A' (cnt m n) c', .int .i64 ((first + (cnt m n : Nat)) % numbers short), .int .i64 0]) ∧ cnt m n ≤ c' ∧ k29.R 29 w' w.heap.size (fun _ => True) (.slice A' (cnt m n) c') (pcs first (numbers short) m (cnt m n) xs) ∧ Below w.heap.size w w' := by
  refine (callsIn_wide (n := 5)).1 (callsIn_of_wp_marks Tryd.func20 rfl trivial ?_ rfl)
  refine wpIn_wide.2 ?_
  simp only [Tryd.ntmps20, List.size_toArray, List.length_cons, List.length_nil, Nat.reduceAdd, Nat.reduceSub, Array.replicate_succ, Array.replicate_zero, List.push_toArray, List.append_toArray, List.nil_append, List.cons_append]
  obtain ⟨i0, hi, hz0, hz1, hz2⟩ := info_parts info22
  have hmm : decide ((m : Int) < 1) = false := decide_eq_false (by omega)
  go_wp2_with (go_at_call 38; refine (of_any short _ hS).mono ?_; rintro e1 w1 ⟨rfl, hb⟩)
  have X := Aside0.mk (below_alloc hb (.cells #[.int .i64 (octets short), .int .i64 (numbers short), .int .u8 (mask short)] 91))
  have hB11 := new1 w1 (.cells #[.int .i64 (octets short), .int .i64 (numbers short), .int .u8 (mask short)] 91)
  refine (has_any short first _).mono ?_
  rintro e2 w2 ⟨rfl, hb2⟩
  have hf2 : decide (0 ≤ first ∧ first < numbers short) = true := decide_eq_true ⟨h0, h1⟩
  have X2 := Aside0.mk (below_step X.out hb2)
  have HB11 := Aside0.mk (blk_keep hB11 hb2)
  clear hb hb2 hB11 X hS
  rw [hf2]
  generalize w1.heap.size = g11 at *
  go_wp2_with (go_at_call 42; refine (chunks_any A n c m _).mono ?_; rintro e3 w3 ⟨rfl, rfl⟩)
  obtain ⟨g12, hg12⟩ : ∃ g, w2.heap.size = g := ⟨_, rfl⟩
  obtain ⟨W0, hW0⟩ : ∃ W, ((w2.alloc (.cells #[.slice none 0 0] 81)).alloc (.cells #[.slice A n c] 22)).alloc (.cells #[.int .i64 m] 3) = W := ⟨_, rfl⟩
  have hsz : W0.heap.size = g12 + 3 := by rw [← hW0, World.size_alloc, World.size_alloc, World.size_alloc, hg12]
  have q0 : W0.heap[g12]? = some (.cells #[.slice none 0 0] 81 (0, 0)) := by
    rw [← hW0, ← hg12]
    exact blk_keep (blk_keep (new1 _ _) (below_alloc (Below.refl _ _) _)) (below_alloc (Below.refl _ _) _)
  have q1 : W0.heap[g12 + 1]? = some (.cells #[.slice A n c] 22 (0, 0)) := by
    have := new1 (w2.alloc (.cells #[.slice none 0 0] 81)) (.cells #[.slice A n c] 22)
    rw [World.size_alloc, hg12] at this
    rw [← hW0]
    exact blk_keep this (below_alloc (Below.refl _ _) _)
  have q2 : W0.heap[g12 + 2]? = some (.cells #[.int .i64 m] 3 (0, 0)) := by
    have := new1 ((w2.alloc (.cells #[.slice none 0 0] 81)).alloc (.cells #[.slice A n c] 22)) (.cells #[.int .i64 m] 3)
    rw [World.size_alloc, World.size_alloc, hg12] at this
    rw [← hW0]
    exact this
  have X0 : Below w.heap.size w W0 := by rw [← hW0]; exact below_alloc (below_alloc (below_alloc X2.out _) _) _
  have q3 : W0.heap[g11]? = some (.cells #[.int .i64 (octets short), .int .i64 (numbers short), .int .u8 (mask short)] 91 (0, 0)) := by
    rw [← hW0]
    exact blk_keep HB11.out (below_alloc (below_alloc (below_alloc (Below.refl _ _) _) _) _)
  have hg12b : w.heap.size ≤ g12 := by rw [← hg12]; exact X2.out.size
  have hg11 : g11 < g12 := by rw [← hg12]; exact (Array.getElem?_eq_some_iff.1 HB11.out).1
  rw [hW0]
  simp only [hg12]
  clear hW0 HB11 X2
  obtain ⟨ad, hA⟩ : ∃ ad, A = some ad := by
    obtain ⟨ad, e, _⟩ := hC.2.2 hn0
    exact ⟨ad, e⟩
  subst hA
  refine rf (gf := 51) rfl (enters_of Tryd.func51 (by kernel_rfl) rfl) (chunks_stops Fence.wide 4 trivial rfl (by decide) (g12 + 1) (g12 + 1 + 1) (some ad) ad n c m (fun _ => rfl) (by omega) hc hm _ (by omega) (by omega) (by simp [World.cell?, q1]) (by simp [World.cell?, q2])) K2.trans
    (fun W l o o' hl ho _ _ => ⟨grownBy_at W l o' (g12 + 1) (by omega), grownBy_at W l o' (g12 + 1 + 1) (by omega)⟩)
    (fun pre W => (∃ v, Boxed W g12 81 v ∧ W.ownsRow (g12 + 3) 22 1 v pre.length (pre.map ev)) ∧ Below w.heap.size w W ∧ W.heap[g11]? = some (.cells #[.int .i64 (octets short), .int .i64 (numbers short), .int .u8 (mask short)] 91 (0, 0)) ∧ W0.heap.size ≤ W.heap.size)
    ?hI ⟨⟨_, q0, World.ownsRow_nil _ _ _ _⟩, X0, q3, Nat.le_refl _⟩ ?assign ?body ?done
  case hI =>
    refine OwnFrom.and (Own.from (by have := holdsRow_own (g12 + 3) g12 81 22 1 (fun pre : List Ch => pre.length) (fun pre => pre.map ev) (fun _ _ => True); simpa using this) _) (OwnFrom.and (ownFrom_below (Nat.le_refl _) (by omega)) ?_)
    intro s W W' row hs hg hr
    refine ⟨(hg.block g11 (Array.getElem?_eq_some_iff.1 hs.1).1 (fun e => ?_)).trans hs.1, Nat.le_trans hs.2 hg.size⟩
    have := (hr g11 e.symm).1
    omega
  case assign =>
    intro l x W K hK
    gi_wp2
    exact hK
  case body =>
    rintro l pre x W ⟨⟨v, hv, hrow⟩, hB, hg, hsW⟩ hlt
    have hc0 := hv.cell
    have hcn := cnt_le m n hm
    have hbb1 : pre.length + 1 ≤ maxLen := by unfold maxLen; omega
    have hbb2 : (pre.length + 1) * 24 ≤ 140737488355328 := by omega
    simp only [List.setIfInBounds_toArray, List.set_cons_zero, List.set_cons_succ]
    gi_wp2_with (gi_at_builtin; refine wpListIn_append_own _ rfl _ _ 81 rfl (g12 + 3) 22 i0 (.slice none 0 0) 1 24 Tryd.underlying81 hi hz0 hz1 hz2 rfl (by decide) _ _ _ rfl (hrow.alloc _) ⟨W.heap.size, 0, none⟩ 1 1 [ev x] rfl rfl (cell_one_new _ _ _) (by simp [Value.oneCell']) hbb1 hbb2 (by rw [World.size_alloc]; omega) ?_; intro v' w1 hown' hgrow _; obtain ⟨g', cap', rfl⟩ := ownsRow_succ hown'; obtain ⟨hv1, hv2, hr2, hk2, hb2⟩ := hv.appended (n₀ := g12) (by decide) (own_weaken hrow (by omega)) (by omega) (Nat.le_refl _) (own_weaken hown' (by omega)) hgrow; have hc1 := hv1.cell; have hf1 := hv1.frozen)
    have hne : some g12 ≠ (Value.slice (some ⟨g', 0, none⟩) (pre.length + 1) cap').ownBlock := fun e => by
      have := own_base hown' g12 e.symm
      omega
    have hK : ∀ k, g12 < k → k < g12 + 3 → (w1.setCell ⟨g12, 0, none⟩ (.slice (some ⟨g', 0, none⟩) (pre.length + 1) cap')).heap[k]? = W.heap[k]? := fun k h1 h2 =>
      (set_far w1 g12 k _ (by omega)).trans ((hgrow.block k (by rw [World.size_alloc]; omega) (fun e => by have := own_base hrow k e.symm; omega)).trans (al_at W _ k (by omega)))
    refine ⟨hk2, ⟨hK _ (by omega) (by omega), hK _ (by omega) (by omega)⟩, ⟨_, hv2, ?_⟩, hB.trans (hb2.mono hg12b), (hb2.block g11 hg11).trans hg, Nat.le_trans hsW hb2.size⟩
    have hr := own_setCell hown' (p := ⟨g12, 0, none⟩) hne (.slice (some ⟨g', 0, none⟩) (pre.length + 1) cap')
    simpa using hr
  case done =>
    rintro D ys W hD rfl ⟨⟨v, hv, hrow⟩, hB, hg, hsW⟩ hK
    obtain ⟨AP, cp, rfl⟩ := own_slice hrow
    have hc0 := hv.cell
    simp only [upto_len] at hrow hv hc0
    have hcn := cnt_le m n hm
    have hcp : 0 < cnt m n := (cnt_lt m n 0 hm).2 (by omega)
    obtain ⟨N, hN⟩ : ∃ N, cnt m n = N := ⟨_, rfl⟩
    rw [hN] at hrow hv hc0 hcn hcp
    have e0 : decide ((N : Int) = 0) = false := decide_eq_false (by omega)
    have e0b : ((N : Int) == 0) = false := by simp; omega
    obtain ⟨-, c1, -⟩ := cells3 hg
    obtain ⟨nm, hnm⟩ : ∃ nm, numbers short = nm := ⟨_, rfl⟩
    rw [hnm] at c1 h1 ⊢
    have hn2 : nm = 4096 ∨ nm = 16777216 := by
      rw [← hnm]
      cases short
      · exact .inr rfl
      · exact .inl rfl
    have hq : decide (Int.tdiv nm 2 < (N : Int)) = false := by
      have h1 : Int.tdiv 4096 2 = 2048 := rfl
      have h2 : Int.tdiv 16777216 2 = 8388608 := rfl
      rcases hn2 with h | h <;> rw [h] <;> (first | rw [h1] | rw [h2]) <;> exact decide_eq_false (by omega)
    have hq2 : wrap64 (Int.tdiv nm 2) = Int.tdiv nm 2 := by
      have h1 : Int.tdiv 4096 2 = 2048 := rfl
      have h2 : Int.tdiv 16777216 2 = 8388608 := rfl
      rcases hn2 with h | h <;> rw [h] <;> (first | rw [h1] | rw [h2]) <;> (unfold wrap64; omega)
    have HP : ∀ k, k < N → ∃ adP Ak nk ck, AP = some adP ∧ W.cell? (adP.add k) = some (.slice Ak nk ck) ∧ nk ≤ ck ∧ nk ≤ 1000 ∧ (Kd.int .u8).C W Ak nk ((xs.drop (k * m)).take m) := by
      intro k hk
      obtain ⟨adP, e, hcell⟩ := own_cell hrow (k := k) (u := ev (chk ad c m n k)) hk (by simp [upto, List.getElem?_range hk])
      have hkm : k * m < n := (cnt_lt m n k hm).1 (by omega)
      refine ⟨adP, some (ad.add (k * m)), min m (n - k * m), c - k * m, e, hcell, by omega, by omega, ?_⟩
      exact chunk_C (Kd.C_below hC hB) m (k * m) hkm
    have HPA := Aside0.mk HP
    clear HP
    have HPs := hv
    obtain ⟨HBT, HBL⟩ : Aside0 (Boxed W g12 81 (.slice AP N cp)) ∧ Aside0 (Below w.heap.size w W) := ⟨⟨hv⟩, ⟨hB⟩⟩
    have HG11 := Aside0.mk hg
    have HDK := Aside0.mk hK
    clear hv hB hg hK hrow hsW HPs
    have HDW := Aside0.mk (show w.heap.size ≤ D by omega)
    clear q0 q1 q2 q3 X0 hsz
    go_wp2
    clear hq hq2 e0 e0b
    go_loopw [14, 47] (fun v14 v47 wr => ∃ k : Nat, k ≤ N ∧ v47 = .int .i64 k ∧ Aside0 (k29.R 29 wr W.heap.size (fun _ => True) v14 ((pcs first nm m N xs).take k)) ∧ Aside0 (Below W.heap.size W wr)) (fun _ v47 _ => N - (intOf v47).toNat)
    case atStart => exact ⟨0, Nat.zero_le _, rfl, ⟨Kd.R_nil _ _ _ _ _⟩, ⟨Below.refl _ _⟩⟩
    case round =>
      obtain ⟨k, hk, rfl, HR, HB⟩ := hrel
      by_cases hlt : k < N
      · obtain ⟨adP, Ak, nk, ck, rfl, hpc, hnk, hnk2, hCk⟩ := HPA.out k hlt
        have hp0 := pw_cell_below HB.out hpc
        have d0 := pw_cell_below HB.out hc0
        have d1 := pw_cell_below HB.out c1
        have HCK := Aside0.mk (Kd.C_below hCk HB.out)
        obtain ⟨e1, e2, e3, e4⟩ := rnd first nm k N h0 h1 hn2 hlt (by omega)
        clear hCk hpc
        have hu41 := Tryd.underlying41
        have hAk : Ak = none → nk = 0 := C_none HCK.out
        have HNK := Aside0.mk (And.intro hnk (And.intro hnk2 hAk))
        clear hnk hnk2 hAk
        go_wp2_with (fail)
        have HLT := Aside0.mk (show g11 < W.heap.size ∧ g12 < W.heap.size from ⟨(Array.getElem?_eq_some_iff.1 HG11.out).1, (Array.getElem?_eq_some_iff.1 HBT.out).1⟩)
        have HC1 := Aside0.mk c1
        have HC0 := Aside0.mk hc0
        have hll : ((pcs first nm m N xs).take k).length = k := by rw [List.length_take, pcs_len]; omega
        have HLL := Aside0.mk hll
        clear hll c1 hc0
        go_region_held3 (fun w' => w'.cell? ⟨g12, 0, none⟩ = some (.slice (some adP) N cp) ∧ w'.cell? ⟨g11, 1, none⟩ = some (.int .i64 nm))
          (first | go_keep)
          (first | (go_at_call 41; refine (clone_any Ak nk ck ((xs.drop (k * m)).take m) _ (Kd.C_drew HCK.out) HNK.out.1 HNK.out.2.2 (by have := HNK.out.2.1; omega)).mono ?_; rintro e2 w2 ⟨A', c', rfl, hlc, hR, hb⟩; have HBB := Aside0.mk (below_step (below_drew HB.out) hb); have HRR := Aside0.mk (Kd.R_below (Kd.R_drew HR.out) hb); have HRC := Aside0.mk hR; have HLC := Aside0.mk hlc; have HSZ := Aside0.mk hb.size; have y0 := (HBB.out.cell (p := ⟨g12, 0, none⟩) HLT.out.2).trans HC0.out; have y1 := (HBB.out.cell (p := ⟨g11, 1, none⟩) HLT.out.1).trans HC1.out; clear hlc hR hb)
                 | (refine Kd.R_append_step k29 (w0 := W) W.heap.size ?aW (.tmp 52) (.tmp 69) 41 29 (.agg #[.bool false, .bool false, .int .i64 0, .slice none 0 0]) 40 ?aU Tryd.underlying41 info29 rfl (by decide) (by decide) u14 ((pcs first nm m N xs).take k) ⟨((k : Int) == 0), ((k : Int) == (N : Int) - 1), (first + k) % nm, (xs.drop (k * m)).take m⟩ [.bool ((k : Int) == 0), .bool ((k : Int) == (N : Int) - 1), .int .i64 ((first + k) % nm), .slice A' nk c'] (fun _ => True) (fun j => wr.heap.size ≤ j) ?aV ?aX ?aP ?aK (fun _ _ => trivial) ?aO ?aB ?aS ?aL ?_; (case aW => rfl); (case aU => rfl); (case aV => rfl); (case aX => rfl); (case aO => exact HRR.out); (case aB => exact HBB.out); (case aS => exact HBB.out.size); (case aP => exact k29_mkM w2 W.heap.size _ _ (Kd.R_lower (Kd.R_mono (Kd.R_bound HRC.out) (fun j hj => hj.2.1)) HB.out.size)); (case aK => exact fun j hj => ⟨trivial, fun e => absurd (Kd.R_lt HR.out j e.symm) (by omega)⟩); (case aL => rw [HLL.out]; omega); intro v1 w9 ho hb9 hg hat; have HR2 := Aside0.mk ho; have HB2 := Aside0.mk hb9; have z0 := (hb9.cell (p := ⟨g12, 0, none⟩) HLT.out.2).trans HC0.out; have z1 := (hb9.cell (p := ⟨g11, 1, none⟩) HLT.out.1).trans HC1.out; clear ho hb9 hg hat))
        go_wp2
        go_roundw
        case measure => simp [intOf]; omega
        case rel =>
          exact ⟨k + 1, by omega, by go_num, ⟨by rw [pcs_take _ _ _ _ _ _ hlt]; exact HR2.out⟩, HB2⟩
      · have hk : k = N := by omega
        subst hk
        have d0 := pw_cell_below HB.out hc0
        have d1 := pw_cell_below HB.out c1
        have hDs := (Array.getElem?_eq_some_iff.1 HDK.out).1
        have HDK2 := Aside0.mk ((HB.out.block D hDs).trans HDK.out)
        obtain ⟨e1, e2, e3, e4⟩ := rnd2 first nm k h0 h1 hn2 (by omega)
        go_wp2_with (fail)
        go_region_held3 (fun w' => w'.cell? ⟨g12, 0, none⟩ = some (.slice AP k cp) ∧ w'.cell? ⟨g11, 1, none⟩ = some (.int .i64 nm)) (first | go_keep) (first | fail)
        go_wp2
        have HF := Aside0.mk (Kd.R_drew HR.out)
        have HBF := Aside0.mk (below_drew HB.out)
        have hDd : wr.drew.heap[D]? = some (.deferred (some [])) := HDK2.out
        generalize wr.drew = wf at HF HBF hDd ⊢
        have hll : (pcs first nm m k xs).length = k := pcs_len _ _ _ _ _
        refine ⟨by simp, .inl ⟨_, _, rfl, run_takeDeferred hDd, ?_⟩⟩
        refine ⟨.tuple #[u14, .int .i64 ((first + k) % nm), .int .i64 0], by simp [results, Tryd.results20, go_sem], ?_⟩
        have hF2 := Kd.R_step (w1 := wf.putObj D (.deferred none)) (Kd.R_bound HF.out) (fun j hj _ => grownBy_at wf D _ j (by omega))
        rw [List.take_of_length_le (by omega)] at hF2
        obtain ⟨A', c', hv, hcc, hC2⟩ := Kd.R_reads hF2
        rw [hll] at hv hcc hC2
        subst hv
        rw [hN, hnm]
        exact ⟨A', c', rfl, hcc, Kd.R_lower (Kd.R_mono hF2 (fun _ _ => trivial)) HBL.out.size, (HBL.out.trans (HBF.out.mono HBL.out.size)).trans (belowK_b (w := w) (Nat.le_refl _) wf D _ _ HDW.out hDd rfl rfl)⟩

-- ZERO
set_option maxHeartbeats 2000000 in
set_option maxRecDepth 100000 in
theorem split_zero (short : Bool) (first : Int) (m : Nat) (A : Option Addr) (n c : Nat) (xs : List Int) (w : World) (hS : Shapes w) (hm : 1 ≤ m) (h0 : 0 ≤ first) (h1 : first < numbers short) (hC : (Kd.int .u8).C w A n xs) (hc : n ≤ c) (hn : n ≤ 1000) (hn0 : n = 0) :
    Calls Tryd.prog 20 #[.bool short, .int .i64 first, .int .i64 m, .slice A n c] w fun e w' => ∃ A' c', e = .returned (.tuple #[.slice A' 1 c', .int .i64 ((first + (1 : Nat)) % numbers short), .int .i64 0]) ∧ 1 ≤ c' ∧ k29.R 29 w' w.heap.size (fun _ => True) (.slice A' 1 c') (pcs first (numbers short) m 1 xs) ∧ Below w.heap.size w w' := by
  have HN0 := Aside0.mk hn0
  clear hn0
  refine (callsIn_wide (n := 5)).1 (callsIn_of_wp_marks Tryd.func20 rfl trivial ?_ rfl)
  refine wpIn_wide.2 ?_
  simp only [Tryd.ntmps20, List.size_toArray, List.length_cons, List.length_nil, Nat.reduceAdd, Nat.reduceSub, Array.replicate_succ, Array.replicate_zero, List.push_toArray, List.append_toArray, List.nil_append, List.cons_append]
  obtain ⟨i0, hi, hz0, hz1, hz2⟩ := info_parts info22
  have hmm : decide ((m : Int) < 1) = false := decide_eq_false (by omega)
  go_wp2_with (go_at_call 38; refine (of_any short _ hS).mono ?_; rintro e1 w1 ⟨rfl, hb⟩)
  have X := Aside0.mk (below_alloc hb (.cells #[.int .i64 (octets short), .int .i64 (numbers short), .int .u8 (mask short)] 91))
  have hB11 := new1 w1 (.cells #[.int .i64 (octets short), .int .i64 (numbers short), .int .u8 (mask short)] 91)
  refine (has_any short first _).mono ?_
  rintro e2 w2 ⟨rfl, hb2⟩
  have hf2 : decide (0 ≤ first ∧ first < numbers short) = true := decide_eq_true ⟨h0, h1⟩
  have X2 := Aside0.mk (below_step X.out hb2)
  have HB11 := Aside0.mk (blk_keep hB11 hb2)
  clear hb hb2 hB11 X hS
  rw [hf2]
  generalize w1.heap.size = g11 at *
  go_wp2_with (go_at_call 42; refine (chunks_any A n c m _).mono ?_; rintro e3 w3 ⟨rfl, rfl⟩)
  obtain ⟨g12, hg12⟩ : ∃ g, w2.heap.size = g := ⟨_, rfl⟩
  obtain ⟨W0, hW0⟩ : ∃ W, ((w2.alloc (.cells #[.slice none 0 0] 81)).alloc (.cells #[.slice A n c] 22)).alloc (.cells #[.int .i64 m] 3) = W := ⟨_, rfl⟩
  have hsz : W0.heap.size = g12 + 3 := by rw [← hW0, World.size_alloc, World.size_alloc, World.size_alloc, hg12]
  have q0 : W0.heap[g12]? = some (.cells #[.slice none 0 0] 81 (0, 0)) := by
    rw [← hW0, ← hg12]
    exact blk_keep (blk_keep (new1 _ _) (below_alloc (Below.refl _ _) _)) (below_alloc (Below.refl _ _) _)
  have q1 : W0.heap[g12 + 1]? = some (.cells #[.slice A n c] 22 (0, 0)) := by
    have := new1 (w2.alloc (.cells #[.slice none 0 0] 81)) (.cells #[.slice A n c] 22)
    rw [World.size_alloc, hg12] at this
    rw [← hW0]
    exact blk_keep this (below_alloc (Below.refl _ _) _)
  have q2 : W0.heap[g12 + 2]? = some (.cells #[.int .i64 m] 3 (0, 0)) := by
    have := new1 ((w2.alloc (.cells #[.slice none 0 0] 81)).alloc (.cells #[.slice A n c] 22)) (.cells #[.int .i64 m] 3)
    rw [World.size_alloc, World.size_alloc, hg12] at this
    rw [← hW0]
    exact this
  have X0 : Below w.heap.size w W0 := by rw [← hW0]; exact below_alloc (below_alloc (below_alloc X2.out _) _) _
  have q3 : W0.heap[g11]? = some (.cells #[.int .i64 (octets short), .int .i64 (numbers short), .int .u8 (mask short)] 91 (0, 0)) := by
    rw [← hW0]
    exact blk_keep HB11.out (below_alloc (below_alloc (below_alloc (Below.refl _ _) _) _) _)
  have hg12b : w.heap.size ≤ g12 := by rw [← hg12]; exact X2.out.size
  have hg11 : g11 < g12 := by rw [← hg12]; exact (Array.getElem?_eq_some_iff.1 HB11.out).1
  rw [hW0]
  simp only [hg12]
  clear hW0 HB11 X2
  obtain ⟨ad, hA⟩ : ∃ ad : Addr, ad = ⟨0, 0, none⟩ := ⟨_, rfl⟩
  refine rf (gf := 51) rfl (enters_of Tryd.func51 (by kernel_rfl) rfl) (chunks_stops Fence.wide 4 trivial rfl (by decide) (g12 + 1) (g12 + 1 + 1) A ad n c m (fun h => absurd h (by have := HN0.out; omega)) (by omega) hc hm _ (by omega) (by omega) (by simp [World.cell?, q1]) (by simp [World.cell?, q2])) K2.trans
    (fun W l o o' hl ho _ _ => ⟨grownBy_at W l o' (g12 + 1) (by omega), grownBy_at W l o' (g12 + 1 + 1) (by omega)⟩)
    (fun pre W => (∃ v, Boxed W g12 81 v ∧ W.ownsRow (g12 + 3) 22 1 v pre.length (pre.map ev)) ∧ Below w.heap.size w W ∧ W.heap[g11]? = some (.cells #[.int .i64 (octets short), .int .i64 (numbers short), .int .u8 (mask short)] 91 (0, 0)) ∧ W0.heap.size ≤ W.heap.size)
    ?hI ⟨⟨_, q0, World.ownsRow_nil _ _ _ _⟩, X0, q3, Nat.le_refl _⟩ ?assign ?body ?done
  case hI =>
    refine OwnFrom.and (Own.from (by have := holdsRow_own (g12 + 3) g12 81 22 1 (fun pre : List Ch => pre.length) (fun pre => pre.map ev) (fun _ _ => True); simpa using this) _) (OwnFrom.and (ownFrom_below (Nat.le_refl _) (by omega)) ?_)
    intro s W W' row hs hg hr
    refine ⟨(hg.block g11 (Array.getElem?_eq_some_iff.1 hs.1).1 (fun e => ?_)).trans hs.1, Nat.le_trans hs.2 hg.size⟩
    have := (hr g11 e.symm).1
    omega
  case assign =>
    intro l x W K hK
    gi_wp2
    exact hK
  case body =>
    rintro l pre x W ⟨⟨v, hv, hrow⟩, hB, hg, hsW⟩ hlt
    have hc0 := hv.cell
    have hcn := cnt_le m n hm
    have hbb1 : pre.length + 1 ≤ maxLen := by unfold maxLen; omega
    have hbb2 : (pre.length + 1) * 24 ≤ 140737488355328 := by omega
    simp only [List.setIfInBounds_toArray, List.set_cons_zero, List.set_cons_succ]
    gi_wp2_with (gi_at_builtin; refine wpListIn_append_own _ rfl _ _ 81 rfl (g12 + 3) 22 i0 (.slice none 0 0) 1 24 Tryd.underlying81 hi hz0 hz1 hz2 rfl (by decide) _ _ _ rfl (hrow.alloc _) ⟨W.heap.size, 0, none⟩ 1 1 [ev x] rfl rfl (cell_one_new _ _ _) (by simp [Value.oneCell']) hbb1 hbb2 (by rw [World.size_alloc]; omega) ?_; intro v' w1 hown' hgrow _; obtain ⟨g', cap', rfl⟩ := ownsRow_succ hown'; obtain ⟨hv1, hv2, hr2, hk2, hb2⟩ := hv.appended (n₀ := g12) (by decide) (own_weaken hrow (by omega)) (by omega) (Nat.le_refl _) (own_weaken hown' (by omega)) hgrow; have hc1 := hv1.cell; have hf1 := hv1.frozen)
    have hne : some g12 ≠ (Value.slice (some ⟨g', 0, none⟩) (pre.length + 1) cap').ownBlock := fun e => by
      have := own_base hown' g12 e.symm
      omega
    have hK : ∀ k, g12 < k → k < g12 + 3 → (w1.setCell ⟨g12, 0, none⟩ (.slice (some ⟨g', 0, none⟩) (pre.length + 1) cap')).heap[k]? = W.heap[k]? := fun k h1 h2 =>
      (set_far w1 g12 k _ (by omega)).trans ((hgrow.block k (by rw [World.size_alloc]; omega) (fun e => by have := own_base hrow k e.symm; omega)).trans (al_at W _ k (by omega)))
    refine ⟨hk2, ⟨hK _ (by omega) (by omega), hK _ (by omega) (by omega)⟩, ⟨_, hv2, ?_⟩, hB.trans (hb2.mono hg12b), (hb2.block g11 hg11).trans hg, Nat.le_trans hsW hb2.size⟩
    have hr := own_setCell hown' (p := ⟨g12, 0, none⟩) hne (.slice (some ⟨g', 0, none⟩) (pre.length + 1) cap')
    simpa using hr
  case done =>
    rintro D ys W hD rfl ⟨⟨v, hv, hrow⟩, hB, hg, hsW⟩ hK
    have hcn := cnt_le m n hm
    have hz : cnt m n = 0 := by have := HN0.out; omega
    rw [hz] at hrow
    obtain ⟨AP0, cp0, rfl⟩ := own_slice hrow
    have hc00 := hv.cell
    simp only [upto, List.range_zero, List.map_nil, List.length_nil] at hc00 hv hrow
    have hf00 := hv.frozen
    have hc01 : (W.alloc (.cells #[.slice none 0 0] 22)).cell? ⟨g12, 0, none⟩ = some (.slice AP0 0 cp0) := (below_alloc (Below.refl _ W) (.cells #[.slice none 0 0] 22)).cell (p := ⟨g12, 0, none⟩) hv.lt |>.trans hc00
    have hf01 := (hv.alloc (.cells #[.slice none 0 0] 22)).frozen
    go_upto_region 12 with (fail)
    have hv1 := (hv.alloc (.cells #[.slice none 0 0] 22)).set (.slice (some ⟨W.heap.size, 0, none⟩) 1 1)
    have hB1 : Below w.heap.size w ((W.alloc (.cells #[.slice none 0 0] 22)).setCell ⟨g12, 0, none⟩ (.slice (some ⟨W.heap.size, 0, none⟩) 1 1)) := (below_alloc hB _).setCell (p := ⟨g12, 0, none⟩) hg12b _
    have hg1 := (set_far (W.alloc (.cells #[.slice none 0 0] 22)) g12 g11 (.slice (some ⟨W.heap.size, 0, none⟩) 1 1) (by omega)).trans (blk_keep hg (below_alloc (Below.refl _ W) _))
    have hK1 := (set_far (W.alloc (.cells #[.slice none 0 0] 22)) g12 D (.slice (some ⟨W.heap.size, 0, none⟩) 1 1) (by omega)).trans (blk_keep hK (below_alloc (Below.refl _ W) _))
    have hP1 : ((W.alloc (.cells #[.slice none 0 0] 22)).setCell ⟨g12, 0, none⟩ (.slice (some ⟨W.heap.size, 0, none⟩) 1 1)).cell? ⟨W.heap.size, 0, none⟩ = some (.slice none 0 0) := by
      rw [World.cell?, set_far _ _ _ _ (show W.heap.size ≠ g12 from (Nat.ne_of_lt hv.lt).symm), new1 W (.cells #[.slice none 0 0] 22)]
      rfl
    clear hc00 hc01 hf00 hf01 hv hB hg hK hrow
    generalize (W.alloc (.cells #[.slice none 0 0] 22)).setCell ⟨g12, 0, none⟩ (.slice (some ⟨W.heap.size, 0, none⟩) 1 1) = W9 at hv1 hB1 hg1 hK1 hP1 ⊢
    generalize W.heap.size = gp at hv1 hP1 ⊢
    clear hsW
    clear W
    rename World => W
    obtain ⟨N, hN⟩ : ∃ N, 1 = N := ⟨_, rfl⟩
    obtain ⟨cp, hcpe⟩ : ∃ c : Nat, c = 1 := ⟨_, rfl⟩
    obtain ⟨AP, hAP⟩ : ∃ A, some (⟨gp, 0, none⟩ : Addr) = A := ⟨_, rfl⟩
    rw [hAP] at hv1
    have hv : Boxed W g12 81 (.slice AP N cp) := by rw [← hN, hcpe]; exact hv1
    have hc0 := hv.cell
    have hB := hB1
    have hg := hg1
    have hK := hK1
    clear hv1 hB1 hg1 hK1
    have hcn : N ≤ 1 := by omega
    have hcp : 0 < N := by omega
    have HN1 := Aside0.mk hN
    have HCP := Aside0.mk hcpe
    have HAP := Aside0.mk hAP
    clear hN hcpe hAP
    have hrow := hcn
    have hsW := hcn
    have e0 : decide ((N : Int) = 0) = false := decide_eq_false (by omega)
    have e0b : ((N : Int) == 0) = false := by simp; omega
    obtain ⟨-, c1, -⟩ := cells3 hg
    obtain ⟨nm, hnm⟩ : ∃ nm, numbers short = nm := ⟨_, rfl⟩
    rw [hnm] at c1 h1 ⊢
    have hn2 : nm = 4096 ∨ nm = 16777216 := by
      rw [← hnm]
      cases short
      · exact .inr rfl
      · exact .inl rfl
    have hq : decide (Int.tdiv nm 2 < (N : Int)) = false := by
      have h1 : Int.tdiv 4096 2 = 2048 := rfl
      have h2 : Int.tdiv 16777216 2 = 8388608 := rfl
      rcases hn2 with h | h <;> rw [h] <;> (first | rw [h1] | rw [h2]) <;> exact decide_eq_false (by omega)
    have hq2 : wrap64 (Int.tdiv nm 2) = Int.tdiv nm 2 := by
      have h1 : Int.tdiv 4096 2 = 2048 := rfl
      have h2 : Int.tdiv 16777216 2 = 8388608 := rfl
      rcases hn2 with h | h <;> rw [h] <;> (first | rw [h1] | rw [h2]) <;> (unfold wrap64; omega)
    have HP : ∀ k, k < N → ∃ adP Ak nk ck, AP = some adP ∧ W.cell? (adP.add k) = some (.slice Ak nk ck) ∧ nk ≤ ck ∧ nk ≤ 1000 ∧ (Kd.int .u8).C W Ak nk ((xs.drop (k * m)).take m) := by
      intro k hk
      obtain rfl : k = 0 := by omega
      have hAP := HAP.out
      subst hAP
      refine ⟨_, none, 0, 0, rfl, ?_, Nat.le_refl _, by omega, ?_⟩
      · rw [add_plain]
        exact hP1
      · have hxs : xs = [] := List.length_eq_zero_iff.1 (hC.1.trans HN0.out)
        rw [hxs]
        simp only [List.drop_nil, List.take_nil]
        exact Kd.C_nil _ _
    have HPA := Aside0.mk HP
    clear HP
    have HPs := hv
    obtain ⟨HBT, HBL⟩ : Aside0 (Boxed W g12 81 (.slice AP N cp)) ∧ Aside0 (Below w.heap.size w W) := ⟨⟨hv⟩, ⟨hB⟩⟩
    have HG11 := Aside0.mk hg
    have HDK := Aside0.mk hK
    clear hv hB hg hK hrow hsW HPs
    have HDW := Aside0.mk (show w.heap.size ≤ D by omega)
    clear q0 q1 q2 q3 X0 hsz
    go_wp2
    clear hq hq2 e0 e0b
    go_loopw [14, 47] (fun v14 v47 wr => ∃ k : Nat, k ≤ N ∧ v47 = .int .i64 k ∧ Aside0 (k29.R 29 wr W.heap.size (fun _ => True) v14 ((pcs first nm m N xs).take k)) ∧ Aside0 (Below W.heap.size W wr)) (fun _ v47 _ => N - (intOf v47).toNat)
    case atStart => exact ⟨0, Nat.zero_le _, rfl, ⟨Kd.R_nil _ _ _ _ _⟩, ⟨Below.refl _ _⟩⟩
    case round =>
      obtain ⟨k, hk, rfl, HR, HB⟩ := hrel
      by_cases hlt : k < N
      · obtain ⟨adP, Ak, nk, ck, rfl, hpc, hnk, hnk2, hCk⟩ := HPA.out k hlt
        have hp0 := pw_cell_below HB.out hpc
        have d0 := pw_cell_below HB.out hc0
        have d1 := pw_cell_below HB.out c1
        have HCK := Aside0.mk (Kd.C_below hCk HB.out)
        obtain ⟨e1, e2, e3, e4⟩ := rnd first nm k N h0 h1 hn2 hlt (by omega)
        clear hCk hpc
        have hu41 := Tryd.underlying41
        have hAk : Ak = none → nk = 0 := C_none HCK.out
        have HNK := Aside0.mk (And.intro hnk (And.intro hnk2 hAk))
        clear hnk hnk2 hAk
        go_wp2_with (fail)
        have HLT := Aside0.mk (show g11 < W.heap.size ∧ g12 < W.heap.size from ⟨(Array.getElem?_eq_some_iff.1 HG11.out).1, (Array.getElem?_eq_some_iff.1 HBT.out).1⟩)
        have HC1 := Aside0.mk c1
        have HC0 := Aside0.mk hc0
        have hll : ((pcs first nm m N xs).take k).length = k := by rw [List.length_take, pcs_len]; omega
        have HLL := Aside0.mk hll
        clear hll c1 hc0
        go_region_held3 (fun w' => w'.cell? ⟨g12, 0, none⟩ = some (.slice (some adP) N cp) ∧ w'.cell? ⟨g11, 1, none⟩ = some (.int .i64 nm))
          (first | go_keep)
          (first | (go_at_call 41; refine (clone_any Ak nk ck ((xs.drop (k * m)).take m) _ (Kd.C_drew HCK.out) HNK.out.1 HNK.out.2.2 (by have := HNK.out.2.1; omega)).mono ?_; rintro e2 w2 ⟨A', c', rfl, hlc, hR, hb⟩; have HBB := Aside0.mk (below_step (below_drew HB.out) hb); have HRR := Aside0.mk (Kd.R_below (Kd.R_drew HR.out) hb); have HRC := Aside0.mk hR; have HLC := Aside0.mk hlc; have HSZ := Aside0.mk hb.size; have y0 := (HBB.out.cell (p := ⟨g12, 0, none⟩) HLT.out.2).trans HC0.out; have y1 := (HBB.out.cell (p := ⟨g11, 1, none⟩) HLT.out.1).trans HC1.out; clear hlc hR hb)
                 | (refine Kd.R_append_step k29 (w0 := W) W.heap.size ?aW (.tmp 52) (.tmp 69) 41 29 (.agg #[.bool false, .bool false, .int .i64 0, .slice none 0 0]) 40 ?aU Tryd.underlying41 info29 rfl (by decide) (by decide) u14 ((pcs first nm m N xs).take k) ⟨((k : Int) == 0), ((k : Int) == (N : Int) - 1), (first + k) % nm, (xs.drop (k * m)).take m⟩ [.bool ((k : Int) == 0), .bool ((k : Int) == (N : Int) - 1), .int .i64 ((first + k) % nm), .slice A' nk c'] (fun _ => True) (fun j => wr.heap.size ≤ j) ?aV ?aX ?aP ?aK (fun _ _ => trivial) ?aO ?aB ?aS ?aL ?_; (case aW => rfl); (case aU => rfl); (case aV => rfl); (case aX => rfl); (case aO => exact HRR.out); (case aB => exact HBB.out); (case aS => exact HBB.out.size); (case aP => exact k29_mkM w2 W.heap.size _ _ (Kd.R_lower (Kd.R_mono (Kd.R_bound HRC.out) (fun j hj => hj.2.1)) HB.out.size)); (case aK => exact fun j hj => ⟨trivial, fun e => absurd (Kd.R_lt HR.out j e.symm) (by omega)⟩); (case aL => rw [HLL.out]; omega); intro v1 w9 ho hb9 hg hat; have HR2 := Aside0.mk ho; have HB2 := Aside0.mk hb9; have z0 := (hb9.cell (p := ⟨g12, 0, none⟩) HLT.out.2).trans HC0.out; have z1 := (hb9.cell (p := ⟨g11, 1, none⟩) HLT.out.1).trans HC1.out; clear ho hb9 hg hat))
        go_wp2
        go_roundw
        case measure => simp [intOf]; omega
        case rel =>
          exact ⟨k + 1, by omega, by go_num, ⟨by rw [pcs_take _ _ _ _ _ _ hlt]; exact HR2.out⟩, HB2⟩
      · have hk : k = N := by omega
        subst hk
        have d0 := pw_cell_below HB.out hc0
        have d1 := pw_cell_below HB.out c1
        have hDs := (Array.getElem?_eq_some_iff.1 HDK.out).1
        have HDK2 := Aside0.mk ((HB.out.block D hDs).trans HDK.out)
        obtain ⟨e1, e2, e3, e4⟩ := rnd2 first nm k h0 h1 hn2 (by omega)
        go_wp2_with (fail)
        go_region_held3 (fun w' => w'.cell? ⟨g12, 0, none⟩ = some (.slice AP k cp) ∧ w'.cell? ⟨g11, 1, none⟩ = some (.int .i64 nm)) (first | go_keep) (first | fail)
        go_wp2
        have HF := Aside0.mk (Kd.R_drew HR.out)
        have HBF := Aside0.mk (below_drew HB.out)
        have hDd : wr.drew.heap[D]? = some (.deferred (some [])) := HDK2.out
        generalize wr.drew = wf at HF HBF hDd ⊢
        have hll : (pcs first nm m k xs).length = k := pcs_len _ _ _ _ _
        refine ⟨by simp, .inl ⟨_, _, rfl, run_takeDeferred hDd, ?_⟩⟩
        refine ⟨.tuple #[u14, .int .i64 ((first + k) % nm), .int .i64 0], by simp [results, Tryd.results20, go_sem], ?_⟩
        have hF2 := Kd.R_step (w1 := wf.putObj D (.deferred none)) (Kd.R_bound HF.out) (fun j hj _ => grownBy_at wf D _ j (by omega))
        rw [List.take_of_length_le (by omega)] at hF2
        obtain ⟨A', c', hv, hcc, hC2⟩ := Kd.R_reads hF2
        have hN := HN1.out
        rw [hll, ← hN] at hv hcc hC2
        rw [← hN] at hF2
        subst hv
        rw [hnm, ← hN]
        exact ⟨A', c', rfl, hcc, Kd.R_lower (Kd.R_mono hF2 (fun _ _ => trivial)) HBL.out.size, (HBL.out.trans (HBF.out.mono HBL.out.size)).trans (belowK_b (w := w) (Nat.le_refl _) wf D _ _ HDW.out hDd rfl rfl)⟩


/-- How many pieces. -/
def nP (m n : Nat) : Nat := max 1 (cnt m n)
/-- What a packet is parted into, the number behind, and the error. -/
def splitP (short : Bool) (first most : Int) (xs : List Int) : List S29 × Int × Int :=
  if most < 1 then ([], 0, 1) else if ¬ (0 ≤ first ∧ first < numbers short) then ([], 0, 5)
  else (pcs first (numbers short) most.toNat (nP most.toNat xs.length) xs, (first + (nP most.toNat xs.length : Nat)) % numbers short, 0)

theorem R_C {α : Type} {d : Kd α} {e base n c : Nat} {ok : Nat → Prop} {w : World} {A : Option Addr} {xs : List α} (h : d.R e w base ok (.slice A n c) xs) : d.C w A n xs := by
  have h2 := Kd.R_reads' h
  rw [h2.1]
  exact h2.2.2
/-- The pieces, in memory of their own. -/
theorem split_row (short : Bool) (first : Int) (m : Nat) (A : Option Addr) (n c : Nat) (xs : List Int) (w : World) (hS : Shapes w) (hm : 1 ≤ m) (h0 : 0 ≤ first) (h1 : first < numbers short) (hC : (Kd.int .u8).C w A n xs) (hc : n ≤ c) (hn : n ≤ 1000) :
    Calls Tryd.prog 20 #[.bool short, .int .i64 first, .int .i64 m, .slice A n c] w fun e w' => ∃ A' c', e = .returned (.tuple #[.slice A' (nP m n) c', .int .i64 ((first + (nP m n : Nat)) % numbers short), .int .i64 0]) ∧ nP m n ≤ c' ∧ k29.R 29 w' w.heap.size (fun _ => True) (.slice A' (nP m n) c') (pcs first (numbers short) m (nP m n) xs) ∧ Below w.heap.size w w' := by
  by_cases hz0 : n = 0
  · have hz : nP m n = 1 := by
      have := cnt_le m n (by omega)
      unfold nP
      omega
    rw [hz]
    exact split_zero short first m A n c xs w hS hm h0 h1 hC hc hn hz0
  · have hz : nP m n = cnt m n := by
      have := (cnt_lt m n 0 (by omega)).2 (by omega)
      unfold nP
      omega
    rw [hz]
    exact split_main short first m A n c xs w hS hm h0 h1 hC hc hn (by omega)

theorem split_any (short : Bool) (first most : Int) (A : Option Addr) (n c : Nat) (xs : List Int) (w : World) (hS : Shapes w) (hC : (Kd.int .u8).C w A n xs) (hc : n ≤ c) (hn : n ≤ 1000) :
    Calls Tryd.prog 20 #[.bool short, .int .i64 first, .int .i64 most, .slice A n c] w fun e w' => ∃ A' c', e = .returned (.tuple #[.slice A' (splitP short first most xs).1.length c', .int .i64 (splitP short first most xs).2.1, .int .i64 (splitP short first most xs).2.2]) ∧ (splitP short first most xs).1.length ≤ c' ∧ k29.C w' A' (splitP short first most xs).1.length (splitP short first most xs).1 ∧ Below w.heap.size w w' := by
  have hxl : xs.length = n := hC.1
  unfold splitP
  by_cases hm : most < 1
  · rw [if_pos hm]
    refine (split_arg short first most A n c w hS hm).mono ?_
    rintro e w' ⟨rfl, hb⟩
    exact ⟨none, 0, rfl, Nat.le_refl _, Kd.C_nil _ _, hb⟩
  rw [if_neg hm]
  by_cases hf : 0 ≤ first ∧ first < numbers short
  · rw [if_neg (by simpa using hf), hxl]
    obtain ⟨m, rfl⟩ : ∃ m : Nat, most = (m : Int) := ⟨most.toNat, by omega⟩
    rw [Int.toNat_natCast]
    simp only [pcs_len]
    refine (split_row short first m A n c xs w hS (by omega) hf.1 hf.2 hC hc hn).mono ?_
    rintro e w' ⟨A', c', he, h2, h3, h4⟩
    exact ⟨A', c', he, h2, R_C h3, h4⟩
  · rw [if_pos hf]
    refine (split_range short first most A n c w hS hm hf).mono ?_
    rintro e w' ⟨rfl, hb⟩
    exact ⟨none, 0, rfl, Nat.le_refl _, Kd.C_nil _ _, hb⟩

end Go.Proofs.YtgopklnfdlnojaaDoor.Sb
namespace Go.Proofs.YtgopklnfdlnojaaDoor.Ja
open Go.RowKit Go.Proofs.YtgopklnfdlnojaaDoor.Ga Go.Proofs.YtgopklnfdlnojaaDoor.My Go.Proofs.YtgopklnfdlnojaaDoor.Gb Go.Proofs.YtgopklnfdlnojaaDoor.Gp Go.Proofs.YtgopklnfdlnojaaDoorW.PrintWords Go.Proofs.YtgopklnfdlnojaaDoorW.PrintLast Go.Proofs.YtgopklnfdlnojaaDoorW.PrintMore
set_option linter.unusedVariables false
set_option linter.unusedSimpArgs false

structure Ev where
  kind : Int
  data : List Int
  from_ : Int
  many : Int

/-- A joiner. wait: the pieces that wait, by their places. -/
structure Jn where
  nm : Int
  room : Int
  most : Int
  last : List Int
  wait : List (Int × S29)
  next : Int
  mode : Int
  data : List Int
  evs : List Ev

/-- Octets that lie in no block of X. -/
def Sl0 (W : World) (X : Nat → Prop) (A : Option Addr) (n : Nat) (xs : List Int) : Prop := Kd.F (Kd.int .u8) W (fun k => k < W.heap.size ∧ ¬ X k) A n xs
theorem Sl0.kept {W W2 : World} {X X2 : Nat → Prop} {A : Option Addr} {n : Nat} {xs : List Int} (h : Sl0 W X A n xs) (hk : Kept W W2 X) (hx : ∀ k, k < W.heap.size → X2 k → X k) : Sl0 W2 X2 A n xs :=
  Kd.F_mono (Kd.F_kept h hk (fun k hk => hk.2)) (fun k hk2 => ⟨Nat.lt_of_lt_of_le hk2.1 hk.1, fun h2 => hk2.2 (hx k hk2.1 h2)⟩)
/-- Octets that lie in blocks of octets, none of X. -/
def Sl (W : World) (X : Nat → Prop) (A : Option Addr) (n : Nat) (xs : List Int) : Prop := Kd.F (Kd.int .u8) W (fun k => k < W.heap.size ∧ ¬ X k ∧ ∃ cs, W.heap[k]? = some (Obj.cells cs 5 (0, 0))) A n xs
theorem Sl.kept {W W2 : World} {X X2 : Nat → Prop} {A : Option Addr} {n : Nat} {xs : List Int} (h : Sl W X A n xs) (hk : Kept W W2 X) (hx : ∀ k, k < W.heap.size → X2 k → X k) : Sl W2 X2 A n xs := by
  refine Kd.F_mono (Kd.F_kept h hk (fun k hk => hk.2.1)) (fun k hk2 => ?_)
  refine ⟨Nat.lt_of_lt_of_le hk2.1 hk.1, fun h2 => hk2.2.1 (hx k hk2.1 h2), ?_⟩
  rw [hk.2 k hk2.1 hk2.2.1]
  exact hk2.2.2
/-- .. and stay where blocks of another type are written. -/
theorem Sl.typed {W W2 : World} {X X2 : Nat → Prop} {A : Option Addr} {n : Nat} {xs : List Int} (h : Sl W X A n xs) (hs : W.heap.size ≤ W2.heap.size) (hk : ∀ (k : Nat) (cs : Array Value), W.heap[k]? = some (Obj.cells cs 5 (0, 0)) → W2.heap[k]? = W.heap[k]?) (hx : ∀ k, k < W.heap.size → X2 k → X k) : Sl W2 X2 A n xs := by
  refine Kd.F_mono (Kd.F_step h (fun k hk1 _ => ?_)) (fun k hk2 => ?_)
  · obtain ⟨cs, hc⟩ := hk1.2.2
    exact hk k cs hc
  · obtain ⟨cs, hc⟩ := hk2.2.2
    exact ⟨Nat.lt_of_lt_of_le hk2.1 hs, fun h2 => hk2.2.1 (hx k hk2.1 h2), cs, (hk k cs hc).trans hc⟩

/-- An event's cells. -/
def EvOK (W : World) (X : Nat → Prop) (e : Ev) (r : List Value) : Prop := ∃ A c, r = [.int .i64 e.kind, .slice A e.data.length c, .int .i64 e.from_, .int .i64 e.many] ∧ e.data.length ≤ c ∧ Sl W X A e.data.length e.data
/-- A waiting piece's value. -/
def WtOK (W : World) (X : Nat → Prop) (p : Int × S29) (v : Int × Value) : Prop := v.1 = p.1 ∧ ∃ A c, v.2 = pc p.2.f0 p.2.f1 p.2.f2 A p.2.f3.length c ∧ p.2.f3.length ≤ c ∧ Sl W X A p.2.f3.length p.2.f3
def elemR (v : Value) : Option (DataW Value × List MemPlace) := some (.held v, [])
/-- Item by item. -/
def All2 {α β : Type} (R : α → β → Prop) (xs : List α) (ys : List β) : Prop := ys.length = xs.length ∧ ∀ (j : Nat) x y, xs[j]? = some x → ys[j]? = some y → R x y
theorem All2.imp {α β : Type} {R S : α → β → Prop} {xs : List α} {ys : List β} (h : All2 R xs ys) (k : ∀ x y, R x y → S x y) : All2 S xs ys := ⟨h.1, fun j x y hx hy => k x y (h.2 j x y hx hy)⟩
theorem All2.snoc {α β : Type} {R : α → β → Prop} {xs : List α} {ys : List β} {x : α} {y : β} (h : All2 R xs ys) (hr : R x y) : All2 R (xs ++ [x]) (ys ++ [y]) := by
  refine ⟨by simp [h.1], fun j a b ha hb => ?_⟩
  by_cases hj : j < xs.length
  · rw [List.getElem?_append_left hj] at ha
    rw [List.getElem?_append_left (by rw [h.1]; exact hj)] at hb
    exact h.2 j a b ha hb
  · rw [List.getElem?_append_right (by omega)] at ha
    rw [List.getElem?_append_right (by rw [h.1]; omega), h.1] at hb
    have h1 : j - xs.length = 0 := by
      have := (List.getElem?_eq_some_iff.1 ha).1
      simp at this
      omega
    rw [h1] at ha hb
    simp at ha hb
    subst ha; subst hb
    exact hr

/-- The blocks that a joiner writes. -/
def Mut (g bm : Nat) (vl vd ve : Value) (k : Nat) : Prop := k = g ∨ k = bm ∨ some k = vl.ownBlock ∨ some k = vd.ownBlock ∨ some k = ve.ownBlock

/-- A joiner lies at block g, in blocks of its own from base on. -/
structure JM (W : World) (base g bm : Nat) (vl vd ve : Value) (wv : List (Int × Value)) (er : List (List Value)) (J : Jn) : Prop where
  hg : W.heap[g]? = some (.cells #[.int .i64 J.nm, .int .i64 J.room, .int .i64 J.most, vl, .map (some bm), .int .i64 J.next, .int .i64 J.mode, vd, ve] 102 (0, 0))
  hgb : base ≤ g
  hbm : base ≤ bm
  hlast : (Kd.int .i64).R 3 W base (fun _ => True) vl J.last
  hdata : (Kd.int .u8).R 5 W base (fun _ => True) vd J.data
  hevs : (rawK 4).R 84 W base (fun _ => True) ve er
  hev : All2 (EvOK W (Mut g bm vl vd ve)) J.evs er
  hmap : W.ownsMap Tryd.prog 3 elemR bm wv.length (.map (wv.map fun x => (.int .i64 x.1, .held x.2)))
  hwv : All2 (WtOK W (Mut g bm vl vd ve)) J.wait wv
  hsort : J.wait.Pairwise (fun p q => p.1 < q.1)

def tellJ (J : Jn) (kind place many : Int) : Jn := { J with evs := J.evs ++ [⟨kind, [], Int.tmod place J.nm, many⟩] }

theorem info84 : (Tryd.prog.info? 84).map (fun i => (i.zero, i.size, i.bytes)) = some (some (.agg #[.int .i64 0, .slice none 0 0, .int .i64 0, .int .i64 0]), 4, 48) := by kernel_rfl

theorem far_cell (w1 : World) (g o k : Nat) (u : Value) (h : k ≠ g) : (w1.setCell ⟨g, o, none⟩ u).heap[k]? = w1.heap[k]? := by
  simp [World.setCell, Array.getElem?_modify, Ne.symm h]
theorem R_stay {α : Type} {d : Kd α} {e base : Nat} {W W' : World} {v : Value} {xs : List α} {S : Nat → Prop} (hE : d.E = []) (h : d.R e W base (fun _ => True) v xs) (hk : Kept W W' S) (hs : ∀ k, some k = v.ownBlock → ¬ S k) : d.R e W' base (fun _ => True) v xs :=
  Kd.R_mono (Kd.R_kept (Kd.R_tight hE h) hk hs) (fun _ _ => trivial)
theorem map_stay {W W' : World} {bm n : Nat} {D : DataW Value} (h : W.ownsMap Tryd.prog 3 elemR bm n D) (he : W'.heap[bm]? = W.heap[bm]?) : W'.ownsMap Tryd.prog 3 elemR bm n D := by
  obtain ⟨es, clock, h1, h2⟩ := h
  exact ⟨es, clock, he.trans h1, h2⟩
theorem map_blk {W : World} {bm n : Nat} {D : DataW Value} (h : W.ownsMap Tryd.prog 3 elemR bm n D) : ∃ es clock, W.heap[bm]? = some (.map es clock) := by
  obtain ⟨es, clock, h1, _⟩ := h
  exact ⟨es, clock, h1⟩
theorem own_type {α : Type} {d : Kd α} {e base : Nat} {W : World} {v : Value} {xs : List α} (h : d.R e W base (fun _ => True) v xs) (k : Nat) (hk : some k = v.ownBlock) : ∃ cs, W.heap[k]? = some (.cells cs e (0, 0)) := by
  obtain ⟨_, inner, hown, _⟩ := h
  exact own_typed hown k hk.symm

section
variable {W : World} {base g bm : Nat} {vl vd ve : Value} {wv : List (Int × Value)} {er : List (List Value)} {J : Jn}
/-- The joiner's blocks are five. -/
theorem JM.apart (h : JM W base g bm vl vd ve wv er J) : (∀ k, some k = vl.ownBlock → k ≠ g ∧ k ≠ bm ∧ some k ≠ vd.ownBlock ∧ some k ≠ ve.ownBlock) ∧ (∀ k, some k = vd.ownBlock → k ≠ g ∧ k ≠ bm ∧ some k ≠ vl.ownBlock ∧ some k ≠ ve.ownBlock) ∧ (∀ k, some k = ve.ownBlock → k ≠ g ∧ k ≠ bm ∧ some k ≠ vl.ownBlock ∧ some k ≠ vd.ownBlock) ∧ g ≠ bm := by
  have hg := h.hg
  obtain ⟨es, clock, hm⟩ := map_blk h.hmap
  have tl := own_type h.hlast
  have td := own_type h.hdata
  have te := own_type h.hevs
  refine ⟨fun k hk => ?_, fun k hk => ?_, fun k hk => ?_, ?_⟩
  · obtain ⟨cs, hc⟩ := tl k hk
    refine ⟨fun e => ?_, fun e => ?_, fun e => ?_, fun e => ?_⟩
    · subst e; rw [hg] at hc; simp at hc
    · subst e; rw [hm] at hc; simp at hc
    · obtain ⟨cs', hc'⟩ := td k e; rw [hc'] at hc; simp at hc
    · obtain ⟨cs', hc'⟩ := te k e; rw [hc'] at hc; simp at hc
  · obtain ⟨cs, hc⟩ := td k hk
    refine ⟨fun e => ?_, fun e => ?_, fun e => ?_, fun e => ?_⟩
    · subst e; rw [hg] at hc; simp at hc
    · subst e; rw [hm] at hc; simp at hc
    · obtain ⟨cs', hc'⟩ := tl k e; rw [hc'] at hc; simp at hc
    · obtain ⟨cs', hc'⟩ := te k e; rw [hc'] at hc; simp at hc
  · obtain ⟨cs, hc⟩ := te k hk
    refine ⟨fun e => ?_, fun e => ?_, fun e => ?_, fun e => ?_⟩
    · subst e; rw [hg] at hc; simp at hc
    · subst e; rw [hm] at hc; simp at hc
    · obtain ⟨cs', hc'⟩ := tl k e; rw [hc'] at hc; simp at hc
    · obtain ⟨cs', hc'⟩ := td k e; rw [hc'] at hc; simp at hc
  · intro e; subst e; rw [hg] at hm; simp at hm

/-- An event is put behind the others. -/
theorem JM_event {w9 : World} {ve' : Value} {r : List Value} {e : Ev} (h : JM W base g bm vl vd ve wv er J) (ho : (rawK 4).R 84 w9 base (fun _ => True) ve' (er ++ [r])) (hb9 : Below base W w9) (hgr : W.grownBy w9 ve.ownBlock) (hat : ve'.ownBlock = ve.ownBlock ∨ ∃ b, ve'.ownBlock = some b ∧ W.heap.size ≤ b)
    (hev : EvOK (w9.setCell ⟨g, 8, none⟩ ve') (Mut g bm vl vd ve') e r) :
    JM (w9.setCell ⟨g, 8, none⟩ ve') base g bm vl vd ve' wv (er ++ [r]) { J with evs := J.evs ++ [e] } ∧ Kept W (w9.setCell ⟨g, 8, none⟩ ve') (Mut g bm vl vd ve) ∧ (∀ k, k < W.heap.size → Mut g bm vl vd ve' k → Mut g bm vl vd ve k) ∧ Below base W (w9.setCell ⟨g, 8, none⟩ ve') := by
  obtain ⟨al, ad, ae, hgm⟩ := h.apart
  have hgl : g < W.heap.size := (Array.getElem?_eq_some_iff.1 h.hg).1
  have hg9 : w9.heap[g]? = _ := blk_grown h.hg hgr (fun e => (ae g e).1 rfl)
  have hsz : (w9.setCell ⟨g, 8, none⟩ ve').heap.size = w9.heap.size := by simp [World.setCell]
  have hkeep : Kept W (w9.setCell ⟨g, 8, none⟩ ve') (fun k => k = g ∨ some k = ve.ownBlock) := ⟨by rw [hsz]; exact hgr.size, fun k hk hs => (far_cell w9 g 8 k ve' (fun e => hs (.inl e))).trans (hgr.block k hk (fun e => hs (.inr e)))⟩
  have hkM : Kept W (w9.setCell ⟨g, 8, none⟩ ve') (Mut g bm vl vd ve) := ⟨hkeep.1, fun k hk hs => hkeep.2 k hk (fun e => hs (e.elim .inl (fun e => .inr (.inr (.inr (.inr e))))))⟩
  have hmut : ∀ k, k < W.heap.size → Mut g bm vl vd ve' k → Mut g bm vl vd ve k := fun k hk hm => by
    rcases hm with hm | hm | hm | hm | hm
    · exact .inl hm
    · exact .inr (.inl hm)
    · exact .inr (.inr (.inl hm))
    · exact .inr (.inr (.inr (.inl hm)))
    · rcases hat with e | ⟨b, e, hb⟩
      · exact .inr (.inr (.inr (.inr (hm.trans e))))
      · rw [e] at hm; cases hm; omega
  have hbel : Below base W (w9.setCell ⟨g, 8, none⟩ ve') := hb9.setCell (p := ⟨g, 8, none⟩) h.hgb _
  refine ⟨?_, hkM, hmut, hbel⟩
  refine ⟨?_, h.hgb, h.hbm, R_stay rfl h.hlast hkeep (fun k hk hs => hs.elim (al k hk).1 (al k hk).2.2.2), R_stay rfl h.hdata hkeep (fun k hk hs => hs.elim (ad k hk).1 (ad k hk).2.2.2), ?_, ?_, ?_, h.hwv.imp fun p v hp => ?_, h.hsort⟩
  · have := blk_set hg9 8 ve'
    simpa using this
  · exact Kd.R_set ho hg9 (by intro q hq; simp [rawK] at hq; subst hq; decide) 8 ve'
  · refine All2.snoc (h.hev.imp fun x y hxy => ?_) hev
    obtain ⟨A, c, h1, h2, h3⟩ := hxy
    exact ⟨A, c, h1, h2, h3.kept hkM hmut⟩
  · refine map_stay h.hmap (hkeep.2 bm ?_ ?_)
    · obtain ⟨es, clock, hm⟩ := map_blk h.hmap
      exact (Array.getElem?_eq_some_iff.1 hm).1
    · rintro (e | e)
      · exact hgm e.symm
      · exact (ae bm e).2.1 rfl
  · obtain ⟨h1, A, c, h2, h3, h4⟩ := hp
    exact ⟨h1, A, c, h2, h3, h4.kept hkM hmut⟩
end

set_option maxHeartbeats 1000000 in
set_option maxRecDepth 100000 in
theorem tell_any (W : World) (base g bm : Nat) (vl vd ve : Value) (wv : List (Int × Value)) (er : List (List Value)) (J : Jn) (kind place many : Int) (h : JM W base g bm vl vd ve wv er J) (hnm : 0 < J.nm) (hb : base ≤ W.heap.size) (hlen : er.length ≤ 100000) :
    Calls Tryd.prog 64 #[.pointer (some ⟨g, 0, none⟩), .int .i64 kind, .int .i64 place, .int .i64 many] W fun e W' => ∃ ve', (∃ v, e = .returned v) ∧
      JM W' base g bm vl vd ve' wv (er ++ [[.int .i64 kind, .slice none 0 0, .int .i64 (Int.tmod place J.nm), .int .i64 many]]) (tellJ J kind place many) ∧ Kept W W' (Mut g bm vl vd ve) ∧ (∀ k, k < W.heap.size → Mut g bm vl vd ve' k → Mut g bm vl vd ve k) ∧ Below base W W' := by
  obtain ⟨Ae, ce, rfl⟩ := Kd.R_slice h.hevs
  have HJ := Aside0.mk h
  have hg := h.hg
  have c0 := blk_cell hg 0
  have c8 := blk_cell hg 8
  have hz : J.nm ≠ 0 := by omega
  have fz : ∀ j, W.frozen? ⟨g, j, none⟩ = false := fun j => blk_frozen hg j
  have t8 : ∀ o : Obj, (W.alloc o).cell? ⟨g, 8, none⟩ = some (.slice Ae er.length ce) := fun o => by have := blk_cell (blk_keep hg (below_alloc (Below.refl _ W) o)) 8; simpa using this
  have t0 : ∀ o : Obj, (W.alloc o).cell? ⟨g, 0, none⟩ = some (.int .i64 J.nm) := fun o => by have := blk_cell (blk_keep hg (below_alloc (Below.refl _ W) o)) 0; simpa using this
  simp at c0 c8
  clear h hg
  go_enter Tryd.func64, Tryd.ntmps64
  go_region_law (refine Kd.R_append_step (rawK 4) (w0 := W) (W := W.drew) base ?aW (.tmp 12) (.tmp 22) 72 84 (.agg #[.int .i64 0, .slice none 0 0, .int .i64 0, .int .i64 0]) 48 ?aU Tryd.underlying72 info84 rfl (by decide) (by decide) (.slice Ae er.length ce) er [.int .i64 kind, .slice none 0 0, .int .i64 (Int.tmod place J.nm), .int .i64 many] [.int .i64 kind, .slice none 0 0, .int .i64 (Int.tmod place J.nm), .int .i64 many] (fun _ => True) (fun _ => False) ?aV ?aX ?aP (fun _ h => h.elim) (fun _ _ => trivial) ?aO ?aB ?aS ?aL ?_; (case aW => rfl); (case aU => rfl); (case aV => rfl); (case aX => rfl); (case aP => exact raw_M _ _ _ _ rfl (by simp [Value.oneCell'])); (case aO => exact Kd.R_drew HJ.out.hevs); (case aB => exact below_drew (Below.refl _ _)); (case aS => exact hb); (case aL => omega); intro v1 w9 ho hb9 hg hat; obtain ⟨A9, c9, rfl⟩ := Kd.R_slice ho; have HO := Aside0.mk ho; have HB := Aside0.mk hb9; have HG := Aside0.mk hg; have HAT := Aside0.mk hat; have hg9 := blk_grown (w := W.drew) HJ.out.hg hg (Kd.R_ne HJ.out.hevs HJ.out.hg (by decide)); have HG9 := Aside0.mk hg9; have y8 := blk_cell hg9 8; have fz9 : ∀ j, w9.frozen? ⟨g, j, none⟩ = false := fun j => blk_frozen hg9 j; simp at y8; clear ho hb9 hg hat hg9)
  all_goals
    go_end0
    obtain ⟨h1, h2, h3, h4⟩ := JM_event HJ.out HO.out HB.out ⟨HG.out.os, HG.out.tape, HG.out.output, HG.out.size, HG.out.block⟩ HAT.out (e := ⟨kind, [], Int.tmod place J.nm, many⟩) ⟨none, 0, rfl, Nat.le_refl _, Kd.F_nil _ _ _⟩
    simp only [List.length_append, List.length_singleton] at h1 h2 h3 h4
    exact ⟨_, ⟨_, rfl⟩, h1, h2, h3, h4⟩

end Go.Proofs.YtgopklnfdlnojaaDoor.Ja
namespace Go.Proofs.YtgopklnfdlnojaaDoor.Jb
open Go.RowKit Go.Proofs.YtgopklnfdlnojaaDoor.Ga Go.Proofs.YtgopklnfdlnojaaDoor.My Go.Proofs.YtgopklnfdlnojaaDoor.Gb Go.Proofs.YtgopklnfdlnojaaDoor.Gp Go.Proofs.YtgopklnfdlnojaaDoor.Ja Go.Proofs.YtgopklnfdlnojaaDoorW.PrintWords Go.Proofs.YtgopklnfdlnojaaDoorW.PrintLast Go.Proofs.YtgopklnfdlnojaaDoorW.PrintMore
set_option linter.unusedVariables false
set_option linter.unusedSimpArgs false

section
variable {W : World} {base g bm : Nat} {vl vd ve : Value} {wv : List (Int × Value)} {er : List (List Value)} {J : Jn}

/-- The joiner's own cells are written, its data or its events let go. -/
theorem JM_cells {W' : World} {vd' ve' : Value} {er' : List (List Value)} {J' : Jn} (h : JM W base g bm vl vd ve wv er J) (hk : Kept W W' (fun k => k = g))
    (hg' : W'.heap[g]? = some (.cells #[.int .i64 J'.nm, .int .i64 J'.room, .int .i64 J'.most, vl, .map (some bm), .int .i64 J'.next, .int .i64 J'.mode, vd', ve'] 102 (0, 0)))
    (hd : (vd' = vd ∧ J'.data = J.data) ∨ (vd' = .slice none 0 0 ∧ J'.data = [])) (he : (ve' = ve ∧ er' = er ∧ J'.evs = J.evs) ∨ (ve' = .slice none 0 0 ∧ er' = [] ∧ J'.evs = []))
    (hl : J'.last = J.last) (hw : J'.wait = J.wait) :
    JM W' base g bm vl vd' ve' wv er' J' ∧ Kept W W' (Mut g bm vl vd ve) ∧ (∀ k, k < W.heap.size → Mut g bm vl vd' ve' k → Mut g bm vl vd ve k) := by
  obtain ⟨al, ad, ae, hgm⟩ := h.apart
  have hkM : Kept W W' (Mut g bm vl vd ve) := ⟨hk.1, fun k hk1 hs => hk.2 k hk1 (fun e => hs (.inl e))⟩
  have hmut : ∀ k, k < W.heap.size → Mut g bm vl vd' ve' k → Mut g bm vl vd ve k := fun k hk1 hm => by
    rcases hm with hm | hm | hm | hm | hm
    · exact .inl hm
    · exact .inr (.inl hm)
    · exact .inr (.inr (.inl hm))
    · rcases hd with ⟨e, _⟩ | ⟨e, _⟩
      · rw [e] at hm; exact .inr (.inr (.inr (.inl hm)))
      · rw [e] at hm; simp [Value.ownBlock] at hm
    · rcases he with ⟨e, _⟩ | ⟨e, _⟩
      · rw [e] at hm; exact .inr (.inr (.inr (.inr hm)))
      · rw [e] at hm; simp [Value.ownBlock] at hm
  refine ⟨⟨hg', h.hgb, h.hbm, hl ▸ R_stay rfl h.hlast hk (fun k hk1 hs => (al k hk1).1 hs), ?_, ?_, ?_, ?_, ?_, hw ▸ h.hsort⟩, hkM, hmut⟩
  · rcases hd with ⟨e, e2⟩ | ⟨e, e2⟩
    · rw [e, e2]; exact R_stay rfl h.hdata hk (fun k hk1 hs => (ad k hk1).1 hs)
    · rw [e, e2]; exact Kd.R_nil _ _ _ _ _
  · rcases he with ⟨e, e2, _⟩ | ⟨e, e2, _⟩
    · rw [e, e2]; exact R_stay rfl h.hevs hk (fun k hk1 hs => (ae k hk1).1 hs)
    · rw [e, e2]; exact Kd.R_nil _ _ _ _ _
  · rcases he with ⟨e, e2, e3⟩ | ⟨e, e2, e3⟩
    · rw [e2, e3]
      exact h.hev.imp fun x y ⟨A, c, h1, h2, h3⟩ => ⟨A, c, h1, h2, h3.kept hkM hmut⟩
    · rw [e2, e3]
      exact ⟨rfl, fun j x y hx => by simp at hx⟩
  · refine map_stay h.hmap (hk.2 bm ?_ (fun e => hgm e.symm))
    obtain ⟨es, clock, hm⟩ := map_blk h.hmap
    exact (Array.getElem?_eq_some_iff.1 hm).1
  · rw [hw]
    exact h.hwv.imp fun x y ⟨h1, A, c, h2, h3, h4⟩ => ⟨h1, A, c, h2, h3, h4.kept hkM hmut⟩
end

theorem kept_trans {W W1 W2 : World} {X X1 : Nat → Prop} (h : Kept W W1 X) (k : Kept W1 W2 X1) (hx : ∀ q, q < W.heap.size → X1 q → X q) : Kept W W2 X :=
  ⟨Nat.le_trans h.1 k.1, fun q hq hn => (k.2 q (Nat.lt_of_lt_of_le hq h.1) (fun e => hn (hx q hq e))).trans (h.2 q hq hn)⟩
theorem jm_drew {W : World} {base g bm : Nat} {vl vd ve : Value} {wv : List (Int × Value)} {er : List (List Value)} {J : Jn} (h : JM W base g bm vl vd ve wv er J) : JM W.drew base g bm vl vd ve wv er J :=
  ⟨h.hg, h.hgb, h.hbm, Kd.R_drew h.hlast, Kd.R_drew h.hdata, Kd.R_drew h.hevs, h.hev, h.hmap, h.hwv, h.hsort⟩
set_option maxHeartbeats 1000000 in
set_option maxRecDepth 100000 in
theorem take_any (W : World) (base g bm : Nat) (vl vd ve : Value) (wv : List (Int × Value)) (er : List (List Value)) (J : Jn) (h : JM W base g bm vl vd ve wv er J) :
    Calls Tryd.prog 48 #[.pointer (some ⟨g, 0, none⟩)] W fun e W' => e = .returned ve ∧
      JM W' base g bm vl vd (.slice none 0 0) wv [] { J with evs := [] } ∧ (rawK 4).R 84 W' base (fun _ => True) ve er ∧ All2 (EvOK W' (Mut g bm vl vd (.slice none 0 0))) J.evs er ∧
      Kept W W' (Mut g bm vl vd ve) ∧ (∀ k, k < W.heap.size → Mut g bm vl vd (.slice none 0 0) k → Mut g bm vl vd ve k) ∧ Below base W W' := by
  obtain ⟨Ae, ce, rfl⟩ := Kd.R_slice h.hevs
  have HJ := Aside0.mk h
  have hg := h.hg
  have c8 := blk_cell hg 8
  have fz : ∀ j, W.frozen? ⟨g, j, none⟩ = false := fun j => blk_frozen hg j
  simp at c8
  clear h hg
  go_enter Tryd.func48, Tryd.ntmps48
  go_wp2
  go_ret
  have hset := blk_set HJ.out.hg 8 (.slice none 0 0)
  have hk : Kept W (W.setCell ⟨g, 8, none⟩ (.slice none 0 0)) (fun k => k = g) := ⟨by simp [World.setCell], fun k _ hs => far_cell W g 8 k _ hs⟩
  obtain ⟨h1, h2, h3⟩ := JM_cells (J' := { J with evs := [] }) HJ.out hk (by simpa using hset) (.inl ⟨rfl, rfl⟩) (.inr ⟨rfl, rfl, rfl⟩) rfl rfl
  obtain ⟨al, ad, ae, hgm⟩ := HJ.out.apart
  exact ⟨rfl, h1, R_stay rfl HJ.out.hevs hk (fun k hk1 hs => (ae k hk1).1 hs), HJ.out.hev.imp fun x y ⟨A, c, q1, q2, q3⟩ => ⟨A, c, q1, q2, q3.kept h2 h3⟩, h2, h3, (Below.refl base W).setCell (p := ⟨g, 8, none⟩) HJ.out.hgb _⟩

set_option maxHeartbeats 1000000 in
set_option maxRecDepth 100000 in
theorem kept_any (W : World) (base g bm : Nat) (vl vd ve : Value) (wv : List (Int × Value)) (er : List (List Value)) (J : Jn) (h : JM W base g bm vl vd ve wv er J) :
    Calls Tryd.prog 36 #[.pointer (some ⟨g, 0, none⟩)] W fun e W' => e = .returned (.int .i64 J.wait.length) ∧ W' = W := by
  have HJ := Aside0.mk h
  have hg := h.hg
  have c4 := blk_cell hg 4
  simp at c4
  have hlw : wv.length = J.wait.length := h.hwv.1
  have hm := h.hmap
  clear h hg
  go_enter Tryd.func36, Tryd.ntmps36
  go_wp2_with (at_len; refine wpList_len_own _ rfl _ 99 rfl 3 29 Tryd.underlying99 elemR bm wv.length _ rfl hm ?_)
  go_ret
  refine ⟨?_, rfl⟩
  simp [Maps.size, hlw]

set_option maxHeartbeats 1000000 in
set_option maxRecDepth 100000 in
theorem lose_any (W : World) (base g bm : Nat) (vl vd ve : Value) (wv : List (Int × Value)) (er : List (List Value)) (J : Jn) (fin : Int) (h : JM W base g bm vl vd ve wv er J) (hnm : 0 < J.nm) (hb : base ≤ W.heap.size) (hlen : er.length ≤ 100000) (hw : IntKind.i64.wrap (fin - J.next) = fin - J.next) :
    Calls Tryd.prog 57 #[.pointer (some ⟨g, 0, none⟩), .int .i64 fin] W fun e W' => ∃ ve' er', (∃ v, e = .returned v) ∧ er'.length = er.length + 1 ∧
      JM W' base g bm vl (.slice none 0 0) ve' wv er' { tellJ J 1 J.next (fin - J.next) with next := fin, mode := 2, data := [] } ∧ Kept W W' (Mut g bm vl vd ve) ∧ (∀ k, k < W.heap.size → Mut g bm vl (.slice none 0 0) ve' k → Mut g bm vl vd ve k) ∧ Below base W W' := by
  have HJ := Aside0.mk h
  have hg := h.hg
  have c5 := blk_cell hg 5
  simp at c5
  clear h hg
  go_enter Tryd.func57, Tryd.ntmps57
  go_wp2_with (fail)
  go_region_held3 (fun w' => w'.cell? ⟨g, 5, none⟩ = some (.int .i64 J.next)) (first | go_keep)
    (first | (go_at_call 64; refine (tell_any _ base g bm vl vd ve wv er J 1 J.next (fin - J.next) (jm_drew HJ.out) hnm hb hlen).mono ?_; rintro e2 w2 ⟨ve', ⟨v2, rfl⟩, hJ2, hk2, hm2, hb2⟩; have HJ2 := Aside0.mk hJ2; have HK2 := Aside0.mk hk2; have HM2 := Aside0.mk hm2; have HB2 := Aside0.mk hb2; have y5 := blk_cell hJ2.hg 5; simp [tellJ] at y5; clear hJ2 hk2 hm2 hb2))
  have hg2 := HJ2.out.hg
  have y6 := blk_cell hg2 6
  have y7 := blk_cell hg2 7
  have fz : ∀ j, w2.frozen? ⟨g, j, none⟩ = false := fun j => blk_frozen hg2 j
  simp [tellJ] at y6 y7
  clear hg2
  go_wp2
  go_end0
  have hs := blk_set (blk_set (blk_set HJ2.out.hg 5 (.int .i64 fin)) 6 (.int .i64 2)) 7 (.slice none 0 0)
  have hk : Kept w2 (((w2.setCell ⟨g, 5, none⟩ (.int .i64 fin)).setCell ⟨g, 6, none⟩ (.int .i64 2)).setCell ⟨g, 7, none⟩ (.slice none 0 0)) (fun k => k = g) :=
    ⟨by simp [World.setCell], fun k _ hs => (far_cell _ g 7 k _ hs).trans ((far_cell _ g 6 k _ hs).trans (far_cell _ g 5 k _ hs))⟩
  obtain ⟨h1, h2, h3⟩ := JM_cells (J' := { tellJ J 1 J.next (fin - J.next) with next := fin, mode := 2, data := [] }) HJ2.out hk (by simpa [tellJ] using hs) (.inr ⟨rfl, rfl⟩) (.inl ⟨rfl, rfl, rfl⟩) rfl rfl
  refine ⟨_, _, ⟨_, rfl⟩, by simp, h1, kept_trans HK2.out h2 HM2.out, fun k hk1 hm => HM2.out k hk1 (h3 k (Nat.lt_of_lt_of_le hk1 HK2.out.1) hm), ?_⟩
  exact ((((below_drew (Below.refl base W)).trans HB2.out).setCell (p := ⟨g, 5, none⟩) HJ.out.hgb _).setCell (p := ⟨g, 6, none⟩) HJ.out.hgb _).setCell (p := ⟨g, 7, none⟩) HJ.out.hgb _

end Go.Proofs.YtgopklnfdlnojaaDoor.Jb
namespace Go.Proofs.YtgopklnfdlnojaaDoor.Jc
open Go.RowKit Go.Proofs.YtgopklnfdlnojaaDoor.Ga Go.Proofs.YtgopklnfdlnojaaDoor.My Go.Proofs.YtgopklnfdlnojaaDoor.Gb Go.Proofs.YtgopklnfdlnojaaDoor.Gp Go.Proofs.YtgopklnfdlnojaaDoor.Ja Go.Proofs.YtgopklnfdlnojaaDoor.Jb Go.Proofs.YtgopklnfdlnojaaDoorW.PrintWords Go.Proofs.YtgopklnfdlnojaaDoorW.PrintLast Go.Proofs.YtgopklnfdlnojaaDoorW.PrintMore
set_option linter.unusedVariables false
set_option linter.unusedSimpArgs false

/-- The first switch: a piece that doesn't fit is told. -/
def badJ (J : Jn) (place : Int) (b : Bool) : Jn := if (b && J.mode == 1) || (!b && J.mode == 0) then tellJ J 2 place 0 else J
/-- The last switch: too long, or whole. -/
def doneJ (J : Jn) (e : Bool) : Jn :=
  if J.most < (J.data.length : Int) then { J with evs := J.evs ++ [⟨3, [], 0, 0⟩], mode := 2, data := [] }
  else if e then { J with evs := J.evs ++ [⟨0, J.data, 0, 0⟩], mode := 0, data := [] } else J
/-- A joiner behind a piece. -/
def pieceJ (J : Jn) (place : Int) (p : S29) : Jn :=
  if p.f0 then doneJ { badJ J place p.f0 with mode := 1, data := p.f3 } p.f1
  else if (badJ J place p.f0).mode == 1 then doneJ { badJ J place p.f0 with data := (badJ J place p.f0).data ++ p.f3 } p.f1
  else { badJ J place p.f0 with mode := 2 }

theorem kept_of_below {W W' : World} (h : Below W.heap.size W W') (X : Nat → Prop) : Kept W W' X := ⟨h.size, fun k hk _ => h.block k hk⟩

section
variable {W W' : World} {base g bm : Nat} {vl vd ve : Value} {wv : List (Int × Value)} {er : List (List Value)} {J : Jn}
/-- New blocks do not touch a joiner. -/
theorem jm_below (h : JM W base g bm vl vd ve wv er J) (hb : Below W.heap.size W W') : JM W' base g bm vl vd ve wv er J := by
  have hkM := kept_of_below hb (Mut g bm vl vd ve)
  have hm : ∀ k, k < W.heap.size → Mut g bm vl vd ve k → Mut g bm vl vd ve k := fun _ _ h => h
  refine ⟨blk_keep h.hg hb, h.hgb, h.hbm, Kd.R_below h.hlast hb, Kd.R_below h.hdata hb, Kd.R_below h.hevs hb, h.hev.imp fun x y ⟨A, c, h1, h2, h3⟩ => ⟨A, c, h1, h2, h3.kept hkM hm⟩, ?_, h.hwv.imp fun x y ⟨h1, A, c, h2, h3, h4⟩ => ⟨h1, A, c, h2, h3, h4.kept hkM hm⟩, h.hsort⟩
  obtain ⟨es, clock, hmb⟩ := map_blk h.hmap
  exact map_stay h.hmap (hb.block bm (Array.getElem?_eq_some_iff.1 hmb).1)
/-- What a joiner writes lies in memory. -/
theorem mut_lt (h : JM W base g bm vl vd ve wv er J) (k : Nat) (hk : Mut g bm vl vd ve k) : k < W.heap.size := by
  obtain ⟨es, clock, hmb⟩ := map_blk h.hmap
  rcases hk with e | e | e | e | e
  · subst e; exact (Array.getElem?_eq_some_iff.1 h.hg).1
  · subst e; exact (Array.getElem?_eq_some_iff.1 hmb).1
  · exact Kd.R_lt h.hlast k e.symm
  · exact Kd.R_lt h.hdata k e.symm
  · exact Kd.R_lt h.hevs k e.symm
end

section
variable {W W' : World} {base g bm : Nat} {vl vd ve : Value} {wv : List (Int × Value)} {er : List (List Value)} {J J' : Jn}
/-- The joiner's data is written, or made anew. -/
theorem JM_data {vd' : Value} (h : JM W base g bm vl vd ve wv er J) (hk : Kept W W' (fun k => k = g ∨ some k = vd.ownBlock))
    (hg' : W'.heap[g]? = some (.cells #[.int .i64 J'.nm, .int .i64 J'.room, .int .i64 J'.most, vl, .map (some bm), .int .i64 J'.next, .int .i64 J'.mode, vd', ve] 102 (0, 0)))
    (hd : (Kd.int .u8).R 5 W' base (fun _ => True) vd' J'.data) (hv : ∀ k, k < W.heap.size → some k = vd'.ownBlock → some k = vd.ownBlock) (he : J'.evs = J.evs) (hl : J'.last = J.last) (hw : J'.wait = J.wait) :
    JM W' base g bm vl vd' ve wv er J' ∧ Kept W W' (Mut g bm vl vd ve) ∧ (∀ k, k < W.heap.size → Mut g bm vl vd' ve k → Mut g bm vl vd ve k) := by
  obtain ⟨al, ad, ae, hgm⟩ := h.apart
  have hkM : Kept W W' (Mut g bm vl vd ve) := ⟨hk.1, fun k hk1 hs => hk.2 k hk1 (fun e => hs (e.elim .inl (fun e => .inr (.inr (.inr (.inl e))))))⟩
  have hmut : ∀ k, k < W.heap.size → Mut g bm vl vd' ve k → Mut g bm vl vd ve k := fun k hk1 hm => by
    rcases hm with hm | hm | hm | hm | hm
    · exact .inl hm
    · exact .inr (.inl hm)
    · exact .inr (.inr (.inl hm))
    · exact .inr (.inr (.inr (.inl (hv k hk1 hm))))
    · exact .inr (.inr (.inr (.inr hm)))
  refine ⟨⟨hg', h.hgb, h.hbm, hl ▸ R_stay rfl h.hlast hk (fun k hk1 hs => hs.elim (al k hk1).1 (al k hk1).2.2.1), hd, R_stay rfl h.hevs hk (fun k hk1 hs => hs.elim (ae k hk1).1 (ae k hk1).2.2.2), ?_, ?_, ?_, hw ▸ h.hsort⟩, hkM, hmut⟩
  · rw [he]
    exact h.hev.imp fun x y ⟨A, c, h1, h2, h3⟩ => ⟨A, c, h1, h2, h3.kept hkM hmut⟩
  · refine map_stay h.hmap (hk.2 bm ?_ ?_)
    · obtain ⟨es, clock, hm⟩ := map_blk h.hmap
      exact (Array.getElem?_eq_some_iff.1 hm).1
    · rintro (e | e)
      · exact hgm e.symm
      · exact (ad bm e).2.1 rfl
  · rw [hw]
    exact h.hwv.imp fun x y ⟨h1, A, c, h2, h3, h4⟩ => ⟨h1, A, c, h2, h3, h4.kept hkM hmut⟩

/-- A whole packet is told: its octets are the event's now. -/
theorem JM_whole {w9 : World} {ve' : Value} {Ad : Option Addr} {cd : Nat} (h : JM W base g bm vl (.slice Ad J.data.length cd) ve wv er J) (ho : (rawK 4).R 84 w9 base (fun _ => True) ve' (er ++ [[.int .i64 0, .slice Ad J.data.length cd, .int .i64 0, .int .i64 0]])) (hb9 : Below base W w9) (hgr : W.grownBy w9 ve.ownBlock) (hat : ve'.ownBlock = ve.ownBlock ∨ ∃ b, ve'.ownBlock = some b ∧ W.heap.size ≤ b) :
    JM (((w9.setCell ⟨g, 8, none⟩ ve').setCell ⟨g, 6, none⟩ (.int .i64 0)).setCell ⟨g, 7, none⟩ (.slice none 0 0)) base g bm vl (.slice none 0 0) ve' wv (er ++ [[.int .i64 0, .slice Ad J.data.length cd, .int .i64 0, .int .i64 0]]) { J with evs := J.evs ++ [⟨0, J.data, 0, 0⟩], mode := 0, data := [] } ∧
      Kept W (((w9.setCell ⟨g, 8, none⟩ ve').setCell ⟨g, 6, none⟩ (.int .i64 0)).setCell ⟨g, 7, none⟩ (.slice none 0 0)) (Mut g bm vl (.slice Ad J.data.length cd) ve) ∧ (∀ k, k < W.heap.size → Mut g bm vl (.slice none 0 0) ve' k → Mut g bm vl (.slice Ad J.data.length cd) ve k) ∧
      Below base W (((w9.setCell ⟨g, 8, none⟩ ve').setCell ⟨g, 6, none⟩ (.int .i64 0)).setCell ⟨g, 7, none⟩ (.slice none 0 0)) := by
  obtain ⟨al, ad, ae, hgm⟩ := h.apart
  have hg9 : w9.heap[g]? = _ := blk_grown h.hg hgr (fun e => (ae g e).1 rfl)
  have hs := blk_set (blk_set (blk_set hg9 8 ve') 6 (.int .i64 0)) 7 (.slice none 0 0)
  have hR := Kd.R_set (Kd.R_set (Kd.R_set ho hg9 (by intro q hq; simp [rawK] at hq; subst hq; decide) 8 ve') (blk_set hg9 8 ve') (by intro q hq; simp [rawK] at hq; subst hq; decide) 6 (.int .i64 0)) (blk_set (blk_set hg9 8 ve') 6 (.int .i64 0)) (by intro q hq; simp [rawK] at hq; subst hq; decide) 7 (.slice none 0 0)
  have hfar : ∀ k, k ≠ g → (((w9.setCell ⟨g, 8, none⟩ ve').setCell ⟨g, 6, none⟩ (.int .i64 0)).setCell ⟨g, 7, none⟩ (.slice none 0 0)).heap[k]? = w9.heap[k]? := fun k hk => (far_cell _ g 7 k _ hk).trans ((far_cell _ g 6 k _ hk).trans (far_cell _ g 8 k _ hk))
  have hsz : (((w9.setCell ⟨g, 8, none⟩ ve').setCell ⟨g, 6, none⟩ (.int .i64 0)).setCell ⟨g, 7, none⟩ (.slice none 0 0)).heap.size = w9.heap.size := by simp [World.setCell]
  have hbel : Below base W (((w9.setCell ⟨g, 8, none⟩ ve').setCell ⟨g, 6, none⟩ (.int .i64 0)).setCell ⟨g, 7, none⟩ (.slice none 0 0)) := ((hb9.setCell (p := ⟨g, 8, none⟩) h.hgb _).setCell (p := ⟨g, 6, none⟩) h.hgb _).setCell (p := ⟨g, 7, none⟩) h.hgb _
  generalize ((w9.setCell ⟨g, 8, none⟩ ve').setCell ⟨g, 6, none⟩ (.int .i64 0)).setCell ⟨g, 7, none⟩ (.slice none 0 0) = WW at hs hR hfar hsz hbel ⊢
  have hkeep : Kept W WW (fun k => k = g ∨ some k = ve.ownBlock) := ⟨by rw [hsz]; exact hgr.size, fun k hk hs => (hfar k (fun e => hs (.inl e))).trans (hgr.block k hk (fun e => hs (.inr e)))⟩
  have hkM : Kept W WW (Mut g bm vl (.slice Ad J.data.length cd) ve) := ⟨hkeep.1, fun k hk hs => hkeep.2 k hk (fun e => hs (e.elim .inl (fun e => .inr (.inr (.inr (.inr e))))))⟩
  have hnew : ∀ k, k < W.heap.size → some k = ve'.ownBlock → some k = ve.ownBlock := fun k hk hm => by
    rcases hat with e | ⟨b, e, hb⟩
    · exact hm.trans e
    · rw [e] at hm; cases hm; omega
  have hmut : ∀ k, k < W.heap.size → Mut g bm vl (.slice none 0 0) ve' k → Mut g bm vl (.slice Ad J.data.length cd) ve k := fun k hk hm => by
    rcases hm with hm | hm | hm | hm | hm
    · exact .inl hm
    · exact .inr (.inl hm)
    · exact .inr (.inr (.inl hm))
    · simp [Value.ownBlock] at hm
    · exact .inr (.inr (.inr (.inr (hnew k hk hm))))
  have hdat := R_stay rfl h.hdata hkeep (fun k hk hs => hs.elim (ad k hk).1 (ad k hk).2.2.2)
  have hdlt := Kd.R_lt h.hdata
  refine ⟨⟨by simpa using hs, h.hgb, h.hbm, R_stay rfl h.hlast hkeep (fun k hk hs => hs.elim (al k hk).1 (al k hk).2.2.2), Kd.R_nil _ _ _ _ _, hR, ?_, ?_, h.hwv.imp fun x y ⟨h1, A, c, h2, h3, h4⟩ => ⟨h1, A, c, h2, h3, h4.kept hkM hmut⟩, h.hsort⟩, hkM, hmut, hbel⟩
  · refine All2.snoc (h.hev.imp fun x y ⟨A, c, h1, h2, h3⟩ => ⟨A, c, h1, h2, h3.kept hkM hmut⟩) ⟨Ad, cd, rfl, (Kd.R_reads' h.hdata).2.1, ?_⟩
    refine Kd.F_mono (Kd.R_F (Kd.R_tight rfl hdat)) fun k hk => ?_
    have hlt := hdlt k hk.symm
    have ha := ad k hk
    refine ⟨Nat.lt_of_lt_of_le hlt hkeep.1, fun hm => ?_, own_type hdat k hk⟩
    rcases hm with hm | hm | hm | hm | hm
    · exact ha.1 hm
    · exact ha.2.1 hm
    · exact ha.2.2.1 hm
    · simp [Value.ownBlock] at hm
    · exact ha.2.2.2 (hnew k hlt hm)
  · refine map_stay h.hmap (hkeep.2 bm ?_ ?_)
    · obtain ⟨es, clock, hm⟩ := map_blk h.hmap
      exact (Array.getElem?_eq_some_iff.1 hm).1
    · rintro (e | e)
      · exact hgm e.symm
      · exact (ae bm e).2.1 rfl
end

set_option maxHeartbeats 4000000 in
set_option maxRecDepth 100000 in
theorem piece_any (W : World) (base g bm : Nat) (vl vd ve : Value) (wv : List (Int × Value)) (er : List (List Value)) (J : Jn) (place : Int) (p : S29) (A : Option Addr) (c : Nat) (h : JM W base g bm vl vd ve wv er J) (hnm : 0 < J.nm) (hb : base ≤ W.heap.size) (hlen : er.length ≤ 90000) (hdl : J.data.length + p.f3.length ≤ 10000000)
    (hc : p.f3.length ≤ c) (hs : Sl W (Mut g bm vl vd ve) A p.f3.length p.f3) :
    Calls Tryd.prog 58 #[.pointer (some ⟨g, 0, none⟩), .int .i64 place, pc p.f0 p.f1 p.f2 A p.f3.length c] W fun e W' => ∃ vd' ve' er', (∃ v, e = .returned v) ∧ er'.length ≤ er.length + 2 ∧
      JM W' base g bm vl vd' ve' wv er' (pieceJ J place p) ∧ Kept W W' (Mut g bm vl vd ve) ∧ (∀ k, k < W.heap.size → Mut g bm vl vd' ve' k → Mut g bm vl vd ve k) ∧ Below base W W' := by
  have HJ0 := Aside0.mk h
  have HSL0 := Aside0.mk hs
  have HC := Aside0.mk hc
  have HDL := Aside0.mk hdl
  clear h hs hc hdl
  go_enter Tryd.func58, Tryd.ntmps58
  go_upto_block 0 with (fail)
  have hbw := below_alloc (Below.refl _ W) (.cells #[.bool p.f0, .bool p.f1, .int .i64 p.f2, .slice A p.f3.length c] 29)
  have HB1 := Aside0.mk hbw
  have HJ := Aside0.mk (jm_below HJ0.out hbw)
  have HSL := Aside0.mk (HSL0.out.kept (kept_of_below hbw _) (fun _ _ h => h))
  have HP := Aside0.mk (new1 W (.cells #[.bool p.f0, .bool p.f1, .int .i64 p.f2, .slice A p.f3.length c] 29))
  have hP5 : ¬ Mut g bm vl vd ve W.heap.size := fun e => absurd (mut_lt HJ0.out _ e) (Nat.lt_irrefl _)
  have HP5 := Aside0.mk hP5
  have HPG := Aside0.mk (show W.heap.size < (W.alloc (.cells #[.bool p.f0, .bool p.f1, .int .i64 p.f2, .slice A p.f3.length c] 29)).heap.size by rw [World.size_alloc]; omega)
  clear hbw hP5
  obtain ⟨g5, hg5⟩ : ∃ q, W.heap.size = q := ⟨_, rfl⟩
  rw [hg5] at HP HP5 HPG
  simp only [hg5]
  generalize W.alloc (.cells #[.bool p.f0, .bool p.f1, .int .i64 p.f2, .slice A p.f3.length c] 29) = W1 at HB1 HJ HSL HP HPG ⊢
  have hgg := HJ.out.hg
  have c6 := blk_cell hgg 6
  simp at c6
  obtain ⟨p0, p1, p2, p3⟩ := cells4 HP.out
  clear hgg
  generalize pc p.f0 p.f1 p.f2 A p.f3.length c = v2
  go_cut [5] (fun v5 wc => v5 = .pointer (some ⟨g5, 0, none⟩) ∧ ∃ ve1 er1, er1.length ≤ er.length + 1 ∧ JM wc base g bm vl vd ve1 wv er1 (badJ J place p.f0) ∧ Kept W1 wc (Mut g bm vl vd ve) ∧ (∀ k, k < W1.heap.size → Mut g bm vl vd ve1 k → Mut g bm vl vd ve k) ∧ Below base W1 wc)
  case first =>
    cases hb0 : p.f0 with
    | true =>
      have HB0 := Aside0.mk hb0
      rw [hb0] at p0
      clear hb0
      by_cases hm : J.mode = 1
      · have hm1 : (J.mode == 1) = true := by simpa using hm
        have HM := Aside0.mk hm
        clear hm
        go_wp2_with (fail)
        refine (tell_any W1 base g bm vl vd ve wv er J 2 place 0 HJ.out hnm (Nat.le_trans hb HB1.out.size) (by omega)).mono ?_
        rintro e2 w2 ⟨ve', ⟨v2', rfl⟩, hJ2, hk2, hm2, hb2⟩
        have HX := Aside0.mk (And.intro hJ2 (And.intro hk2 (And.intro hm2 hb2)))
        clear hJ2 hk2 hm2 hb2
        go_wp2
        go_meet
        refine ⟨rfl, ve', er ++ [[.int .i64 2, .slice none 0 0, .int .i64 (Int.tmod place J.nm), .int .i64 0]], by simp, ?_, HX.out.2.1, HX.out.2.2.1, HX.out.2.2.2⟩
        have e : badJ J place p.f0 = tellJ J 2 place 0 := by rw [badJ, HB0.out]; simp [HM.out]
        rw [e]
        exact HX.out.1
      · have hm1 : (J.mode == 1) = false := by simpa using hm
        have HM := Aside0.mk hm
        clear hm
        go_wp2
        go_meet
        refine ⟨rfl, ve, er, by omega, ?_, Kept.refl _ _, fun _ _ h => h, Below.refl _ _⟩
        have e : badJ J place p.f0 = J := by rw [badJ, HB0.out]; simp [HM.out]
        rw [e]
        exact HJ.out
    | false =>
      have HB0 := Aside0.mk hb0
      rw [hb0] at p0
      clear hb0
      by_cases hm : J.mode = 0
      · have hm1 : (J.mode == 0) = true := by simpa using hm
        have HM := Aside0.mk hm
        clear hm
        go_wp2_with (fail)
        refine (tell_any W1 base g bm vl vd ve wv er J 2 place 0 HJ.out hnm (Nat.le_trans hb HB1.out.size) (by omega)).mono ?_
        rintro e2 w2 ⟨ve', ⟨v2', rfl⟩, hJ2, hk2, hm2, hb2⟩
        have HX := Aside0.mk (And.intro hJ2 (And.intro hk2 (And.intro hm2 hb2)))
        clear hJ2 hk2 hm2 hb2
        go_wp2
        go_meet
        refine ⟨rfl, ve', er ++ [[.int .i64 2, .slice none 0 0, .int .i64 (Int.tmod place J.nm), .int .i64 0]], by simp, ?_, HX.out.2.1, HX.out.2.2.1, HX.out.2.2.2⟩
        have e : badJ J place p.f0 = tellJ J 2 place 0 := by rw [badJ, HB0.out]; simp [HM.out]
        rw [e]
        exact HX.out.1
      · have hm1 : (J.mode == 0) = false := by simpa using hm
        have HM := Aside0.mk hm
        clear hm
        go_wp2
        go_meet
        refine ⟨rfl, ve, er, by omega, ?_, Kept.refl _ _, fun _ _ h => h, Below.refl _ _⟩
        have e : badJ J place p.f0 = J := by rw [badJ, HB0.out]; simp [HM.out]
        rw [e]
        exact HJ.out
  case rest =>
    obtain ⟨rfl, ve1, er1, hle, hJ1, hk1, hm1, hbb1⟩ := hcut
    have HJ1 := Aside0.mk hJ1
    have HK1 := Aside0.mk hk1
    have HM1 := Aside0.mk hm1
    have HBB1 := Aside0.mk hbb1
    have HLE := Aside0.mk hle
    clear hJ1 hk1 hm1 hbb1 hle c6 p0 p1 p2 p3
    go_upto_block 1 with (fail)
    obtain ⟨W2, hW2⟩ : ∃ V, V = wc := ⟨_, rfl⟩
    subst hW2
    have HP2 := Aside0.mk ((HK1.out.2 g5 HPG.out HP5.out).trans HP.out)
    have HSL2 := Aside0.mk (HSL.out.kept HK1.out HM1.out)
    obtain ⟨J1, hJ1e⟩ : ∃ q, badJ J place p.f0 = q := ⟨_, rfl⟩
    have HJE := Aside0.mk hJ1e
    rw [hJ1e] at HJ1
    have hdl1 : J1.data.length + p.f3.length ≤ 10000000 := by rw [← hJ1e, badJ]; split <;> exact HDL.out
    have HDL1 := Aside0.mk hdl1
    clear hJ1e hdl1
    obtain ⟨p0, p1, p2, p3⟩ := cells4 HP2.out
    have hgg := HJ1.out.hg
    have c6 := blk_cell hgg 6
    have c7 := blk_cell hgg 7
    have fz : ∀ j, W2.frozen? ⟨g, j, none⟩ = false := fun j => blk_frozen hgg j
    simp at c6 c7
    obtain ⟨Ad, cd, rfl⟩ := Kd.R_slice HJ1.out.hdata
    clear hgg
    go_cut [5] (fun v5 wc => v5 = .pointer (some ⟨g5, 0, none⟩) ∧ ∃ vd2, JM wc base g bm vl vd2 ve1 wv er1 (if p.f0 then { J1 with mode := 1, data := p.f3 } else { J1 with data := J1.data ++ p.f3 }) ∧ (p.f0 = true ∨ J1.mode = 1) ∧ Kept W2 wc (Mut g bm vl (.slice Ad J1.data.length cd) ve1) ∧ (∀ k, k < W2.heap.size → Mut g bm vl vd2 ve1 k → Mut g bm vl (.slice Ad J1.data.length cd) ve1 k) ∧ Below base W2 wc)
    case first =>
      cases hb0 : p.f0 with
      | true =>
        have HB0 := Aside0.mk hb0
        rw [hb0] at p0
        clear hb0
        go_wp2_with (fail)
        refine (clone_any A p.f3.length c p.f3 W2 (Kd.F_now HSL2.out) HC.out (Sb.C_none (Kd.F_now HSL2.out)) (by have := HDL1.out; omega)).mono ?_
        rintro ex3 w3 ⟨A3, c3, rfl, hcc3, hR3, hb3⟩
        have HJ3 := Aside0.mk (jm_below HJ1.out hb3)
        have HR3 := Aside0.mk hR3
        have HB3 := Aside0.mk hb3
        have hg3 := HJ3.out.hg
        have y6 := blk_cell hg3 6
        have y7 := blk_cell hg3 7
        have fz3 : ∀ j, w3.frozen? ⟨g, j, none⟩ = false := fun j => blk_frozen hg3 j
        simp at y6 y7
        clear hcc3 hR3 hb3 hg3
        go_wp2
        go_meet
        have hs := blk_set (blk_set HJ3.out.hg 6 (.int .i64 1)) 7 (.slice A3 p.f3.length c3)
        have hk : Kept W2 ((w3.setCell ⟨g, 6, none⟩ (.int .i64 1)).setCell ⟨g, 7, none⟩ (.slice A3 p.f3.length c3)) (fun k => k = g ∨ some k = (Value.slice Ad J1.data.length cd).ownBlock) :=
          ⟨by simpa [World.setCell] using HB3.out.size, fun k hk1 hs => ((far_cell _ g 7 k _ (fun e => hs (.inl e))).trans (far_cell _ g 6 k _ (fun e => hs (.inl e)))).trans (HB3.out.block k hk1)⟩
        have hRn := Kd.R_set (Kd.R_set HR3.out HJ3.out.hg (by intro q hq; simp [Kd.int, Kd.scalar] at hq; subst hq; decide) 6 (.int .i64 1)) (blk_set HJ3.out.hg 6 (.int .i64 1)) (by intro q hq; simp [Kd.int, Kd.scalar] at hq; subst hq; decide) 7 (.slice A3 p.f3.length c3)
        have hfresh := Kd.R_base HR3.out
        have hbW2 : base ≤ W2.heap.size := Nat.le_trans hb (Nat.le_trans HB1.out.size HK1.out.1)
        obtain ⟨h1, h2, h3⟩ := JM_data (J' := { J1 with mode := 1, data := p.f3 }) HJ1.out hk (by simpa using hs) (Kd.R_lower hRn hbW2) (fun k hk1 hm => absurd (hfresh k hm.symm) (by omega)) rfl rfl rfl
        refine ⟨rfl, _, by rw [if_pos HB0.out]; exact h1, .inl HB0.out, h2, h3, ?_⟩
        exact ((HB3.out.mono hbW2).setCell (p := ⟨g, 6, none⟩) HJ1.out.hgb _).setCell (p := ⟨g, 7, none⟩) HJ1.out.hgb _
      | false =>
        have HB0 := Aside0.mk hb0
        rw [hb0] at p0
        clear hb0
        by_cases hm : J1.mode = 1
        · have hm1 : (J1.mode == 1) = true := by simpa using hm
          have HM := Aside0.mk hm
          clear hm
          go_wp2_with (fail)
          have hbW2 : base ≤ W2.heap.size := Nat.le_trans hb (Nat.le_trans HB1.out.size HK1.out.1)
          go_region_law (refine Kd.R_append_rows_step (Kd.int .u8) (w0 := W2) (W := W2.drew) base ?aW (.tmp 54) (.tmp 56) 22 5 (.int .u8 0) 1 ?aU Tryd.underlying22 info5 rfl (by decide) (by decide) (.slice Ad J1.data.length cd) J1.data p.f3 A p.f3.length c (fun _ => True) (fun _ => False) ?aV ?aX ?aO ?aR (fun _ _ h => h) (fun _ h => h.elim) (fun _ _ => trivial) ?aB ?aS ?aL ?_; (case aW => rfl); (case aU => rfl); (case aV => rfl); (case aX => rfl); (case aO => exact Kd.R_drew HJ1.out.hdata); (case aR => exact Kd.C_drew (Kd.F_now HSL2.out)); (case aB => exact below_drew (Below.refl _ _)); (case aS => exact hbW2); (case aL => have := HDL1.out; omega); intro v1 w9 ho hb9 hg hat; obtain ⟨A9, c9, rfl⟩ := Kd.R_slice ho; have HO := Aside0.mk ho; have HBB := Aside0.mk hb9; have HG := Aside0.mk hg; have HAT := Aside0.mk hat; have hg9 := blk_grown (w := W2.drew) HJ1.out.hg hg (Kd.R_ne HJ1.out.hdata HJ1.out.hg (by decide)); have HG9 := Aside0.mk hg9; have y7 := blk_cell hg9 7; have fz9 : ∀ j, w9.frozen? ⟨g, j, none⟩ = false := fun j => blk_frozen hg9 j; simp at y7; clear ho hb9 hg hat hg9)
          all_goals
            go_wp2
            go_meet
            have hHO := HO.out
            have hs := blk_set HG9.out 7 (.slice A9 (J1.data ++ p.f3).length c9)
            have hk : Kept W2 (w9.setCell ⟨g, 7, none⟩ (.slice A9 (J1.data ++ p.f3).length c9)) (fun k => k = g ∨ some k = (Value.slice Ad J1.data.length cd).ownBlock) :=
              ⟨by simpa [World.setCell] using HG.out.size, fun k hk1 hs => (far_cell _ g 7 k _ (fun e => hs (.inl e))).trans (HG.out.block k hk1 (fun e => hs (.inr e)))⟩
            have hRn := Kd.R_set hHO HG9.out (by intro q hq; simp [Kd.int, Kd.scalar] at hq; subst hq; decide) 7 (.slice A9 (J1.data ++ p.f3).length c9)
            obtain ⟨h1, h2, h3⟩ := JM_data (J' := { J1 with data := J1.data ++ p.f3 }) HJ1.out hk (by simpa using hs) hRn (fun k hk1 hm => by
              rcases HAT.out with e | ⟨b, e, hb'⟩
              · exact hm.trans e
              · rw [e] at hm; cases hm; exact absurd hb' (Nat.not_le.2 hk1)) rfl rfl rfl
            have hbf := HBB.out.setCell (p := ⟨g, 7, none⟩) HJ1.out.hgb (.slice A9 (J1.data ++ p.f3).length c9)
            simp only [List.length_append] at h1 h2 h3 hbf
            exact ⟨rfl, _, by rw [if_neg (by rw [HB0.out]; decide)]; exact h1, .inr HM.out, h2, h3, hbf⟩
        · have hm1 : (J1.mode == 1) = false := by simpa using hm
          have HM := Aside0.mk hm
          clear hm
          go_wp2
          refine bodyPost_ret (results_none rfl _ _ _) rfl ?_
          have hs := blk_set HJ1.out.hg 6 (.int .i64 2)
          have hk : Kept W2 (W2.setCell ⟨g, 6, none⟩ (.int .i64 2)) (fun k => k = g) := ⟨by simp [World.setCell], fun k _ hs => far_cell _ g 6 k _ hs⟩
          obtain ⟨h1, h2, h3⟩ := JM_cells (J' := { J1 with mode := 2 }) HJ1.out hk (by simpa using hs) (.inl ⟨rfl, rfl⟩) (.inl ⟨rfl, rfl, rfl⟩) rfl rfl
          have hp : pieceJ J place p = { J1 with mode := 2 } := by
            rw [pieceJ, HJE.out, if_neg (by rw [HB0.out]; decide), if_neg (by rw [hm1]; decide)]
          rw [hp]
          have hk01 := kept_trans (kept_of_below HB1.out (Mut g bm vl (.slice Ad J1.data.length cd) ve)) HK1.out (fun _ _ h => h)
          refine ⟨_, _, _, ⟨_, rfl⟩, by have := HLE.out; omega, h1, kept_trans hk01 h2 (fun k hk1 hm => HM1.out k (Nat.lt_of_lt_of_le hk1 HB1.out.size) hm), fun k hk1 hm => HM1.out k (Nat.lt_of_lt_of_le hk1 HB1.out.size) (h3 k (Nat.lt_of_lt_of_le hk1 hk01.1) hm), ?_⟩
          exact ((HB1.out.mono hb).trans HBB1.out).setCell (p := ⟨g, 6, none⟩) HJ1.out.hgb _
    case rest =>
      obtain ⟨rfl, vd2, hJ3, hor, hk3, hm3, hbb3⟩ := hcut
      obtain ⟨W3, hW3⟩ : ∃ V, V = wc := ⟨_, rfl⟩
      subst hW3
      have HP3 := Aside0.mk ((hk3.2 g5 (Nat.lt_of_lt_of_le HPG.out HK1.out.1) (fun e => HP5.out (HM1.out g5 HPG.out e))).trans HP2.out)
      have hk01 := kept_trans (kept_of_below HB1.out (Mut g bm vl (.slice Ad J1.data.length cd) ve)) HK1.out (fun _ _ h => h)
      obtain ⟨J2, hJ2e⟩ : ∃ q, (if p.f0 then { J1 with mode := 1, data := p.f3 } else { J1 with data := J1.data ++ p.f3 } : Jn) = q := ⟨_, rfl⟩
      rw [hJ2e] at hJ3
      have hpe : pieceJ J place p = doneJ J2 p.f1 := by
        rw [← hJ2e, pieceJ, HJE.out]
        rcases hor with h | h
        · rw [if_pos h, if_pos h]
        · by_cases h0 : p.f0 = true
          · rw [if_pos h0, if_pos h0]
          · rw [if_neg h0, if_neg h0, if_pos (by simpa using h)]
      obtain ⟨A2, c2, rfl⟩ := Kd.R_slice hJ3.hdata
      obtain ⟨Ae, ce, rfl⟩ := Kd.R_slice hJ3.hevs
      have HJ3 := Aside0.mk hJ3
      have hbW3 : base ≤ W3.heap.size := Nat.le_trans hb (Nat.le_trans hk01.1 hk3.1)
      have HBW3 := Aside0.mk hbW3
      have hm01 : ∀ k, k < W.heap.size → Mut g bm vl (.slice Ad J1.data.length cd) (.slice Ae er1.length ce) k → Mut g bm vl (.slice Ad J1.data.length cd) ve k := fun k hk1 hm => HM1.out k (Nat.lt_of_lt_of_le hk1 HB1.out.size) hm
      have HK03 := Aside0.mk (kept_trans hk01 hk3 hm01)
      have HM03 := Aside0.mk (show ∀ k, k < W.heap.size → Mut g bm vl (.slice A2 J2.data.length c2) (.slice Ae er1.length ce) k → Mut g bm vl (.slice Ad J1.data.length cd) ve k from fun k hk1 hm => hm01 k hk1 (hm3 k (Nat.lt_of_lt_of_le hk1 hk01.1) hm))
      have HB03 := Aside0.mk (((HB1.out.mono hb).trans HBB1.out).trans hbb3)
      have HPE := Aside0.mk hpe
      have hlen1 : er1.length ≤ 90001 := by have := HLE.out; omega
      obtain ⟨p0, p1, p2, p3⟩ := cells4 HP3.out
      have hgg := hJ3.hg
      have c7 := blk_cell hgg 7
      have c2' := blk_cell hgg 2
      have c8 := blk_cell hgg 8
      have fz : ∀ j, W3.frozen? ⟨g, j, none⟩ = false := fun j => blk_frozen hgg j
      have t8 : ∀ o : Obj, (W3.alloc o).cell? ⟨g, 8, none⟩ = some (.slice Ae er1.length ce) := fun o => by have := blk_cell (blk_keep hgg (below_alloc (Below.refl _ W3) o)) 8; simpa using this
      have t7 : ∀ o : Obj, (W3.alloc o).cell? ⟨g, 7, none⟩ = some (.slice A2 J2.data.length c2) := fun o => by have := blk_cell (blk_keep hgg (below_alloc (Below.refl _ W3) o)) 7; simpa using this
      simp at c7 c2' c8
      clear hgg hJ3 hor hk3 hm3 hbb3 hk01 hm01 hJ2e hpe hbW3
      go_wp2_with (fail)
      go_region_held3 (fun w' => w'.cell? ⟨g, 7, none⟩ = some (.slice A2 J2.data.length c2) ∧ w'.cell? ⟨g, 2, none⟩ = some (.int .i64 J2.most)) (first | go_keep) (first | fail)
      have HJ4 := Aside0.mk (jm_drew HJ3.out)
      have HP4 := Aside0.mk (show W3.drew.heap[g5]? = _ from HP3.out)
      have HBW4 := Aside0.mk (show base ≤ W3.drew.heap.size from HBW3.out)
      have HK04 := Aside0.mk (show Kept W W3.drew (Mut g bm vl (.slice Ad J1.data.length cd) ve) from HK03.out)
      have HB04 := Aside0.mk (below_drew HB03.out)
      clear c7 c2' c8 fz t8 t7 p0 p1 p2 p3
      generalize W3.drew = W4 at HJ4 HP4 HBW4 HK04 HB04 ⊢
      obtain ⟨p0, p1, p2, p3⟩ := cells4 HP4.out
      have hgg := HJ4.out.hg
      have c6 := blk_cell hgg 6
      have c7 := blk_cell hgg 7
      have c8 := blk_cell hgg 8
      have fz : ∀ j, W4.frozen? ⟨g, j, none⟩ = false := fun j => blk_frozen hgg j
      have t8 : ∀ o : Obj, (W4.alloc o).cell? ⟨g, 8, none⟩ = some (.slice Ae er1.length ce) := fun o => by have := blk_cell (blk_keep hgg (below_alloc (Below.refl _ W4) o)) 8; simpa using this
      have t7 : ∀ o : Obj, (W4.alloc o).cell? ⟨g, 7, none⟩ = some (.slice A2 J2.data.length c2) := fun o => by have := blk_cell (blk_keep hgg (below_alloc (Below.refl _ W4) o)) 7; simpa using this
      simp at c6 c7 c8
      clear hgg
      by_cases hmost : J2.most < (J2.data.length : Int)
      · have hd1 : decide (J2.most < (J2.data.length : Int)) = true := decide_eq_true hmost
        have HD := Aside0.mk hmost
        go_wp2_with (at_builtin; (refine Kd.R_append (rawK 4) (w0 := W4) (W := W4) base ?aW (.tmp 75) (.tmp 77) 72 84 (.agg #[.int .i64 0, .slice none 0 0, .int .i64 0, .int .i64 0]) 48 ?aU Tryd.underlying72 info84 rfl (by decide) (by decide) (.slice Ae er1.length ce) er1 [.int .i64 3, .slice none 0 0, .int .i64 0, .int .i64 0] [.int .i64 3, .slice none 0 0, .int .i64 0, .int .i64 0] (fun _ => True) (fun _ => False) ?aV ?aX ?aP (fun _ h => h.elim) (fun _ _ => trivial) ?aO ?aB ?aS ?aL ?_); (case aW => rfl); (case aU => rfl); (case aV => rfl); (case aX => rfl); (case aP => exact raw_M _ _ _ _ rfl (by simp [Value.oneCell'])); (case aO => exact HJ4.out.hevs); (case aB => exact Below.refl _ _); (case aS => exact HBW4.out); (case aL => omega); intro v1 w9 ho hb9 hg hat; obtain ⟨A9, c9, rfl⟩ := Kd.R_slice ho; have HO := Aside0.mk ho; have HBB := Aside0.mk hb9; have HG := Aside0.mk hg; have HAT := Aside0.mk hat; have hg9 := blk_grown HJ4.out.hg hg (Kd.R_ne HJ4.out.hevs HJ4.out.hg (by decide)); have HG9 := Aside0.mk hg9; have y8 := blk_cell hg9 8; have y7 := blk_cell hg9 7; have y6 := blk_cell hg9 6; have fz9 : ∀ j, w9.frozen? ⟨g, j, none⟩ = false := fun j => blk_frozen hg9 j; simp at y8 y7 y6; clear ho hb9 hg hat hg9)
        go_end0
        obtain ⟨h1, h2, h3, h4⟩ := JM_event HJ4.out HO.out HBB.out HG.out HAT.out (e := ⟨3, [], 0, 0⟩) ⟨none, 0, rfl, Nat.le_refl _, Kd.F_nil _ _ _⟩
        have hs := blk_set (blk_set h1.hg 6 (.int .i64 2)) 7 (.slice none 0 0)
        have hk : Kept (w9.setCell ⟨g, 8, none⟩ (.slice A9 (er1 ++ [([.int .i64 3, .slice none 0 0, .int .i64 0, .int .i64 0] : List Value)]).length c9)) (((w9.setCell ⟨g, 8, none⟩ (.slice A9 (er1 ++ [([.int .i64 3, .slice none 0 0, .int .i64 0, .int .i64 0] : List Value)]).length c9)).setCell ⟨g, 6, none⟩ (.int .i64 2)).setCell ⟨g, 7, none⟩ (.slice none 0 0)) (fun k => k = g) :=
          ⟨by simp [World.setCell], fun k _ hs => (far_cell _ g 7 k _ hs).trans (far_cell _ g 6 k _ hs)⟩
        obtain ⟨q1, q2, q3⟩ := JM_cells (J' := { J2 with evs := J2.evs ++ [⟨3, [], 0, 0⟩], mode := 2, data := [] }) h1 hk (by simpa using hs) (.inr ⟨rfl, rfl⟩) (.inl ⟨rfl, rfl, rfl⟩) rfl rfl
        have hbf := (h4.setCell (p := ⟨g, 6, none⟩) HJ4.out.hgb (.int .i64 2)).setCell (p := ⟨g, 7, none⟩) HJ4.out.hgb (.slice none 0 0)
        have hdn : doneJ J2 p.f1 = { J2 with evs := J2.evs ++ [⟨3, [], 0, 0⟩], mode := 2, data := [] } := by rw [doneJ, if_pos hmost]
        rw [HPE.out, hdn]
        have hkk := kept_trans HK04.out (kept_trans h2 q2 h3) (fun k hk1 hm => HM03.out k hk1 hm)
        have hmm : ∀ k, k < W.heap.size → Mut g bm vl (.slice none 0 0) (.slice A9 (er1 ++ [([.int .i64 3, .slice none 0 0, .int .i64 0, .int .i64 0] : List Value)]).length c9) k → Mut g bm vl (.slice Ad J1.data.length cd) ve k := fun k hk1 hm => HM03.out k hk1 (h3 k (Nat.lt_of_lt_of_le hk1 HK04.out.1) (q3 k (Nat.lt_of_lt_of_le (Nat.lt_of_lt_of_le hk1 HK04.out.1) h2.1) hm))
        have hbel := HB04.out.trans hbf
        have hle3 : (er1 ++ [([.int .i64 3, .slice none 0 0, .int .i64 0, .int .i64 0] : List Value)]).length ≤ er.length + 2 := by rw [List.length_append]; have := HLE.out; simp; omega
        simp only [List.length_append, List.length_singleton] at q1 hkk hmm hbel
        exact ⟨_, _, _, ⟨_, rfl⟩, hle3, q1, hkk, hmm, hbel⟩
      · have hd1 : decide (J2.most < (J2.data.length : Int)) = false := decide_eq_false hmost
        have HD := Aside0.mk hmost
        cases hb1 : p.f1 with
        | true =>
          have HB1' := Aside0.mk hb1
          rw [hb1] at p1
          clear hb1
          go_wp2_with (fail)
          go_region_law (refine Kd.R_append_step (rawK 4) (w0 := W4) (W := W4.drew) base ?aW (.tmp 94) (.tmp 100) 72 84 (.agg #[.int .i64 0, .slice none 0 0, .int .i64 0, .int .i64 0]) 48 ?aU Tryd.underlying72 info84 rfl (by decide) (by decide) (.slice Ae er1.length ce) er1 [.int .i64 0, .slice A2 J2.data.length c2, .int .i64 0, .int .i64 0] [.int .i64 0, .slice A2 J2.data.length c2, .int .i64 0, .int .i64 0] (fun _ => True) (fun _ => False) ?aV ?aX ?aP (fun _ h => h.elim) (fun _ _ => trivial) ?aO ?aB ?aS ?aL ?_; (case aW => rfl); (case aU => rfl); (case aV => rfl); (case aX => rfl); (case aP => exact raw_M _ _ _ _ rfl (by simp [Value.oneCell'])); (case aO => exact Kd.R_drew HJ4.out.hevs); (case aB => exact below_drew (Below.refl _ _)); (case aS => exact HBW4.out); (case aL => omega); intro v1 w9 ho hb9 hg hat; obtain ⟨A9, c9, rfl⟩ := Kd.R_slice ho; have HO := Aside0.mk ho; have HBB := Aside0.mk hb9; have HG := Aside0.mk (show W4.grownBy w9 _ from ⟨hg.os, hg.tape, hg.output, hg.size, hg.block⟩); have HAT := Aside0.mk hat; have hg9 := blk_grown (w := W4.drew) HJ4.out.hg hg (Kd.R_ne HJ4.out.hevs HJ4.out.hg (by decide)); have HG9 := Aside0.mk hg9; have y8 := blk_cell hg9 8; have y7 := blk_cell hg9 7; have y6 := blk_cell hg9 6; have fz9 : ∀ j, w9.frozen? ⟨g, j, none⟩ = false := fun j => blk_frozen hg9 j; simp at y8 y7 y6; clear ho hb9 hg hat hg9)
          all_goals go_wp2
          all_goals
            go_end0
            obtain ⟨h1, h2, h3, h4⟩ := JM_whole HJ4.out HO.out HBB.out HG.out HAT.out
            have hdn : doneJ J2 p.f1 = { J2 with evs := J2.evs ++ [⟨0, J2.data, 0, 0⟩], mode := 0, data := [] } := by rw [doneJ, if_neg (by have := HD.out; omega), HB1'.out, if_pos rfl]
            rw [HPE.out, hdn]
            have hkk := kept_trans HK04.out h2 (fun k hk1 hm => HM03.out k hk1 hm)
            have hmm : ∀ k, k < W.heap.size → Mut g bm vl (.slice none 0 0) (.slice A9 (er1 ++ [([.int .i64 0, .slice A2 J2.data.length c2, .int .i64 0, .int .i64 0] : List Value)]).length c9) k → Mut g bm vl (.slice Ad J1.data.length cd) ve k := fun k hk1 hm => HM03.out k hk1 (h3 k (Nat.lt_of_lt_of_le hk1 HK04.out.1) hm)
            have hbel := HB04.out.trans h4
            have hle3 : (er1 ++ [([.int .i64 0, .slice A2 J2.data.length c2, .int .i64 0, .int .i64 0] : List Value)]).length ≤ er.length + 2 := by rw [List.length_append]; have := HLE.out; simp; omega
            simp only [List.length_append, List.length_singleton] at h1 hkk hmm hbel
            exact ⟨_, _, _, ⟨_, rfl⟩, hle3, h1, hkk, hmm, hbel⟩
        | false =>
          have HB1' := Aside0.mk hb1
          rw [hb1] at p1
          clear hb1
          go_wp2
          go_end0
          have e : doneJ J2 p.f1 = J2 := by rw [doneJ, if_neg (by have := HD.out; omega), HB1'.out]; rfl
          rw [HPE.out, e]
          exact ⟨⟨_, rfl⟩, _, _, er1, by have := HLE.out; omega, HJ4.out, HK04.out, fun k hk1 hm => HM03.out k (by rw [hg5]; exact hk1) hm, HB04.out⟩

end Go.Proofs.YtgopklnfdlnojaaDoor.Jc
