/- Octets, a few at a time: what frag.chunks hands back, and what it hands to a loop. No conditions but that the octets are few. -/
import Derived.RangeFuncBox
import Derived.RangeFuncLeaves
import Derived.Shelf.Abstract
import Derived.WalkKit
import Derived.OwnWalkIn
import Derived.TacticsInMore
import Derived.LoopNIn
import Derived.LoopIn
import Derived.Maps.AppendAt
import Derived.Test.YtgopklnfdlnojaaDoorGb
namespace Go.Proofs.YtgopklnfdlnojaaDoor.Sa
open Go.RowKit Go.Shelf Go.Proofs.YtgopklnfdlnojaaDoor.Gb Go.Proofs.YtgopklnfdlnojaaDoorW.PrintWords Go.Proofs.YtgopklnfdlnojaaDoorW.PrintLast Go.Proofs.YtgopklnfdlnojaaDoorW.PrintMore
set_option linter.unusedVariables false
set_option linter.unusedSimpArgs false
attribute [local go_sem] Oper.semAt_some

abbrev Ch := Option Addr × Nat × Nat
def enc1 (x : Ch) : Array Value := #[.slice x.1 x.2.1 x.2.2]
def cnt (m n : Nat) : Nat := (n + m - 1) / m
def chk (ad : Addr) (c m n k : Nat) : Ch := (some (ad.add (k * m)), min m (n - k * m), c - k * m)
def upto (ad : Addr) (c m n k : Nat) : List Ch := (List.range k).map (chk ad c m n)
theorem upto_succ (ad : Addr) (c m n k : Nat) : upto ad c m n (k + 1) = upto ad c m n k ++ [chk ad c m n k] := by simp [upto, List.range_succ]
theorem upto_len (ad : Addr) (c m n k : Nat) : (upto ad c m n k).length = k := by simp [upto]
theorem cnt_lt (m n k : Nat) (hm : 1 ≤ m) : k < cnt m n ↔ k * m < n := by
  unfold cnt
  rw [Nat.lt_div_iff_mul_lt hm]
  omega

theorem wsub (N X : Nat) (h : X ≤ N) (hN : N ≤ 100000) : wrap64 ((N : Int) - (X : Nat)) = ((N - X : Nat) : Int) := by unfold wrap64; omega
theorem wadd (X Y : Nat) (h : X + Y ≤ 100000) : wrap64 ((X : Int) + (Y : Nat)) = ((X + Y : Nat) : Int) := by unfold wrap64; omega
theorem imin (a b : Nat) : min (a : Int) (b : Nat) = ((min a b : Nat) : Int) := by omega

/-- What the goer-through asks of a round: its two boxes are left alone. -/
def K2 (b1 b2 : Nat) (W W' : World) : Prop := W'.heap[b1]? = W.heap[b1]? ∧ W'.heap[b2]? = W.heap[b2]?
theorem K2.c1 {b1 b2 : Nat} {W W' : World} (h : K2 b1 b2 W W') : W'.cell? ⟨b1, 0, none⟩ = W.cell? ⟨b1, 0, none⟩ := by simp [World.cell?, h.1]
theorem K2.c2 {b1 b2 : Nat} {W W' : World} (h : K2 b1 b2 W W') : W'.cell? ⟨b2, 0, none⟩ = W.cell? ⟨b2, 0, none⟩ := by simp [World.cell?, h.2]
theorem K2.trans {b1 b2 : Nat} {A B C : World} (h : K2 b1 b2 A B) (k : K2 b1 b2 B C) : K2 b1 b2 A C := ⟨k.1.trans h.1, k.2.trans h.2⟩
theorem upto_pre (ad : Addr) (c m n k N : Nat) (h : k ≤ N) : upto ad c m n k <+: upto ad c m n N := by
  obtain ⟨j, rfl⟩ := Nat.exists_eq_add_of_le h
  refine ⟨(List.range j).map (fun i => chk ad c m n (k + i)), ?_⟩
  simp [upto, List.range_add]
theorem facts (N X m c : Nat) (hlt : X < N) (hc : N ≤ c) (hm : 1 ≤ m) (hN : N ≤ 100000) : wrap64 ((N : Int) - (X : Nat)) = ((N - X : Nat) : Int) ∧ min (m : Int) ((N - X : Nat) : Int) = ((min m (N - X) : Nat) : Int) ∧ wrap64 ((X : Int) + (min m (N - X) : Nat)) = ((X + min m (N - X) : Nat) : Int) ∧
    X ≤ c ∧ X + min m (N - X) ≤ N ∧ 1 ≤ min m (N - X) ∧ X + min m (N - X) = min (X + m) N ∧ (X : Int) < (N : Int) :=
  ⟨wsub N X (by omega) hN, imin m (N - X), wadd X (min m (N - X)) (by omega), by omega, by omega, by omega, by omega, by omega⟩

set_option maxRecDepth 100000 in
set_option maxHeartbeats 400000 in
theorem chunks1_in (F : Fence) (n : Nat) (h51 : F.fn 51) (hro : F.round = none) (hn : 1 ≤ n) (l b1 b2 : Nat) (A : Option Addr) (ad : Addr) (N c m : Nat) (hA : 0 < N → A = some ad) (hN : N ≤ 100000) (hc : N ≤ c) (hm : 1 ≤ m)
    (J Jx : List Ch → World → Prop)
    (hY : ∀ pre x W, J pre W → pre.length < cnt m N → YieldAt F (n - 1) Tryd.prog l (enc1 x) W fun e W' =>
      (e = .returned (.bool true) ∧ J (pre ++ [x]) W' ∧ K2 b1 b2 W W') ∨ (e = .returned (.bool false) ∧ Jx (pre ++ [x]) W'))
    (W : World) (hB1 : W.cell? ⟨b1, 0, none⟩ = some (.slice A N c)) (hB2 : W.cell? ⟨b2, 0, none⟩ = some (.int .i64 m)) (h0 : J [] W) :
    CallsIn F n Tryd.prog 51 #[.func (.yield l) #[] #[], .pointer (some ⟨b1, 0, none⟩), .pointer (some ⟨b2, 0, none⟩)] W fun e W' => (∃ v, e = .returned v) ∧
      ((∃ ys, ys = upto ad c m N (cnt m N) ∧ J ys W') ∨ (∃ pre, pre <+: upto ad c m N (cnt m N) ∧ Jx pre W')) := by
  have hu22 := Tryd.underlying22
  refine callsIn_of_wp Tryd.func51 rfl h51 ?_ hro
  simp only [Tryd.ntmps51, List.size_toArray, List.length_cons, List.length_nil, Nat.reduceAdd, Nat.reduceSub, Array.replicate_succ, Array.replicate_zero, List.push_toArray, List.append_toArray, List.nil_append, List.cons_append]
  gi_wp2
  gi_loopw [4] (fun p wr => ∃ k : Nat, k ≤ cnt m N ∧ p = .int .i64 (min (k * m) N : Nat) ∧ wr.cell? ⟨b1, 0, none⟩ = some (.slice A N c) ∧ wr.cell? ⟨b2, 0, none⟩ = some (.int .i64 m) ∧ J (upto ad c m N k) wr)
    (fun p wr => N - (intOf p).toNat)
  case atStart =>
    exact ⟨0, Nat.zero_le _, by simp, hB1, hB2, h0⟩
  case round =>
    obtain ⟨k, hk, rfl, hB1', hB2', hJs⟩ := hrel
    by_cases hlt : k * m < N
    · have hkc := (cnt_lt m N k hm).2 hlt
      have e0 : min (k * m) N = k * m := by omega
      rw [e0]
      have hA' := hA (by omega)
      subst hA'
      obtain ⟨fn, tmps, assign, body, hy, hR⟩ := hY _ (chk ad c m N k) wr hJs (by rw [upto_len]; exact hkc)
      dsimp only [enc1, chk] at hy
      obtain ⟨hs1, hs2, hs3, hXc, hY0, hYp, hnx, hlt2⟩ := facts N (k * m) m c hlt hc hm hN
      rw [← Nat.succ_mul] at hnx
      have HNX := Aside0.mk hnx
      have HJ := Aside0.mk hJs
      have HR := Aside0.mk hR
      have HKC := Aside0.mk hkc
      clear hnx hJs hR hkc hlt hk hm h0 hY hA
      generalize min m (N - k * m) = Y at *
      generalize hX : k * m = X at *
      have HX := Aside0.mk hX
      clear hX
      generalize hD : N - X = D at *
      have HD := Aside0.mk hD
      clear hD
      have hDD := HD.out
      by_cases hmd : (N : Int) - X < m
      · have hyy : ((X : Int) + ((N : Int) - (X : Int))).toNat - X = Y := by omega
        gi_wp2
        refine HR.out.mono ?_
        rintro e W3 (⟨rfl, hJ3, hk3⟩ | ⟨rfl, hJx3⟩)
        · have hc1 : W3.cell? ⟨b1, 0, none⟩ = some (.slice (some ad) N c) := hk3.c1.trans hB1'
          have hc2 : W3.cell? ⟨b2, 0, none⟩ = some (.int .i64 m) := hk3.c2.trans hB2'
          gi_wp2
          go_roundw
          case rel => exact ⟨k + 1, HKC.out, by rw [← HNX.out]; exact congrArg (Value.int .i64) (by omega), hc1, hc2, by rw [upto_succ]; exact hJ3⟩
          case measure => simp [intOf]; omega
        · gi_wp2
          refine bodyPost_ret (results_none rfl _ _ _) rfl ?_
          refine ⟨⟨_, rfl⟩, .inr ⟨_, ?_, hJx3⟩⟩
          rw [← upto_succ]
          exact upto_pre ad c m N _ _ HKC.out
      · have hyy : ((X : Int) + (m : Int)).toNat - X = Y := by omega
        gi_wp2
        refine HR.out.mono ?_
        rintro e W3 (⟨rfl, hJ3, hk3⟩ | ⟨rfl, hJx3⟩)
        · have hc1 : W3.cell? ⟨b1, 0, none⟩ = some (.slice (some ad) N c) := hk3.c1.trans hB1'
          have hc2 : W3.cell? ⟨b2, 0, none⟩ = some (.int .i64 m) := hk3.c2.trans hB2'
          gi_wp2
          go_roundw
          case rel => exact ⟨k + 1, HKC.out, by rw [← HNX.out]; exact congrArg (Value.int .i64) (by omega), hc1, hc2, by rw [upto_succ]; exact hJ3⟩
          case measure => simp [intOf]; omega
        · gi_wp2
          refine bodyPost_ret (results_none rfl _ _ _) rfl ?_
          refine ⟨⟨_, rfl⟩, .inr ⟨_, ?_, hJx3⟩⟩
          rw [← upto_succ]
          exact upto_pre ad c m N _ _ HKC.out
    · gi_wp2
      go_end0
      have hkc : k = cnt m N := by have := mt (cnt_lt m N k hm).1 hlt; omega
      exact ⟨⟨_, rfl⟩, .inl ⟨_, by rw [hkc], hJs⟩⟩

set_option maxHeartbeats 1000000 in
theorem chunks_any (A : Option Addr) (N c : Nat) (m : Int) (w : World) :
    Calls Tryd.prog 42 #[.slice A N c, .int .i64 m] w fun e w' => e = .returned (.func (.func 51) #[] #[.pointer (some ⟨w.heap.size, 0, none⟩), .pointer (some ⟨w.heap.size + 1, 0, none⟩)]) ∧ w' = (w.alloc (.cells #[.slice A N c] 22)).alloc (.cells #[.int .i64 m] 3) := by
  go_enter Tryd.func42, Tryd.ntmps42
  go_wp2
  go_ret
  exact ⟨rfl, rfl⟩

theorem chunks_stops (F : Fence) (n : Nat) (h51 : F.fn 51) (hro : F.round = none) (hn : 1 ≤ n) (b1 b2 : Nat) (A : Option Addr) (ad : Addr) (N c m : Nat) (hA : 0 < N → A = some ad) (hN : N ≤ 100000) (hc : N ≤ c) (hm : 1 ≤ m) (w : World) (hb1 : b1 < w.heap.size) (hb2 : b2 < w.heap.size)
    (hB1 : w.cell? ⟨b1, 0, none⟩ = some (.slice A N c)) (hB2 : w.cell? ⟨b2, 0, none⟩ = some (.int .i64 m)) :
    SeqStopsK F n Tryd.prog 51 #[.pointer (some ⟨b1, 0, none⟩), .pointer (some ⟨b2, 0, none⟩)] enc1 (K2 b1 b2) (fun ys => ys = upto ad c m N (cnt m N)) (fun pre => pre <+: upto ad c m N (cnt m N)) (cnt m N) w := fun l J Jx W hW _ _ hY h0 =>
  chunks1_in F n h51 hro hn l b1 b2 A ad N c m hA hN hc hm J Jx hY W ((hW.cell (p := ⟨b1, 0, none⟩) hb1).trans hB1) ((hW.cell (p := ⟨b2, 0, none⟩) hb2).trans hB2) h0

end Go.Proofs.YtgopklnfdlnojaaDoor.Sa
