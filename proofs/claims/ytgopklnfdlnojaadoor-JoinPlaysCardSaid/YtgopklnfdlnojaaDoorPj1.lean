/- Pieces as data, comparing octets, small laws on rows, and what the program puts of a piece. -/
import Derived.Test.YtgopklnfdlnojaaDoorProg
import Derived.Below
import Derived.Deep.Draws
import Derived.Deep.AppendLies
import Derived.Maps.AppendAt
import Derived.OwnWalk
import Derived.Laws.BytesArg
import Derived.Laws.MakeOwn
import Derived.Laws.OwnMore
import Derived.Deep.OwnRows
import Derived.Tactics
import Derived.Lib.ConvBytes
import Derived.Laws.Slices
import Derived.WalkKit
import Derived.KernelRfl
import Derived.RowKit3
import Derived.Deep.LoopGhost
import Derived.Deep.QuietTactic
import Derived.BigQuiet
import Derived.WideLaws
import Derived.Deep.DeepCutAuto
import Derived.Deep.CutBlock
import Derived.Deep.RegionHeld3
import Derived.Laws.Rows
import Derived.Lib.AppendStr
import Derived.ArgAppend
import Derived.Laws.IdiomCopy
import Derived.OrdersHeld
import Derived.Laws.BitsLemmas
import Derived.RowKit
import Derived.Test.YtgopklnfdlnojaaDoorWWords
import Derived.Test.YtgopklnfdlnojaaDoorWLast
import Derived.Test.YtgopklnfdlnojaaDoorWTab
import Derived.Test.YtgopklnfdlnojaaDoorWFour
import Derived.Test.YtgopklnfdlnojaaDoorWQPut
import Derived.Test.YtgopklnfdlnojaaDoorWApart
import Derived.Test.YtgopklnfdlnojaaDoorWArr
import Derived.Test.YtgopklnfdlnojaaDoorWZeros
import Derived.Test.YtgopklnfdlnojaaDoorWFoot
import Derived.Test.YtgopklnfdlnojaaDoorWKept
import Derived.Test.YtgopklnfdlnojaaDoorWShare
import Derived.Test.YtgopklnfdlnojaaDoorWN
import Derived.Test.YtgopklnfdlnojaaDoorWFootNe
import Derived.Test.YtgopklnfdlnojaaDoorWAt
import Derived.Test.YtgopklnfdlnojaaDoorWEqStruct
import Derived.Test.YtgopklnfdlnojaaDoorWRepsOne
import Derived.Test.YtgopklnfdlnojaaDoorWInv
import Derived.Test.YtgopklnfdlnojaaDoorWInvWords
import Derived.Test.YtgopklnfdlnojaaDoorWGuard
import Derived.Test.YtgopklnfdlnojaaDoorWNEv
import Derived.Test.YtgopklnfdlnojaaDoorWMore
import Derived.Laws.ResultCell
import Derived.WalkSpells
import Derived.Lib.SliceRun
namespace Go.Proofs.YtgopklnfdlnojaaDoor.Ga
open Go.RowKit Go.Proofs.YtgopklnfdlnojaaDoorW.PrintWords Go.Proofs.YtgopklnfdlnojaaDoorW.PrintLast Go.Proofs.YtgopklnfdlnojaaDoorW.PrintMore
attribute [local go_sem] max2_int min2_int max_two min_two max_three min_three max_four min_four   -- for this text's walks alone
set_option linter.unusedVariables false
set_option linter.unusedSimpArgs false



def errW : Option Int → Value
  | none => .nilIface
  | some c => .iface 0 (.int .i64 c)
theorem errW_none : errW none = .nilIface := rfl
theorem errW_some (c : Int) : errW (some c) = .iface 0 (.int .i64 c) := rfl

theorem info5 : (Tryd.prog.info? 5).map (fun i => (i.zero, i.size, i.bytes)) = some (some (.int .u8 0), 1, 1) := by kernel_rfl
theorem info24 : (Tryd.prog.info? 24).map (fun i => (i.zero, i.size, i.bytes)) = some (some (.agg #[(.bool false), (.bool false), (.int .i64 0), (.slice none 0 0)]), 4, 40) := by kernel_rfl
theorem info29 : (Tryd.prog.info? 29).map (fun i => (i.zero, i.size, i.bytes)) = some (some (.agg #[(.bool false), (.bool false), (.int .i64 0), (.slice none 0 0)]), 4, 40) := by kernel_rfl
-- the values' own types
def rd_L3 (xs : List (List Int)) (i : Int) : (List Int) := xs.getD i.toNat ([] : List Int)
theorem at_L3 {w : World} {A : Option Addr} {n : Nat} {xs : List (List Int)} (h : Kd.C (Kd.slice 5 (Kd.int .u8)) w A n xs) (i : Int) (h0 : 0 ≤ i) (h1 : i < n) : ∃ ad A0 c0, A = some ad ∧ w.cell? (ad.add i.toNat) = some (.slice A0 (rd_L3 xs i).length c0) ∧ (rd_L3 xs i).length ≤ c0 ∧ (Kd.int .u8).C w A0 (rd_L3 xs i).length (rd_L3 xs i) := by
  obtain ⟨ad, c, e, _, hK, hc0⟩ := Kd.C_get h ([] : List Int) i h0 h1
  have hc : ∀ j u, c[j]? = some u → w.cell? (ad.add (i.toNat * 1 + j)) = some u := hc0
  obtain ⟨A0, c0, rfl, l0, g0⟩ := hK
  exact ⟨ad, A0, c0, e, by have hq := hc 0 _ rfl; rwa [Nat.mul_one, Nat.add_zero] at hq, l0, g0⟩

/-! #### struct type 24 -/
structure S24 where
  f0 : Bool
  f1 : Bool
  f2 : Int
  f3 : (List Int)
def z24 : S24 := ⟨false, false, (0 : Int), ([] : List Int)⟩
def k24 : Kd S24 := Kd.iso (Kd.pair Kd.bool (Kd.pair Kd.bool (Kd.pair (Kd.int .i64) (Kd.slice 5 (Kd.int .u8))))) (fun x : S24 => (x.f0, x.f1, x.f2, x.f3))
theorem k24_open {w : World} {x : S24} {cs : List Value} (h : k24.K w x cs) : ∃ A3 c3, cs = [.bool x.f0, .bool x.f1, .int .i64 x.f2, .slice A3 x.f3.length c3] ∧ x.f3.length ≤ c3 ∧ (Kd.int .u8).C w A3 x.f3.length x.f3 := by
  obtain ⟨_, _, rfl, rfl, ⟨_, _, rfl, rfl, ⟨_, _, rfl, rfl, ⟨A3, c3, rfl, l3, g3⟩⟩⟩⟩ := h
  exact ⟨A3, c3, rfl, l3, g3⟩
theorem k24_openM {w : World} {base : Nat} {ok : Nat → Prop} {x : S24} {cs : List Value} (h : k24.M w base ok x cs) : ∃ v3, cs = [.bool x.f0, .bool x.f1, .int .i64 x.f2, v3] ∧ (Kd.int .u8).R 5 w base ok v3 x.f3 := by
  obtain ⟨_, _, rfl, rfl, ⟨_, _, rfl, rfl, ⟨_, _, rfl, rfl, ⟨v3, rfl, g3⟩⟩⟩⟩ := h
  exact ⟨v3, rfl, g3⟩
theorem k24_mk (w : World) (x : S24) {A3 : Option Addr} {c3 : Nat} (l3 : x.f3.length ≤ c3) (g3 : (Kd.int .u8).C w A3 x.f3.length x.f3) : k24.K w x [.bool x.f0, .bool x.f1, .int .i64 x.f2, .slice A3 x.f3.length c3] := ⟨[.bool x.f0], [.bool x.f1, .int .i64 x.f2, .slice A3 x.f3.length c3], rfl, rfl, ⟨[.bool x.f1], [.int .i64 x.f2, .slice A3 x.f3.length c3], rfl, rfl, ⟨[.int .i64 x.f2], [.slice A3 x.f3.length c3], rfl, rfl, ⟨A3, c3, rfl, l3, g3⟩⟩⟩⟩
theorem k24_mkM (w : World) (base : Nat) (ok : Nat → Prop) (x : S24) {v3 : Value} (g3 : (Kd.int .u8).R 5 w base ok v3 x.f3) : k24.M w base ok x [.bool x.f0, .bool x.f1, .int .i64 x.f2, v3] := ⟨[.bool x.f0], [.bool x.f1, .int .i64 x.f2, v3], rfl, rfl, ⟨[.bool x.f1], [.int .i64 x.f2, v3], rfl, rfl, ⟨[.int .i64 x.f2], [v3], rfl, rfl, ⟨v3, rfl, g3⟩⟩⟩⟩
theorem k24_openF {W : World} {ok : Nat → Prop} {x : S24} {cs : List Value} (h : Kd.FK k24 W ok x cs) : ∃ A3 c3, cs = [.bool x.f0, .bool x.f1, .int .i64 x.f2, .slice A3 x.f3.length c3] ∧ x.f3.length ≤ c3 ∧ Kd.F (Kd.int .u8) W ok A3 x.f3.length x.f3 := by
  obtain ⟨A3, c3, rfl, l3, _⟩ := k24_open (Kd.FK_now h)
  exact ⟨A3, c3, rfl, l3, (fun W' hW => by obtain ⟨A3_, c3_, he, l3_, g3_⟩ := k24_open (h W' hW); injection (Option.some.inj (show some (Value.slice A3 x.f3.length c3) = some (Value.slice A3_ x.f3.length c3_) from congrArg (fun l => l[3]?) he)) with ha_ _ _; rw [ha_]; exact g3_)⟩
theorem k24_mkF (W : World) (ok : Nat → Prop) (x : S24) {A3 : Option Addr} {c3 : Nat} (l3 : x.f3.length ≤ c3) (g3 : Kd.F (Kd.int .u8) W ok A3 x.f3.length x.f3) : Kd.FK k24 W ok x [.bool x.f0, .bool x.f1, .int .i64 x.f2, .slice A3 x.f3.length c3] := fun W2 hW => k24_mk W2 x l3 (g3 W2 hW)
def rd_T24 (xs : List S24) (i : Int) : S24 := xs.getD i.toNat z24
theorem at_T24 {w : World} {A : Option Addr} {n : Nat} {xs : List S24} (h : Kd.C k24 w A n xs) (i : Int) (h0 : 0 ≤ i) (h1 : i < n) : ∃ ad A3 c3, A = some ad ∧ w.cell? (ad.add (i.toNat * 4)) = some (.bool (rd_T24 xs i).f0) ∧ w.cell? ⟨(ad.add (i.toNat * 4)).block, (ad.add (i.toNat * 4)).off + 1, none⟩ = some (.bool (rd_T24 xs i).f1) ∧ w.cell? ⟨(ad.add (i.toNat * 4)).block, (ad.add (i.toNat * 4)).off + 2, none⟩ = some (.int .i64 (rd_T24 xs i).f2) ∧ w.cell? ⟨(ad.add (i.toNat * 4)).block, (ad.add (i.toNat * 4)).off + 3, none⟩ = some (.slice A3 (rd_T24 xs i).f3.length c3) ∧ (rd_T24 xs i).f3.length ≤ c3 ∧ (Kd.int .u8).C w A3 (rd_T24 xs i).f3.length (rd_T24 xs i).f3 := by
  obtain ⟨ad, c, e, _, hK, hc0⟩ := Kd.C_get h z24 i h0 h1
  have hc : ∀ j u, c[j]? = some u → w.cell? (ad.add (i.toNat * 4 + j)) = some u := hc0
  obtain ⟨A3, c3, rfl, l3, g3⟩ := k24_open hK
  exact ⟨ad, A3, c3, e, hc 0 _ rfl, by rw [← add_field _ _ 1 (by omega)]; exact hc 1 _ rfl, by rw [← add_field _ _ 2 (by omega)]; exact hc 2 _ rfl, by rw [← add_field _ _ 3 (by omega)]; exact hc 3 _ rfl, l3, g3⟩

/-! #### struct type 29 -/
structure S29 where
  f0 : Bool
  f1 : Bool
  f2 : Int
  f3 : (List Int)
def z29 : S29 := ⟨false, false, (0 : Int), ([] : List Int)⟩
def k29 : Kd S29 := Kd.iso (Kd.pair Kd.bool (Kd.pair Kd.bool (Kd.pair (Kd.int .i64) (Kd.slice 5 (Kd.int .u8))))) (fun x : S29 => (x.f0, x.f1, x.f2, x.f3))
theorem k29_open {w : World} {x : S29} {cs : List Value} (h : k29.K w x cs) : ∃ A3 c3, cs = [.bool x.f0, .bool x.f1, .int .i64 x.f2, .slice A3 x.f3.length c3] ∧ x.f3.length ≤ c3 ∧ (Kd.int .u8).C w A3 x.f3.length x.f3 := by
  obtain ⟨_, _, rfl, rfl, ⟨_, _, rfl, rfl, ⟨_, _, rfl, rfl, ⟨A3, c3, rfl, l3, g3⟩⟩⟩⟩ := h
  exact ⟨A3, c3, rfl, l3, g3⟩
theorem k29_openM {w : World} {base : Nat} {ok : Nat → Prop} {x : S29} {cs : List Value} (h : k29.M w base ok x cs) : ∃ v3, cs = [.bool x.f0, .bool x.f1, .int .i64 x.f2, v3] ∧ (Kd.int .u8).R 5 w base ok v3 x.f3 := by
  obtain ⟨_, _, rfl, rfl, ⟨_, _, rfl, rfl, ⟨_, _, rfl, rfl, ⟨v3, rfl, g3⟩⟩⟩⟩ := h
  exact ⟨v3, rfl, g3⟩
theorem k29_mk (w : World) (x : S29) {A3 : Option Addr} {c3 : Nat} (l3 : x.f3.length ≤ c3) (g3 : (Kd.int .u8).C w A3 x.f3.length x.f3) : k29.K w x [.bool x.f0, .bool x.f1, .int .i64 x.f2, .slice A3 x.f3.length c3] := ⟨[.bool x.f0], [.bool x.f1, .int .i64 x.f2, .slice A3 x.f3.length c3], rfl, rfl, ⟨[.bool x.f1], [.int .i64 x.f2, .slice A3 x.f3.length c3], rfl, rfl, ⟨[.int .i64 x.f2], [.slice A3 x.f3.length c3], rfl, rfl, ⟨A3, c3, rfl, l3, g3⟩⟩⟩⟩
theorem k29_mkM (w : World) (base : Nat) (ok : Nat → Prop) (x : S29) {v3 : Value} (g3 : (Kd.int .u8).R 5 w base ok v3 x.f3) : k29.M w base ok x [.bool x.f0, .bool x.f1, .int .i64 x.f2, v3] := ⟨[.bool x.f0], [.bool x.f1, .int .i64 x.f2, v3], rfl, rfl, ⟨[.bool x.f1], [.int .i64 x.f2, v3], rfl, rfl, ⟨[.int .i64 x.f2], [v3], rfl, rfl, ⟨v3, rfl, g3⟩⟩⟩⟩
theorem k29_openF {W : World} {ok : Nat → Prop} {x : S29} {cs : List Value} (h : Kd.FK k29 W ok x cs) : ∃ A3 c3, cs = [.bool x.f0, .bool x.f1, .int .i64 x.f2, .slice A3 x.f3.length c3] ∧ x.f3.length ≤ c3 ∧ Kd.F (Kd.int .u8) W ok A3 x.f3.length x.f3 := by
  obtain ⟨A3, c3, rfl, l3, _⟩ := k29_open (Kd.FK_now h)
  exact ⟨A3, c3, rfl, l3, (fun W' hW => by obtain ⟨A3_, c3_, he, l3_, g3_⟩ := k29_open (h W' hW); injection (Option.some.inj (show some (Value.slice A3 x.f3.length c3) = some (Value.slice A3_ x.f3.length c3_) from congrArg (fun l => l[3]?) he)) with ha_ _ _; rw [ha_]; exact g3_)⟩
theorem k29_mkF (W : World) (ok : Nat → Prop) (x : S29) {A3 : Option Addr} {c3 : Nat} (l3 : x.f3.length ≤ c3) (g3 : Kd.F (Kd.int .u8) W ok A3 x.f3.length x.f3) : Kd.FK k29 W ok x [.bool x.f0, .bool x.f1, .int .i64 x.f2, .slice A3 x.f3.length c3] := fun W2 hW => k29_mk W2 x l3 (g3 W2 hW)
def rd_T29 (xs : List S29) (i : Int) : S29 := xs.getD i.toNat z29
theorem at_T29 {w : World} {A : Option Addr} {n : Nat} {xs : List S29} (h : Kd.C k29 w A n xs) (i : Int) (h0 : 0 ≤ i) (h1 : i < n) : ∃ ad A3 c3, A = some ad ∧ w.cell? (ad.add (i.toNat * 4)) = some (.bool (rd_T29 xs i).f0) ∧ w.cell? ⟨(ad.add (i.toNat * 4)).block, (ad.add (i.toNat * 4)).off + 1, none⟩ = some (.bool (rd_T29 xs i).f1) ∧ w.cell? ⟨(ad.add (i.toNat * 4)).block, (ad.add (i.toNat * 4)).off + 2, none⟩ = some (.int .i64 (rd_T29 xs i).f2) ∧ w.cell? ⟨(ad.add (i.toNat * 4)).block, (ad.add (i.toNat * 4)).off + 3, none⟩ = some (.slice A3 (rd_T29 xs i).f3.length c3) ∧ (rd_T29 xs i).f3.length ≤ c3 ∧ (Kd.int .u8).C w A3 (rd_T29 xs i).f3.length (rd_T29 xs i).f3 := by
  obtain ⟨ad, c, e, _, hK, hc0⟩ := Kd.C_get h z29 i h0 h1
  have hc : ∀ j u, c[j]? = some u → w.cell? (ad.add (i.toNat * 4 + j)) = some u := hc0
  obtain ⟨A3, c3, rfl, l3, g3⟩ := k29_open hK
  exact ⟨ad, A3, c3, e, hc 0 _ rfl, by rw [← add_field _ _ 1 (by omega)]; exact hc 1 _ rfl, by rw [← add_field _ _ 2 (by omega)]; exact hc 2 _ rfl, by rw [← add_field _ _ 3 (by omega)]; exact hc 3 _ rfl, l3, g3⟩

end Go.Proofs.YtgopklnfdlnojaaDoor.Ga
namespace Go.Proofs.YtgopklnfdlnojaaDoor.Ga
open Go.RowKit Go.Proofs.YtgopklnfdlnojaaDoorW.PrintWords Go.Proofs.YtgopklnfdlnojaaDoorW.PrintLast Go.Proofs.YtgopklnfdlnojaaDoorW.PrintMore
attribute [local go_sem] max2_int min2_int max_two min_two max_three min_three max_four min_four   -- for this text's walks alone
set_option linter.unusedVariables false
set_option linter.unusedSimpArgs false

-- NOT PRINTED: function 38 (frag_of)

/-! ### frag_shape_has: function 39 -/
def frag_shape_has.f (a0_0 : Int) (a0_1 : Int) (a0_2 : Int) (a1 : Int) : Option (Bool) := if a1 ≥ 0 then (some (decide (a1 < a0_1))) else (some false)
set_option maxHeartbeats 8000000 in
set_option maxRecDepth 100000 in
theorem frag_shape_has.calls (a0_0 : Int) (a0_1 : Int) (a0_2 : Int) (a1 : Int) (r : Bool) (w : World) (h : frag_shape_has.f a0_0 a0_1 a0_2 a1 = some r) :
    Calls Tryd.prog 39 #[.agg #[.int .i64 a0_0, .int .i64 a0_1, .int .u8 a0_2], .int .i64 a1] w fun e w' => e = .returned (.bool r) ∧ Below w.heap.size w w' := by
  have hu91 := Tryd.underlying91
  have HB := Aside0.mk (Below.refl w.heap.size w)
  have H : (if a1 ≥ 0 then (some (decide (a1 < a0_1))) else (some false)) = some r := h
  clear h
  by_cases c3 : a1 ≥ 0
  · rw [if_pos c3] at H
    have c3b0 : decide (0 ≤ a1) = true := decide_eq_true c3
    clear c3
    obtain rfl := Option.some.inj H
    go_enter Tryd.func39, Tryd.ntmps39
    go_wp2_with (first | ((with_reducible refine gate_dst (N := 2) rfl ?_); refine box_event ?hg (N := 2) ?hd (cs := #[.int .i64 a0_0, .int .i64 a0_1, .int .u8 a0_2]) (t := 91) ?hr ?_; (case hd => rfl); (case hg => rfl); (case hr => first | (go_simp; done) | (go_simp; rfl)); intro gb102 hg w4 hbox hb; have n0_ := Aside0.mk (below_step (by repeat (first | (with_reducible first | exact HB.out | apply below_alloc | apply pw_below_drewN | apply below_drew1) | exact HB.out)) hb); have n1_ := Aside0.mk (hbox); have n2_ := Aside0.mk ((by rw [hg]; exact (below_size (by repeat (first | (with_reducible first | exact HB.out | apply below_alloc | apply pw_below_drewN | apply below_drew1) | exact HB.out))) : w.heap.size ≤ gb102)); have n3_ := Aside0.mk ((by rw [hg]; exact (below_size (by repeat (first | (with_reducible first | exact HB.out | apply below_alloc | apply pw_below_drewN | apply below_drew1) | exact HB.out))) : w.heap.size ≤ gb102)); clear HB; have HB := n0_; have BK102 := n1_; have GW102 := n2_; have GE102 := n3_; clear n0_ n1_ n2_ n3_; clear hb hbox hg; have hcz5_0 : w4.cell? ⟨gb102, 0, none⟩ = some (.int .i64 a0_0) := (blk_cell BK102.out 0).trans rfl; have hcz5_1 : w4.cell? ⟨gb102, 1, none⟩ = some (.int .i64 a0_1) := (blk_cell BK102.out 1).trans rfl; have hcz5_2 : w4.cell? ⟨gb102, 2, none⟩ = some (.int .u8 a0_2) := (blk_cell BK102.out 2).trans rfl; have hfz5_0 := blk_frozen BK102.out 0; have hfz5_1 := blk_frozen BK102.out 1; have hfz5_2 := blk_frozen BK102.out 2))
    go_ret
    exact ⟨by first | rfl | (simp [errW_none, errW_some] <;> rfl) | (simp [*, errW_none, errW_some] <;> rfl), by repeat (first | (with_reducible first | exact HB.out | apply below_alloc | apply pw_below_drewN | apply below_drew1 | refine below_set ?_ GE102.out) | exact HB.out)⟩
  · rw [if_neg c3] at H
    have c3b0 : decide (0 ≤ a1) = false := decide_eq_false c3
    clear c3
    obtain rfl := Option.some.inj H
    go_enter Tryd.func39, Tryd.ntmps39
    go_wp2_with (first | ((with_reducible refine gate_dst (N := 2) rfl ?_); refine box_event ?hg (N := 2) ?hd (cs := #[.int .i64 a0_0, .int .i64 a0_1, .int .u8 a0_2]) (t := 91) ?hr ?_; (case hd => rfl); (case hg => rfl); (case hr => first | (go_simp; done) | (go_simp; rfl)); intro gb102 hg w6 hbox hb; have n0_ := Aside0.mk (below_step (by repeat (first | (with_reducible first | exact HB.out | apply below_alloc | apply pw_below_drewN | apply below_drew1) | exact HB.out)) hb); have n1_ := Aside0.mk (hbox); have n2_ := Aside0.mk ((by rw [hg]; exact (below_size (by repeat (first | (with_reducible first | exact HB.out | apply below_alloc | apply pw_below_drewN | apply below_drew1) | exact HB.out))) : w.heap.size ≤ gb102)); have n3_ := Aside0.mk ((by rw [hg]; exact (below_size (by repeat (first | (with_reducible first | exact HB.out | apply below_alloc | apply pw_below_drewN | apply below_drew1) | exact HB.out))) : w.heap.size ≤ gb102)); clear HB; have HB := n0_; have BK102 := n1_; have GW102 := n2_; have GE102 := n3_; clear n0_ n1_ n2_ n3_; clear hb hbox hg))
    go_ret
    exact ⟨by first | rfl | (simp [errW_none, errW_some] <;> rfl) | (simp [*, errW_none, errW_some] <;> rfl), by repeat (first | (with_reducible first | exact HB.out | apply below_alloc | apply pw_below_drewN | apply below_drew1 | refine below_set ?_ GE102.out) | exact HB.out)⟩

-- NOT PRINTED: function 13 (frag_Put)

/-! ### marlineref01_Equal: function 17 -/
def marlineref01_Equal.l0 : Nat → List Int → List Int → Int → Option (Bool)
  | 0, _, _, _ => none
  | k + 1, x0, x1, x5 => if x5 < (x0.length : Int) then (if 0 ≤ x5 then (if x5 < (x1.length : Int) then (if (rd x0 x5) = (rd x1 x5) then (marlineref01_Equal.l0 k x0 x1 (wrap64 (x5 + 1))) else (some false)) else (none)) else (none)) else (some true)
def marlineref01_Equal.f (k : Nat) (l0 : List Int) (l1 : List Int) : Option (Bool) := if (l0.length : Int) = (l1.length : Int) then (marlineref01_Equal.l0 k l0 l1 0) else (some false)
theorem marlineref01_Equal.mono_l : ∀ k, (∀ y0 y1 y2, LeO (marlineref01_Equal.l0 k y0 y1 y2) (marlineref01_Equal.l0 (k + 1) y0 y1 y2))
  | 0 => fun _ _ _ r h => by simp [marlineref01_Equal.l0] at h
  | k + 1 => by
    have ih0 := marlineref01_Equal.mono_l k
    · intro y0 y1 y2
      unfold marlineref01_Equal.l0
      repeat' first
      | (with_reducible exact ih0 _ _ _)
      | (with_reducible exact LeO.refl _)
      | (with_reducible exact LeO.none _)
      | (with_reducible refine LeO.ite ?_ ?_)
      | (with_reducible refine LeO.bind ?_ (fun _ => ?_))
      | exact ih0 _ _ _
      | exact LeO.none _
      | refine LeO.ite ?_ ?_
      | refine LeO.bind ?_ (fun _ => ?_)
theorem marlineref01_Equal.mono : ∀ a0 a1 k, LeO (marlineref01_Equal.f k a0 a1) (marlineref01_Equal.f (k + 1) a0 a1) := by
  intro a0 a1 k
  have ih0 := marlineref01_Equal.mono_l k
  unfold marlineref01_Equal.f
  repeat' first
      | (with_reducible exact ih0 _ _ _)
      | (with_reducible exact LeO.refl _)
      | (with_reducible exact LeO.none _)
      | (with_reducible refine LeO.ite ?_ ?_)
      | (with_reducible refine LeO.bind ?_ (fun _ => ?_))
      | exact ih0 _ _ _
      | exact LeO.none _
      | refine LeO.ite ?_ ?_
      | refine LeO.bind ?_ (fun _ => ?_)
set_option maxHeartbeats 8000000 in
set_option maxRecDepth 100000 in
theorem marlineref01_Equal.calls (k : Nat) (A0 : Option Addr) (c0 : Nat) (l0 : List Int) (A1 : Option Addr) (c1 : Nat) (l1 : List Int) (r : Bool) (w : World) (hr0 : Kd.C (Kd.int .u8) w A0 l0.length l0) (hc0 : l0.length ≤ c0) (hr1 : Kd.C (Kd.int .u8) w A1 l1.length l1) (hc1 : l1.length ≤ c1) (h : marlineref01_Equal.f k l0 l1 = some r) :
    Calls Tryd.prog 17 #[.slice A0 l0.length c0, .slice A1 l1.length c1] w fun e w' => e = .returned (.bool r) ∧ Drawn0 w w' := by
  have HR0 := Aside0.mk hr0
  have HC0 := Aside0.mk hc0
  clear hr0 hc0
  have HR1 := Aside0.mk hr1
  have HC1 := Aside0.mk hc1
  clear hr1 hc1
  have H : (if (l0.length : Int) = (l1.length : Int) then (marlineref01_Equal.l0 k l0 l1 0) else (some false)) = some r := h
  clear h
  by_cases c3 : (l0.length : Int) = (l1.length : Int)
  · rw [if_pos c3] at H
    have c3b0 : ((l0.length : Int) == (l1.length : Int)) = true := beq_iff_eq.mpr c3
    have c3b1 : ((l0.length : Int) != (l1.length : Int)) = false := bne_eq_false_iff_eq.mpr c3
    have c3b2 : (l0.length == l1.length) = true := by first | simpa using c3 | (simp at c3 ⊢; omega)
    clear c3
    have H' := Aside0.mk H
    clear H
    go_enter Tryd.func17, Tryd.ntmps17
    go_wp2
    repeat (go_quiet (fail); try go_wp2)
    go_loopg [5] k (fun kq v5 w' => ∃ (x5_1 : Int), v5 = .int .i64 x5_1 ∧ Aside0 (marlineref01_Equal.l0 kq l0 l1 x5_1 = some r) ∧ Aside0 (kq ≤ k) ∧ Drawn0 w w')
    case atStart => exact ⟨(0), (by first | rfl | (simp; done) | (simp [*]; done)), H', ⟨Nat.le_refl _⟩, by repeat (first | exact Drawn0.refl _ | apply Drawn0.step)⟩
    case round =>
      clear H'
      try clear c1
      try clear p2
      try clear c3
      try clear c3b0
      try clear c3b1
      try clear c3b2
      obtain ⟨x5_1, rfl, HA, HK1, ⟨m1, rfl⟩⟩ := hrel
      cases gk with
      | zero => exact absurd HA.out (by simp [marlineref01_Equal.l0])
      | succ k1 =>
        have H := HA.out
        clear HA
        simp only [marlineref01_Equal.l0] at H
        by_cases c4 : x5_1 < (l0.length : Int)
        · rw [if_pos c4] at H
          have c4b0 : decide (x5_1 < (l0.length : Int)) = true := decide_eq_true c4
          clear c4
          by_cases c5 : 0 ≤ x5_1
          · rw [if_pos c5] at H
            have c5b0 : decide (0 ≤ x5_1) = true := decide_eq_true c5
            clear c5
            by_cases c6 : x5_1 < (l1.length : Int)
            · rw [if_pos c6] at H
              have c6b0 : decide (x5_1 < (l1.length : Int)) = true := decide_eq_true c6
              clear c6
              by_cases c7 : (rd l0 x5_1) = (rd l1 x5_1)
              · rw [if_pos c7] at H
                have c7b0 : ((rd l0 x5_1) == (rd l1 x5_1)) = true := beq_iff_eq.mpr c7
                have c7b1 : ((rd l0 x5_1) != (rd l1 x5_1)) = false := bne_eq_false_iff_eq.mpr c7
                clear c7
                have H' := Aside0.mk H
                clear H
                have p104 : 0 ≤ (x5_1 : Int) := of_decide_eq_true (by first | (with_reducible assumption) | assumption)
                have q104 : x5_1 < (l0.length : Int) := of_decide_eq_true (by first | (with_reducible assumption) | assumption)
                obtain ⟨ad104, e104, hx104_0⟩ := Kd.at_int HR0.out x5_1 p104 q104
                cases e104
                replace p104 := eq_true p104
                replace q104 := eq_true q104
                have p105 : 0 ≤ (x5_1 : Int) := of_decide_eq_true (by first | (with_reducible assumption) | assumption)
                have q105 : x5_1 < (l1.length : Int) := of_decide_eq_true (by first | (with_reducible assumption) | assumption)
                obtain ⟨ad105, e105, hx105_0⟩ := Kd.at_int HR1.out x5_1 p105 q105
                cases e105
                replace p105 := eq_true p105
                replace q105 := eq_true q105
                go_wp2
                repeat (go_quiet (fail); try go_wp2)
                go_roundg k1
                case measure => have := HK1.out; omega
                case rel => exact ⟨(wrap64 (x5_1 + 1)), (by first | rfl | (simp; done) | (simp [*]; done)), H', ⟨by have := HK1.out; omega⟩, by repeat (first | exact Drawn0.refl _ | apply Drawn0.step)⟩
              · rw [if_neg c7] at H
                have c7b0 : ((rd l0 x5_1) == (rd l1 x5_1)) = false := beq_eq_false_iff_ne.mpr c7
                have c7b1 : ((rd l0 x5_1) != (rd l1 x5_1)) = true := bne_iff_ne.mpr c7
                obtain rfl := Option.some.inj H
                have p104 : 0 ≤ (x5_1 : Int) := of_decide_eq_true (by first | (with_reducible assumption) | assumption)
                have q104 : x5_1 < (l0.length : Int) := of_decide_eq_true (by first | (with_reducible assumption) | assumption)
                obtain ⟨ad104, e104, hx104_0⟩ := Kd.at_int HR0.out x5_1 p104 q104
                cases e104
                replace p104 := eq_true p104
                replace q104 := eq_true q104
                have p105 : 0 ≤ (x5_1 : Int) := of_decide_eq_true (by first | (with_reducible assumption) | assumption)
                have q105 : x5_1 < (l1.length : Int) := of_decide_eq_true (by first | (with_reducible assumption) | assumption)
                obtain ⟨ad105, e105, hx105_0⟩ := Kd.at_int HR1.out x5_1 p105 q105
                cases e105
                replace p105 := eq_true p105
                replace q105 := eq_true q105
                go_wp2
                repeat (go_quiet (fail); try go_wp2)
                go_ret
                exact ⟨by first | rfl | (simp; done) | (simp [*]; done), by repeat (first | exact Drawn0.refl _ | apply Drawn0.step)⟩
            · rw [if_neg c6] at H
              exact absurd H (by simp)
          · rw [if_neg c5] at H
            exact absurd H (by simp)
        · rw [if_neg c4] at H
          have c4b0 : decide (x5_1 < (l0.length : Int)) = false := decide_eq_false c4
          clear c4
          obtain rfl := Option.some.inj H
          go_wp2
          repeat (go_quiet (fail); try go_wp2)
          go_ret
          exact ⟨by first | rfl | (simp; done) | (simp [*]; done), by repeat (first | exact Drawn0.refl _ | apply Drawn0.step)⟩
  · rw [if_neg c3] at H
    have c3b0 : ((l0.length : Int) == (l1.length : Int)) = false := beq_eq_false_iff_ne.mpr c3
    have c3b1 : ((l0.length : Int) != (l1.length : Int)) = true := bne_iff_ne.mpr c3
    have c3b2 : (l0.length == l1.length) = false := by first | simpa using c3 | (simp at c3 ⊢; omega)
    obtain rfl := Option.some.inj H
    go_enter Tryd.func17, Tryd.ntmps17
    go_wp2
    repeat (go_quiet (fail); try go_wp2)
    go_ret
    exact ⟨by first | rfl | (simp; done) | (simp [*]; done), by repeat (first | exact Drawn0.refl _ | apply Drawn0.step)⟩

-- NOT PRINTED: function 26 (frag_Mod)

-- NOT PRINTED: function 12 (marlinelaw23_speaks)


end Go.Proofs.YtgopklnfdlnojaaDoor.Ga
namespace Go.Proofs.YtgopklnfdlnojaaDoor.My
open Go.RowKit Go.Proofs.YtgopklnfdlnojaaDoorW.PrintWords
set_option linter.unusedVariables false

/-- Cells, just as they lie. -/
def rawK (n : Nat) : Kd (List Value) where
  sz := n
  E := []
  K := fun _ x cs => cs = x ∧ x.length = n ∧ ∀ u ∈ x, u.oneCell' = true
  M := fun _ _ _ x cs => cs = x ∧ x.length = n ∧ ∀ u ∈ x, u.oneCell' = true
  K_len := fun h => by rw [h.1]; exact h.2.1
  K_one := fun h => by rw [h.1]; exact h.2.2
  K_below := fun _ h => h
  K_of_M := fun h => h
  M_mono := fun _ h => h
  M_bound := fun h => h
  M_move := fun _ h => h
  M_lower := fun _ h => h

/-- Each of some things reads off its own cells. -/
def Each {α : Type} (d : Kd α) (w : World) (xs : List α) (rows : List (List Value)) : Prop :=
  rows.length = xs.length ∧ ∀ (j : Nat) (x : α) (r : List Value), xs[j]? = some x → rows[j]? = some r → d.K w x r

theorem Each.below {α : Type} {d : Kd α} {w w' : World} {xs : List α} {rows : List (List Value)} (h : Each d w xs rows) (hb : Below w.heap.size w w') : Each d w' xs rows :=
  ⟨h.1, fun j x r hx hr => d.K_below hb (h.2 j x r hx hr)⟩

theorem raw_of {α : Type} {d : Kd α} {w : World} {A : Option Addr} {n : Nat} {xs : List α} (h : d.C w A n xs) : ∃ rows, (rawK d.sz).C w A n rows ∧ Each d w xs rows := by
  obtain ⟨hl, hm, hc⟩ := h
  by_cases hn : 0 < n
  · obtain ⟨ad, rfl, hcell⟩ := hc hn
    have key : ∀ j : Nat, ∃ r : List Value, ∀ x, xs[j]? = some x → r.length = d.sz ∧ d.K w x r ∧ ∀ i u, r[i]? = some u → w.cell? (ad.add (j * d.sz + i)) = some u := by
      intro j
      cases hx : xs[j]? with
      | none => exact ⟨[], fun x h => by cases h⟩
      | some x =>
        obtain ⟨r, h1, h2, h3⟩ := hcell j x hx
        exact ⟨r, fun y hy => by cases hy; exact ⟨h1, h2, h3⟩⟩
    obtain ⟨f, hf⟩ : ∃ f : Nat → List Value, ∀ j x, xs[j]? = some x → (f j).length = d.sz ∧ d.K w x (f j) ∧ ∀ i u, (f j)[i]? = some u → w.cell? (ad.add (j * d.sz + i)) = some u :=
      ⟨fun j => Classical.choose (key j), fun j x hx => Classical.choose_spec (key j) x hx⟩
    have hget : ∀ j r, ((List.range xs.length).map f)[j]? = some r → j < xs.length ∧ r = f j := by
      intro j r hj
      rw [List.getElem?_map] at hj
      by_cases hlt : j < xs.length
      · rw [List.getElem?_range hlt] at hj
        exact ⟨hlt, by simpa using hj.symm⟩
      · rw [List.getElem?_eq_none (by simpa using hlt)] at hj
        simp at hj
    refine ⟨(List.range xs.length).map f, ⟨by simpa using hl, hm, fun _ => ⟨ad, rfl, fun j r hj => ?_⟩⟩, by simp, fun j x r hx hr => ?_⟩
    · obtain ⟨hlt, rfl⟩ := hget j r hj
      obtain ⟨h1, h2, h3⟩ := hf j _ (List.getElem?_eq_getElem hlt)
      exact ⟨f j, h1, ⟨rfl, h1, d.K_one h2⟩, h3⟩
    · obtain ⟨hlt, rfl⟩ := hget j r hr
      exact (hf j x hx).2.1
  · have hn0 : n = 0 := by omega
    subst hn0
    have : xs = [] := List.length_eq_zero_iff.1 hl
    subst this
    exact ⟨[], ⟨rfl, hm, fun h => absurd h (by omega)⟩, rfl, fun j x r hx => by simp at hx⟩

theorem of_raw {α : Type} {d : Kd α} {w : World} {A : Option Addr} {n : Nat} {xs : List α} {rows : List (List Value)} (h : (rawK d.sz).C w A n rows) (he : Each d w xs rows) : d.C w A n xs := by
  obtain ⟨hl, hm, hc⟩ := h
  refine ⟨he.1.symm.trans hl, hm, fun hn => ?_⟩
  obtain ⟨ad, rfl, hcell⟩ := hc hn
  refine ⟨ad, rfl, fun j x hx => ?_⟩
  have hlt : j < rows.length := by
    have := (List.getElem?_eq_some_iff.1 hx).1
    rw [he.1]
    exact this
  obtain ⟨c, h1, h2, h3⟩ := hcell j _ (List.getElem?_eq_getElem hlt)
  have e : c = rows[j] := h2.1
  subst e
  exact ⟨rows[j], h1, he.2 j x _ hx (List.getElem?_eq_getElem hlt), h3⟩

/-- The cells of one element of a row of bare cells. -/
theorem raw_get {n : Nat} {w : World} {A : Option Addr} {len : Nat} {rows : List (List Value)} (h : (rawK n).C w A len rows) (k : Nat) (hk : k < len) :
    ∃ ad, A = some ad ∧ ∃ r, rows[k]? = some r ∧ r.length = n ∧ (∀ u ∈ r, u.oneCell' = true) ∧ ∀ i u, r[i]? = some u → w.cell? (ad.add (k * n + i)) = some u := by
  obtain ⟨hl, hm, hc⟩ := h
  obtain ⟨ad, e, hcell⟩ := hc (by omega)
  have hlt : k < rows.length := by omega
  obtain ⟨c, h1, h2, h3⟩ := hcell k _ (List.getElem?_eq_getElem hlt)
  have e2 : c = rows[k] := h2.1
  subst e2
  exact ⟨ad, e, rows[k], List.getElem?_eq_getElem hlt, h1, h2.2.2, h3⟩

theorem raw_M {n : Nat} (w : World) (base : Nat) (ok : Nat → Prop) (r : List Value) (hl : r.length = n) (h1 : ∀ u ∈ r, u.oneCell' = true) : (rawK n).M w base ok r r := ⟨rfl, hl, h1⟩

/-- A whole block, written anew. -/
theorem put_all {w : World} {g t : Nat} {old : Array Value} {vs : List Value} (h : w.heap[g]? = some (.cells old t (0, 0))) (hs : old.size = vs.length) :
    (w.setCells g 0 vs).heap[g]? = some (.cells vs.toArray t (0, 0)) := by
  obtain ⟨cur, h1, h2, h3⟩ := setCells_row vs 0 w old h (by omega)
  rw [h1]
  have : cur.toList = vs := by
    rw [h3, List.take_zero, List.nil_append, Nat.zero_add, List.drop_of_length_le (by rw [Array.length_toList]; omega), List.append_nil]
  rw [← this]
theorem below_puts {B : Nat} {w0 w : World} {g o : Nat} {vs : List Value} (hb : Below B w0 w) (hg : B ≤ g) : Below B w0 (w.setCells g o vs) := by
  obtain ⟨h1, h2, h3, h4⟩ := setCells_same g vs o w
  exact ⟨h1.trans hb.os, h2.trans hb.tape, h3.trans hb.output, by rw [h4]; exact hb.size, fun k hk => (setCells_far vs o k (by omega)).trans (hb.block k hk)⟩
theorem R_puts {α : Type} {d : Kd α} {e : Nat} {w : World} {base : Nat} {v : Value} {xs : List α} (h : d.R e w base (fun _ => True) v xs) {g o : Nat} {vs : List Value} (hg : g < base) :
    d.R e (w.setCells g o vs) base (fun _ => True) v xs :=
  Kd.R_mono (Kd.R_move (Kd.R_bound h) (fun k hk => setCells_far vs o k (by have := hk.2.1; omega))) (fun _ _ => trivial)

end Go.Proofs.YtgopklnfdlnojaaDoor.My
namespace Go.Proofs.YtgopklnfdlnojaaDoor.Gb
open Go.RowKit Go.Proofs.YtgopklnfdlnojaaDoor.Ga Go.Proofs.YtgopklnfdlnojaaDoor.My Go.Proofs.YtgopklnfdlnojaaDoorW.PrintWords Go.Proofs.YtgopklnfdlnojaaDoorW.PrintLast Go.Proofs.YtgopklnfdlnojaaDoorW.PrintMore
set_option linter.unusedVariables false
set_option linter.unusedSimpArgs false

/-- The table of shapes lies as its text lays it. -/
structure Shapes (W : World) : Prop where
  c0 : W.cell? ⟨0, 0, none⟩ = some (.int .i64 4)
  c1 : W.cell? ⟨0, 1, none⟩ = some (.int .i64 16777216)
  c2 : W.cell? ⟨0, 2, none⟩ = some (.int .u8 0)
  c3 : W.cell? ⟨0, 3, none⟩ = some (.int .i64 2)
  c4 : W.cell? ⟨0, 4, none⟩ = some (.int .i64 4096)
  c5 : W.cell? ⟨0, 5, none⟩ = some (.int .u8 15)
theorem Shapes.below {W W' : World} (h : Shapes W) (hb : Below W.heap.size W W') : Shapes W' :=
  ⟨pw_cell_below hb h.c0, pw_cell_below hb h.c1, pw_cell_below hb h.c2, pw_cell_below hb h.c3, pw_cell_below hb h.c4, pw_cell_below hb h.c5⟩
theorem Shapes.alloc {W : World} (h : Shapes W) (o : Obj) : Shapes (W.alloc o) := h.below (below_alloc (Below.refl _ _) o)

def octets (short : Bool) : Int := if short then 2 else 4
def numbers (short : Bool) : Int := if short then 4096 else 16777216
def mask (short : Bool) : Int := if short then 15 else 0
abbrev shapeV (short : Bool) : Value := .agg #[.int .i64 (octets short), .int .i64 (numbers short), .int .u8 (mask short)]

set_option maxHeartbeats 1000000 in
set_option maxRecDepth 100000 in
theorem of_any (short : Bool) (w : World) (hS : Shapes w) : Calls Tryd.prog 38 #[.bool short] w fun e w' => e = .returned (shapeV short) ∧ Below w.heap.size w w' := by
  have h0 := hS.c0
  have h1 := hS.c1
  have h2 := hS.c2
  have h3 := hS.c3
  have h4 := hS.c4
  have h5 := hS.c5
  have hz := World.block_lt_of_cell? w _ h0
  have hz1 : w.heap.size ≠ 0 := by simp only at hz; omega
  have hz2 : ¬ 0 = w.heap.size := fun h => hz1 h.symm
  clear hS
  cases short with
  | true =>
    go_enter Tryd.func38, Tryd.ntmps38
    go_wp2
    exact bodyPost_ret (v := shapeV true) (by simp [results, Tryd.results38, go_sem, shapeV, octets, numbers, mask]) rfl ⟨rfl, below_alloc (Below.refl _ _) _⟩
  | false =>
    go_enter Tryd.func38, Tryd.ntmps38
    go_wp2
    exact bodyPost_ret (v := shapeV false) (by simp [results, Tryd.results38, go_sem, shapeV, octets, numbers, mask]) rfl ⟨rfl, below_alloc (Below.refl _ _) _⟩

set_option maxHeartbeats 1000000 in
set_option maxRecDepth 100000 in
theorem mod_any (short : Bool) (w : World) (hS : Shapes w) : Calls Tryd.prog 26 #[.bool short] w fun e w' => e = .returned (.int .i64 (numbers short)) ∧ Below w.heap.size w w' := by
  have hu91 := Tryd.underlying91
  have HS := Aside0.mk hS
  clear hS
  go_enter Tryd.func26, Tryd.ntmps26
  go_wp2_with (fail)
  refine (of_any short _ HS.out).mono ?_
  rintro e w1 ⟨rfl, hb⟩
  cases short with
  | true =>
    have hf : ∀ W : World, (Instr.field 91 (shapeV true) 1).run Tryd.prog W = .ok (.int .i64 4096) W := fun _ => by kernel_rfl
    go_wp2
    go_ret
    exact ⟨rfl, hb⟩
  | false =>
    have hf : ∀ W : World, (Instr.field 91 (shapeV false) 1).run Tryd.prog W = .ok (.int .i64 16777216) W := fun _ => by kernel_rfl
    go_wp2
    go_ret
    exact ⟨rfl, hb⟩

/-- A copy of octets: a list that was nil is nil, every other one is new memory. -/
theorem clone_any (A : Option Addr) (n c : Nat) (xs : List Int) (w : World) (h : (Kd.int .u8).C w A n xs) (hc : n ≤ c) (hA : A = none → n = 0) (hn : n ≤ 140737488355328) :
    Calls Tryd.prog 41 #[.slice A n c] w fun e w' => ∃ A' c', e = .returned (.slice A' n c') ∧ n ≤ c' ∧ (Kd.int .u8).R 5 w' w.heap.size (fun _ => True) (.slice A' n c') xs ∧ Below w.heap.size w w' := by
  cases A with
  | none =>
    obtain rfl := hA rfl
    obtain rfl : xs = [] := List.length_eq_zero_iff.1 h.1
    have he := fun W : World => Go.Lib.run_eql_slice_nil (P := Tryd.prog) W 22 5 none 0 c 0 0 Tryd.underlying22
    clear h hA hn
    go_enter Tryd.func41, Tryd.ntmps41
    go_wp2
    go_ret
    exact ⟨none, 0, rfl, Nat.le_refl _, Kd.R_nil _ _ _ _ _, Below.refl _ _⟩
  | some ad =>
    have he := fun W : World => Go.Lib.run_eql_slice_nil (P := Tryd.prog) W 22 5 (some ad) n c 0 0 Tryd.underlying22
    have H := Aside0.mk h
    have HN := Aside0.mk hn
    clear h hA hn
    go_enter Tryd.func41, Tryd.ntmps41
    go_wp2_with (first
      | ((with_reducible refine gate_dst (N := 5) rfl ?_); refine Kd.R_lit (Kd.int .u8) (w0 := w) w.heap.size 5 ?hg (N := 5) ?hd (xs := ([] : List Int)) (inner := []) (ok := fun _ => True) (okp := fun _ => True) ?hr ?hp (fun _ hk => hk) trivial (Below.refl _ _) (Nat.le_refl _) (by simp) ?_; (case hd => rfl); (case hg => rfl); (case hr => first | (go_simp; done) | (go_simp; rfl)); (case hp => exact (Reps.none _ _)); intro v4 w4 ho4 hb4 hg4 hnew4; have HO4 := Aside0.mk ho4; have HB4 := Aside0.mk hb4; clear ho4 hb4 hg4 hnew4)
      | ((with_reducible refine gate_builtin (b := .append) (xs := #[.tmp 5, .tmp 6]) rfl ?_); at_builtin; refine Kd.R_append_rows (Kd.int .u8) (w0 := w) w.heap.size rfl (.tmp 5) (.tmp 6) 22 5 (.int .u8 0) 1 rfl Tryd.underlying22 info5 rfl (by decide) (by omega) v4 [] xs _ _ _ (fun _ => True) (fun _ => False) rfl rfl ?aO ?aR (fun _ _ h => h) (fun _ h => h.elim) ?aF ?aB ?aS ?aL ?_; (case aR => exact Kd.C_below H.out HB4.out); (case aB => exact HB4.out); (case aF => exact fun _ _ => trivial); (case aO => exact HO4.out); (case aS => exact HB4.out.size); (case aL => have := HN.out; simp only [List.length_nil]; omega); intro v5 w5 ho5 hb5 hg5 hat5; have HO5 := Aside0.mk ho5; have HB5 := Aside0.mk hb5; clear ho5 hb5 hg5 hat5))
    go_ret
    obtain ⟨A', c', rfl, hc', hC⟩ := Kd.R_reads HO5.out
    have hl : xs.length = n := H.out.1
    have hR := HO5.out
    rw [List.nil_append, hl] at hR hc'
    exact ⟨A', c', by simp [hl], hc', hR, HB5.out⟩

end Go.Proofs.YtgopklnfdlnojaaDoor.Gb
namespace Go.Proofs.YtgopklnfdlnojaaDoor.Gp
open Go.RowKit Go.Proofs.YtgopklnfdlnojaaDoor.Ga Go.Proofs.YtgopklnfdlnojaaDoor.My Go.Proofs.YtgopklnfdlnojaaDoor.Gb Go.Proofs.YtgopklnfdlnojaaDoorW.PrintWords Go.Proofs.YtgopklnfdlnojaaDoorW.PrintLast Go.Proofs.YtgopklnfdlnojaaDoorW.PrintMore
set_option linter.unusedVariables false
set_option linter.unusedSimpArgs false

theorem blk_keep {W W' : World} {g : Nat} {o : Obj} (h : W.heap[g]? = some o) (hb : Below W.heap.size W W') : W'.heap[g]? = some o := (hb.block g (Array.getElem?_eq_some_iff.1 h).1).trans h
theorem new1 (w : World) (o : Obj) : (w.alloc o).heap[w.heap.size]? = some o := by
  show (w.heap.push o)[w.heap.size]? = some o
  rw [Array.getElem?_push, if_pos rfl]
theorem cells3 {W : World} {g t : Nat} {v0 v1 v2 : Value} (h : W.heap[g]? = some (.cells #[v0, v1, v2] t (0, 0))) :
    W.cell? ⟨g, 0, none⟩ = some v0 ∧ W.cell? ⟨g, 1, none⟩ = some v1 ∧ W.cell? ⟨g, 2, none⟩ = some v2 := by
  refine ⟨?_, ?_, ?_⟩ <;> simp [World.cell?, h]
theorem cells4 {W : World} {g t : Nat} {v0 v1 v2 v3 : Value} (h : W.heap[g]? = some (.cells #[v0, v1, v2, v3] t (0, 0))) :
    W.cell? ⟨g, 0, none⟩ = some v0 ∧ W.cell? ⟨g, 1, none⟩ = some v1 ∧ W.cell? ⟨g, 2, none⟩ = some v2 ∧ W.cell? ⟨g, 3, none⟩ = some v3 := by
  refine ⟨?_, ?_, ?_, ?_⟩ <;> simp [World.cell?, h]

abbrev pc (b e : Bool) (num : Int) (A : Option Addr) (n c : Nat) : Value := .agg #[.bool b, .bool e, .int .i64 num, .slice A n c]

theorem has_any (short : Bool) (num : Int) (w : World) : Calls Tryd.prog 39 #[shapeV short, .int .i64 num] w fun e w' => e = .returned (.bool (decide (0 ≤ num ∧ num < numbers short))) ∧ Below w.heap.size w w' := by
  refine frag_shape_has.calls _ _ _ _ _ w ?_
  unfold frag_shape_has.f
  by_cases h : 0 ≤ num
  · rw [if_pos h, decide_eq_decide.2 (show num < numbers short ↔ 0 ≤ num ∧ num < numbers short from by omega)]
  · rw [if_neg (by omega), decide_eq_false (fun hh => h hh.1)]

/-- The row that make laid. -/
theorem made_row {W : World} {m c : Nat} (hm : m ≤ c) (hc : c ≤ maxLen) : (Kd.int .u8).R 5 (W.alloc (.cells (madeCells #[.int .u8 0] c) 5)) W.heap.size (fun _ => True) (.slice (some ⟨W.heap.size, 0, none⟩) m c) (List.replicate m 0) := by
  refine Kd.R_of_own (enc := Value.int .u8) (h1 := fun _ => rfl) ⟨by simp [encs], .inr ⟨W.heap.size, c, madeCells #[.int .u8 0] c, by simp, Nat.le_refl _, new1 W _, by simpa using hm, hc, by rw [size_madeCells, Nat.mul_one], ?_⟩⟩ (fun _ _ => trivial)
  have e : (madeCells #[.int .u8 0] c).toList = List.replicate c (.int .u8 0) := by
    apply List.ext_getElem
    · simp [madeCells]
    · intro i h1 h2
      simp [madeCells, Nat.mod_one]
  rw [e, List.take_replicate]
  simp [encs, Nat.min_eq_left hm]


theorem of2 (w : World) (hS : Shapes w) : Calls Tryd.prog 38 #[.bool true] w fun e w' => e = .returned (.agg #[.int .i64 2, .int .i64 4096, .int .u8 15]) ∧ Below w.heap.size w w' := of_any true w hS
theorem of4 (w : World) (hS : Shapes w) : Calls Tryd.prog 38 #[.bool false] w fun e w' => e = .returned (.agg #[.int .i64 4, .int .i64 16777216, .int .u8 0]) ∧ Below w.heap.size w w' := of_any false w hS
theorem has2 (num : Int) (w : World) : Calls Tryd.prog 39 #[.agg #[.int .i64 2, .int .i64 4096, .int .u8 15], .int .i64 num] w fun e w' => e = .returned (.bool (decide (0 ≤ num ∧ num < 4096))) ∧ Below w.heap.size w w' := has_any true num w
theorem has4 (num : Int) (w : World) : Calls Tryd.prog 39 #[.agg #[.int .i64 4, .int .i64 16777216, .int .u8 0], .int .i64 num] w fun e w' => e = .returned (.bool (decide (0 ≤ num ∧ num < 16777216))) ∧ Below w.heap.size w w' := has_any false num w
theorem lor16 : ∀ x < 16, (x ||| 128 = x + 128) ∧ (x ||| 64 = x + 64) ∧ ((x + 128) ||| 64 = x + 192) := by decide +kernel
theorem or_u8 (a b : Nat) (ha : a < 256) (hb : b < 256) : Go.bits .or .u8 (a : Int) (b : Int) = ((a ||| b : Nat) : Int) := (Go.bits_nat .u8 8 (by decide) wraps_u8 a b ha hb).2
theorem or128 (x : Int) (h0 : 0 ≤ x) (h1 : x < 16) : Go.bits .or .u8 x 128 = x + 128 := by
  obtain ⟨n, rfl⟩ := Int.eq_ofNat_of_zero_le h0
  have := or_u8 n 128 (by omega) (by decide)
  rw [(lor16 n (by omega)).1] at this
  exact this
theorem or64 (x : Int) (h0 : 0 ≤ x) (h1 : x < 16) : Go.bits .or .u8 x 64 = x + 64 := by
  obtain ⟨n, rfl⟩ := Int.eq_ofNat_of_zero_le h0
  have := or_u8 n 64 (by omega) (by decide)
  rw [(lor16 n (by omega)).2.1] at this
  exact this
theorem or192 (x : Int) (h0 : 0 ≤ x) (h1 : x < 16) : Go.bits .or .u8 (x + 128) 64 = x + 192 := by
  obtain ⟨n, rfl⟩ := Int.eq_ofNat_of_zero_le h0
  have := or_u8 (n + 128) 64 (by omega) (by decide)
  rw [(lor16 n (by omega)).2.2] at this
  exact this
def sh (num : Int) : Nat → Int
  | 0 => num
  | 1 => num / 256
  | 2 => num / 65536
  | 3 => num / 16777216
  | _ => num / 4294967296
def top (b e : Bool) : Int := (if b then 128 else 0) + (if e then 64 else 0)
def head2 (b e : Bool) (num : Int) : List Int := [top b e + num / 256, num % 256]
def head4 (b e : Bool) (num : Int) : List Int := [top b e, num / 65536, num / 256 % 256, num % 256]

/-- A header's octets, as many as are written after k rounds. -/
def st2 (num : Int) : Nat → List Int
  | 0 => [0, 0]
  | 1 => [0, sh num 0 % 256]
  | _ => [sh num 1 % 256, sh num 0 % 256]

set_option maxHeartbeats 2000000 in
set_option maxRecDepth 100000 in
theorem put2 (b e : Bool) (num : Int) (A : Option Addr) (n c : Nat) (xs : List Int) (w : World) (hS : Shapes w) (h0 : 0 ≤ num) (h1 : num < 4096) (hx : (Kd.int .u8).C w A n xs) (hc : n ≤ c) (hn : n ≤ 100000) :
    Calls Tryd.prog 13 #[.bool true, pc b e num A n c] w fun e' w' => ∃ A' c', e' = .returned (.tuple #[.slice A' (2 + n) c', .int .i64 0]) ∧ 2 + n ≤ c' ∧ (Kd.int .u8).C w' A' (2 + n) (head2 b e num ++ xs) ∧ Below w.heap.size w w' := by
  have HS := Aside0.mk hS
  have HX := Aside0.mk hx
  have HC := Aside0.mk hc
  have HN := Aside0.mk hn
  have HM := Aside0.mk (show (n : Int) ≤ 100000 from by omega)
  clear hS hx hc hn
  have hinf := info_parts info5
  obtain ⟨i0, hi, hz, hz1, hz2⟩ := hinf
  go_enter Tryd.func13, Tryd.ntmps13
  go_wp2_with (fail)
  refine (of2 _ (HS.out.alloc _)).mono ?_
  rintro e1 w1 ⟨rfl, hb⟩
  have HP := Aside0.mk (blk_keep (new1 w (.cells #[.bool b, .bool e, .int .i64 num, .slice A n c] 29)) hb)
  have X := Aside0.mk (below_step (below_alloc (Below.refl _ w) (.cells #[.bool b, .bool e, .int .i64 num, .slice A n c] 29)) hb)
  clear hb
  obtain ⟨gp, hgp⟩ : ∃ gp, w.heap.size = gp := ⟨_, rfl⟩
  rw [hgp] at HP ⊢
  clear hgp
  go_upto_region 2 with (fail)
  have HQ := Aside0.mk (new1 w1 (.cells #[.int .i64 2, .int .i64 4096, .int .u8 15] 91))
  have hb := below_alloc (Below.refl _ w1) (.cells #[.int .i64 2, .int .i64 4096, .int .u8 15] 91)
  replace HP := Aside0.mk (blk_keep HP.out hb)
  replace X := Aside0.mk (below_step X.out hb)
  clear hb
  obtain ⟨gq, hgq⟩ : ∃ gq, w1.heap.size = gq := ⟨_, rfl⟩
  rw [hgq] at HQ ⊢
  clear hgq
  generalize w1.alloc (.cells #[.int .i64 2, .int .i64 4096, .int .u8 15] 91) = w2 at HP HQ X ⊢
  obtain ⟨p0, p1, p2, p3⟩ := cells4 HP.out
  obtain ⟨q0, q1, q2⟩ := cells3 HQ.out
  go_wp2_with (fail)
  refine (has2 num _).mono ?_
  rintro e1 w3 ⟨rfl, hb⟩
  have hin : decide (0 ≤ num ∧ num < 4096) = true := decide_eq_true ⟨h0, h1⟩
  rw [hin]
  clear hin p0 p1 p2 p3 q0 q1 q2
  replace HP := Aside0.mk (blk_keep HP.out hb)
  replace HQ := Aside0.mk (blk_keep HQ.out hb)
  replace X := Aside0.mk (below_step X.out hb)
  clear hb
  obtain ⟨p0, p1, p2, p3⟩ := cells4 HP.out
  obtain ⟨q0, q1, q2⟩ := cells3 HQ.out
  have hmk := fun W : World => run_make (P := Tryd.prog) W 22 5 i0 (.int .u8 0) Tryd.underlying22 hi hz .i64 .i64 2 (2 + n) (by omega) (by omega) (by rw [hz2]; have := HM.out; omega) (by have := HM.out; omega)
  rw [hz1] at hmk
  have HP3 := HP
  have X3 := X
  have hn0 : 0 ≤ (n : Int) := by omega
  have hn1 : (n : Int) ≤ 100000 := HM.out
  clear hi hz hz1 hz2
  go_upto_region 5 with (fail)
  have HR := Aside0.mk (made_row (W := w3) (m := 2) (c := 2 + n) (by omega) (by have := HN.out; unfold maxLen; omega))
  have hb := below_alloc (Below.refl _ w3) (.cells (madeCells #[.int .u8 0] (2 + n)) 5)
  replace HP := Aside0.mk (blk_keep HP.out hb)
  replace HQ := Aside0.mk (blk_keep HQ.out hb)
  replace X := Aside0.mk (below_step X.out hb)
  have GP := Aside0.mk (show gp < w3.heap.size ∧ w.heap.size ≤ w3.heap.size from ⟨by have := (Array.getElem?_eq_some_iff.1 HP3.out).1; exact this, X3.out.size⟩)
  clear hb HP3 X3 hmk
  clear p0 p1 p2 p3 q0 q1 q2
  obtain ⟨gr, hgr⟩ : ∃ gr, w3.heap.size = gr := ⟨_, rfl⟩
  rw [hgr] at HR GP ⊢
  clear hgr
  generalize w3.alloc (.cells (madeCells #[.int .u8 0] (2 + n)) 5) = w4 at HP HQ X HR ⊢
  obtain ⟨p0, p1, p2, p3⟩ := cells4 HP.out
  obtain ⟨q0, q1, q2⟩ := cells3 HQ.out
  go_wp2_with (fail)
  clear p0 p1 p2 p3 q0 q1 q2
  go_loopw [8, 9] (fun v8 v9 wr => ∃ k : Nat, k ≤ 2 ∧ v8 = .int .i64 (sh num k) ∧ v9 = .int .i64 (2 - 1 - (k : Int)) ∧ Aside0 ((Kd.int .u8).R 5 wr gr (fun _ => True) (.slice (some ⟨gr, 0, none⟩) 2 (2 + n)) (st2 num k)) ∧ Aside0 (Below gr w4 wr)) (fun _ v9 _ => (intOf v9 + 1).toNat)
  case atStart => exact ⟨0, Nat.zero_le _, rfl, rfl, HR, ⟨Below.refl _ _⟩⟩
  case round =>
    obtain ⟨k, hk, rfl, rfl, HRk, HBk⟩ := hrel
    have hcase : k = 0 ∨ k = 1 ∨ k = 2 := by omega
    rcases hcase with rfl | rfl | rfl
    · have e9 : ((2 : Int) - 1 - ((0 : Nat) : Int)) = 1 := by decide
      rw [e9]
      have HS1 := Aside0.mk (show st2 num (0 + 1) = (st2 num 0).set 1 (sh num 0 % 256) from rfl)
      have hm0 : 0 ≤ sh num 0 := by simp only [sh]; omega
      have hm1 : sh num 0 < 4096 := by simp only [sh]; omega
      have HM8 := Aside0.mk (show sh num 0 / 256 = sh num (0 + 1) from by simp only [sh] <;> omega)
      generalize sh num 0 = m at hm0 hm1 HM8 HS1 ⊢
      obtain ⟨hcell, hfz⟩ := Kd.R_celln (0 : Int) HRk.out 1 (by decide) (by decide)
      rw [show ((1 : Int)).toNat = 1 from rfl] at hcell hfz
      clear e9
      go_wp2
      go_roundw
      case measure => simp [intOf]
      case rel => exact ⟨0 + 1, by omega, by rw [HM8.out], rfl, ⟨by rw [HS1.out]; exact Kd.R_putn HRk.out 1 (m % 256)⟩, ⟨Below.setCell HBk.out (Nat.le_refl _) _⟩⟩
    · have e9 : ((2 : Int) - 1 - ((1 : Nat) : Int)) = 0 := by decide
      rw [e9]
      have HS1 := Aside0.mk (show st2 num (1 + 1) = (st2 num 1).set 0 (sh num 1 % 256) from rfl)
      have hm0 : 0 ≤ sh num 1 := by simp only [sh]; omega
      have hm1 : sh num 1 < 4096 := by simp only [sh]; omega
      have HM8 := Aside0.mk (show sh num 1 / 256 = sh num (1 + 1) from by simp only [sh] <;> omega)
      generalize sh num 1 = m at hm0 hm1 HM8 HS1 ⊢
      obtain ⟨hcell, hfz⟩ := Kd.R_celln (0 : Int) HRk.out 0 (by decide) (by decide)
      rw [show ((0 : Int)).toNat = 0 from rfl] at hcell hfz
      clear e9
      go_wp2
      go_roundw
      case measure => simp [intOf]
      case rel => exact ⟨1 + 1, by omega, by rw [HM8.out], rfl, ⟨by rw [HS1.out]; exact Kd.R_putn HRk.out 0 (m % 256)⟩, ⟨Below.setCell HBk.out (Nat.le_refl _) _⟩⟩
    · have e9 : ((2 : Int) - 1 - ((2 : Nat) : Int)) = -1 := by decide
      rw [e9]
      clear e9
      have HPr := Aside0.mk ((HBk.out.block gp GP.out.1).trans HP.out)
      have XR := Aside0.mk (show Below w.heap.size w wr from X.out.trans (HBk.out.mono GP.out.2))
      have HXr := Aside0.mk (Kd.C_below HX.out XR.out)
      obtain ⟨p0, p1, p2, p3⟩ := cells4 HPr.out
      obtain ⟨c0, f0⟩ := Kd.R_celln (0 : Int) HRk.out 0 (by decide) (by decide)
      rw [show ((0 : Int)).toNat = 0 from rfl] at c0 f0
      have hx0 : rdOf (0 : Int) (st2 num 2) 0 = sh num 1 % 256 := rfl
      rw [hx0] at c0
      clear hx0
      have hst : st2 num 2 = [sh num 1 % 256, sh num 0 % 256] := rfl
      rw [hst] at HRk
      clear hst
      have hb0 : 0 ≤ sh num 1 % 256 ∧ sh num 1 % 256 < 16 := by simp only [sh]; omega
      have HH := Aside0.mk (show ∀ b e, head2 b e num = [top b e + sh num 1 % 256, sh num 0 % 256] from fun b e => by simp only [head2, sh, List.cons.injEq, and_true]; omega)
      have o1 := Aside0.mk (or128 _ hb0.1 hb0.2)
      have o2 := Aside0.mk (or64 _ hb0.1 hb0.2)
      have o3 := Aside0.mk (or192 _ hb0.1 hb0.2)
      clear hb0
      generalize sh num 1 % 256 = x0 at *
      generalize sh num 0 % 256 = x1 at *
      have GR := Aside0.mk GP.out.2
      cases b with
      | false =>
        cases e with
        | false =>
          have HF := Aside0.mk HRk.out
          have XF := Aside0.mk XR.out
          have HXF := Aside0.mk HXr.out
          go_upto_region 15 with (fail)
          clear c0 f0 p0 p1 p2
          go_wp2_with ((with_reducible refine gate_builtin (b := .append) (xs := #[.tmp 56, .tmp 58]) rfl ?_); at_builtin; refine Kd.R_append_rows (Kd.int .u8) (w0 := w) w.heap.size rfl (.tmp 56) (.tmp 58) 22 5 (.int .u8 0) 1 rfl Tryd.underlying22 info5 rfl (by decide) (by omega) (.slice (some ⟨gr, 0, none⟩) 2 (2 + n)) ([x0, x1]) xs A n c (fun _ => True) (fun _ => False) rfl rfl ?aO ?aR (fun _ _ h => h) (fun _ h => h.elim) ?aF ?aB ?aS ?aL ?_; (case aO => exact Kd.R_lower HF.out GR.out); (case aR => exact Kd.C_below HX.out XF.out); (case aB => exact XF.out); (case aF => exact fun _ _ => trivial); (case aS => exact XF.out.size); (case aL => have := HN.out; simp only [List.length_cons, List.length_nil, List.length_set]; omega); intro v5 w5 ho5 hb5 hg5 hat5; have HO5 := Aside0.mk ho5; have HB5 := Aside0.mk hb5; clear ho5 hb5 hg5 hat5)
          obtain ⟨A', c', rfl, hc', hC⟩ := Kd.R_reads HO5.out
          go_ret2
          have hxl : xs.length = n := HX.out.1
          have hh : [x0, x1] = head2 false false num := by rw [HH.out]; simp [top, o1.out, o2.out, o3.out]; try omega
          rw [hh] at hc' hC
          have hl2 : (head2 false false num ++ xs).length = 2 + n := by rw [List.length_append, hxl]; rfl
          rw [hl2] at hc' hC
          exact ⟨A', c', by simp [hxl]; try omega, hc', hC, HB5.out⟩
        | true =>
          have HF := Aside0.mk (Kd.R_putn HRk.out 0 (Go.bits .or .u8 x0 64))
          have XF := Aside0.mk (XR.out.setCell (p := ⟨gr, (0 : Int).toNat, none⟩) GR.out (.int .u8 (Go.bits .or .u8 x0 64)))
          go_upto_region 15 with (fail)
          clear c0 f0 p0 p1 p2
          go_wp2_with ((with_reducible refine gate_builtin (b := .append) (xs := #[.tmp 56, .tmp 58]) rfl ?_); at_builtin; refine Kd.R_append_rows (Kd.int .u8) (w0 := w) w.heap.size rfl (.tmp 56) (.tmp 58) 22 5 (.int .u8 0) 1 rfl Tryd.underlying22 info5 rfl (by decide) (by omega) (.slice (some ⟨gr, 0, none⟩) 2 (2 + n)) ([x0, x1].set (0 : Int).toNat (Go.bits .or .u8 x0 64)) xs A n c (fun _ => True) (fun _ => False) rfl rfl ?aO ?aR (fun _ _ h => h) (fun _ h => h.elim) ?aF ?aB ?aS ?aL ?_; (case aO => exact Kd.R_lower HF.out GR.out); (case aR => exact Kd.C_below HX.out XF.out); (case aB => exact XF.out); (case aF => exact fun _ _ => trivial); (case aS => exact XF.out.size); (case aL => have := HN.out; simp only [List.length_cons, List.length_nil, List.length_set]; omega); intro v5 w5 ho5 hb5 hg5 hat5; have HO5 := Aside0.mk ho5; have HB5 := Aside0.mk hb5; clear ho5 hb5 hg5 hat5)
          obtain ⟨A', c', rfl, hc', hC⟩ := Kd.R_reads HO5.out
          go_ret2
          have hxl : xs.length = n := HX.out.1
          have hh : [x0, x1].set (0 : Int).toNat (Go.bits .or .u8 x0 64) = head2 false true num := by rw [HH.out]; simp [top, o1.out, o2.out, o3.out]; try omega
          rw [hh] at hc' hC
          have hl2 : (head2 false true num ++ xs).length = 2 + n := by rw [List.length_append, hxl]; rfl
          rw [hl2] at hc' hC
          exact ⟨A', c', by simp [hxl]; try omega, hc', hC, HB5.out⟩
      | true =>
        cases e with
        | false =>
          have HF := Aside0.mk (Kd.R_putn HRk.out 0 (Go.bits .or .u8 x0 128))
          have XF := Aside0.mk (XR.out.setCell (p := ⟨gr, (0 : Int).toNat, none⟩) GR.out (.int .u8 (Go.bits .or .u8 x0 128)))
          go_upto_region 15 with (fail)
          clear c0 f0 p0 p1 p2
          go_wp2_with ((with_reducible refine gate_builtin (b := .append) (xs := #[.tmp 56, .tmp 58]) rfl ?_); at_builtin; refine Kd.R_append_rows (Kd.int .u8) (w0 := w) w.heap.size rfl (.tmp 56) (.tmp 58) 22 5 (.int .u8 0) 1 rfl Tryd.underlying22 info5 rfl (by decide) (by omega) (.slice (some ⟨gr, 0, none⟩) 2 (2 + n)) ([x0, x1].set (0 : Int).toNat (Go.bits .or .u8 x0 128)) xs A n c (fun _ => True) (fun _ => False) rfl rfl ?aO ?aR (fun _ _ h => h) (fun _ h => h.elim) ?aF ?aB ?aS ?aL ?_; (case aO => exact Kd.R_lower HF.out GR.out); (case aR => exact Kd.C_below HX.out XF.out); (case aB => exact XF.out); (case aF => exact fun _ _ => trivial); (case aS => exact XF.out.size); (case aL => have := HN.out; simp only [List.length_cons, List.length_nil, List.length_set]; omega); intro v5 w5 ho5 hb5 hg5 hat5; have HO5 := Aside0.mk ho5; have HB5 := Aside0.mk hb5; clear ho5 hb5 hg5 hat5)
          obtain ⟨A', c', rfl, hc', hC⟩ := Kd.R_reads HO5.out
          go_ret2
          have hxl : xs.length = n := HX.out.1
          have hh : [x0, x1].set (0 : Int).toNat (Go.bits .or .u8 x0 128) = head2 true false num := by rw [HH.out]; simp [top, o1.out, o2.out, o3.out]; try omega
          rw [hh] at hc' hC
          have hl2 : (head2 true false num ++ xs).length = 2 + n := by rw [List.length_append, hxl]; rfl
          rw [hl2] at hc' hC
          exact ⟨A', c', by simp [hxl]; try omega, hc', hC, HB5.out⟩
        | true =>
          have HF := Aside0.mk (Kd.R_putn (Kd.R_putn HRk.out 0 (Go.bits .or .u8 x0 128)) 0 (Go.bits .or .u8 (Go.bits .or .u8 x0 128) 64))
          have XF := Aside0.mk ((XR.out.setCell (p := ⟨gr, (0 : Int).toNat, none⟩) GR.out (.int .u8 (Go.bits .or .u8 x0 128))).setCell (p := ⟨gr, (0 : Int).toNat, none⟩) GR.out (.int .u8 (Go.bits .or .u8 (Go.bits .or .u8 x0 128) 64)))
          go_upto_region 15 with (fail)
          clear c0 f0 p0 p1 p2
          go_wp2_with ((with_reducible refine gate_builtin (b := .append) (xs := #[.tmp 56, .tmp 58]) rfl ?_); at_builtin; refine Kd.R_append_rows (Kd.int .u8) (w0 := w) w.heap.size rfl (.tmp 56) (.tmp 58) 22 5 (.int .u8 0) 1 rfl Tryd.underlying22 info5 rfl (by decide) (by omega) (.slice (some ⟨gr, 0, none⟩) 2 (2 + n)) (([x0, x1].set (0 : Int).toNat (Go.bits .or .u8 x0 128)).set (0 : Int).toNat (Go.bits .or .u8 (Go.bits .or .u8 x0 128) 64)) xs A n c (fun _ => True) (fun _ => False) rfl rfl ?aO ?aR (fun _ _ h => h) (fun _ h => h.elim) ?aF ?aB ?aS ?aL ?_; (case aO => exact Kd.R_lower HF.out GR.out); (case aR => exact Kd.C_below HX.out XF.out); (case aB => exact XF.out); (case aF => exact fun _ _ => trivial); (case aS => exact XF.out.size); (case aL => have := HN.out; simp only [List.length_cons, List.length_nil, List.length_set]; omega); intro v5 w5 ho5 hb5 hg5 hat5; have HO5 := Aside0.mk ho5; have HB5 := Aside0.mk hb5; clear ho5 hb5 hg5 hat5)
          obtain ⟨A', c', rfl, hc', hC⟩ := Kd.R_reads HO5.out
          go_ret2
          have hxl : xs.length = n := HX.out.1
          have hh : ([x0, x1].set (0 : Int).toNat (Go.bits .or .u8 x0 128)).set (0 : Int).toNat (Go.bits .or .u8 (Go.bits .or .u8 x0 128) 64) = head2 true true num := by rw [HH.out]; simp [top, o1.out, o2.out, o3.out]; try omega
          rw [hh] at hc' hC
          have hl2 : (head2 true true num ++ xs).length = 2 + n := by rw [List.length_append, hxl]; rfl
          rw [hl2] at hc' hC
          exact ⟨A', c', by simp [hxl]; try omega, hc', hC, HB5.out⟩

/-- A header's octets, as many as are written after k rounds. -/
def st4 (num : Int) : Nat → List Int
  | 0 => [0, 0, 0, 0]
  | 1 => [0, 0, 0, sh num 0 % 256]
  | 2 => [0, 0, sh num 1 % 256, sh num 0 % 256]
  | 3 => [0, sh num 2 % 256, sh num 1 % 256, sh num 0 % 256]
  | _ => [sh num 3 % 256, sh num 2 % 256, sh num 1 % 256, sh num 0 % 256]

set_option maxHeartbeats 2000000 in
set_option maxRecDepth 100000 in
theorem put4 (b e : Bool) (num : Int) (A : Option Addr) (n c : Nat) (xs : List Int) (w : World) (hS : Shapes w) (h0 : 0 ≤ num) (h1 : num < 16777216) (hx : (Kd.int .u8).C w A n xs) (hc : n ≤ c) (hn : n ≤ 100000) :
    Calls Tryd.prog 13 #[.bool false, pc b e num A n c] w fun e' w' => ∃ A' c', e' = .returned (.tuple #[.slice A' (4 + n) c', .int .i64 0]) ∧ 4 + n ≤ c' ∧ (Kd.int .u8).C w' A' (4 + n) (head4 b e num ++ xs) ∧ Below w.heap.size w w' := by
  have HS := Aside0.mk hS
  have HX := Aside0.mk hx
  have HC := Aside0.mk hc
  have HN := Aside0.mk hn
  have HM := Aside0.mk (show (n : Int) ≤ 100000 from by omega)
  clear hS hx hc hn
  have hinf := info_parts info5
  obtain ⟨i0, hi, hz, hz1, hz2⟩ := hinf
  go_enter Tryd.func13, Tryd.ntmps13
  go_wp2_with (fail)
  refine (of4 _ (HS.out.alloc _)).mono ?_
  rintro e1 w1 ⟨rfl, hb⟩
  have HP := Aside0.mk (blk_keep (new1 w (.cells #[.bool b, .bool e, .int .i64 num, .slice A n c] 29)) hb)
  have X := Aside0.mk (below_step (below_alloc (Below.refl _ w) (.cells #[.bool b, .bool e, .int .i64 num, .slice A n c] 29)) hb)
  clear hb
  obtain ⟨gp, hgp⟩ : ∃ gp, w.heap.size = gp := ⟨_, rfl⟩
  rw [hgp] at HP ⊢
  clear hgp
  go_upto_region 2 with (fail)
  have HQ := Aside0.mk (new1 w1 (.cells #[.int .i64 4, .int .i64 16777216, .int .u8 0] 91))
  have hb := below_alloc (Below.refl _ w1) (.cells #[.int .i64 4, .int .i64 16777216, .int .u8 0] 91)
  replace HP := Aside0.mk (blk_keep HP.out hb)
  replace X := Aside0.mk (below_step X.out hb)
  clear hb
  obtain ⟨gq, hgq⟩ : ∃ gq, w1.heap.size = gq := ⟨_, rfl⟩
  rw [hgq] at HQ ⊢
  clear hgq
  generalize w1.alloc (.cells #[.int .i64 4, .int .i64 16777216, .int .u8 0] 91) = w2 at HP HQ X ⊢
  obtain ⟨p0, p1, p2, p3⟩ := cells4 HP.out
  obtain ⟨q0, q1, q2⟩ := cells3 HQ.out
  go_wp2_with (fail)
  refine (has4 num _).mono ?_
  rintro e1 w3 ⟨rfl, hb⟩
  have hin : decide (0 ≤ num ∧ num < 16777216) = true := decide_eq_true ⟨h0, h1⟩
  rw [hin]
  clear hin p0 p1 p2 p3 q0 q1 q2
  replace HP := Aside0.mk (blk_keep HP.out hb)
  replace HQ := Aside0.mk (blk_keep HQ.out hb)
  replace X := Aside0.mk (below_step X.out hb)
  clear hb
  obtain ⟨p0, p1, p2, p3⟩ := cells4 HP.out
  obtain ⟨q0, q1, q2⟩ := cells3 HQ.out
  have hmk := fun W : World => run_make (P := Tryd.prog) W 22 5 i0 (.int .u8 0) Tryd.underlying22 hi hz .i64 .i64 4 (4 + n) (by omega) (by omega) (by rw [hz2]; have := HM.out; omega) (by have := HM.out; omega)
  rw [hz1] at hmk
  have HP3 := HP
  have X3 := X
  have hn0 : 0 ≤ (n : Int) := by omega
  have hn1 : (n : Int) ≤ 100000 := HM.out
  clear hi hz hz1 hz2
  go_upto_region 5 with (fail)
  have HR := Aside0.mk (made_row (W := w3) (m := 4) (c := 4 + n) (by omega) (by have := HN.out; unfold maxLen; omega))
  have hb := below_alloc (Below.refl _ w3) (.cells (madeCells #[.int .u8 0] (4 + n)) 5)
  replace HP := Aside0.mk (blk_keep HP.out hb)
  replace HQ := Aside0.mk (blk_keep HQ.out hb)
  replace X := Aside0.mk (below_step X.out hb)
  have GP := Aside0.mk (show gp < w3.heap.size ∧ w.heap.size ≤ w3.heap.size from ⟨by have := (Array.getElem?_eq_some_iff.1 HP3.out).1; exact this, X3.out.size⟩)
  clear hb HP3 X3 hmk
  clear p0 p1 p2 p3 q0 q1 q2
  obtain ⟨gr, hgr⟩ : ∃ gr, w3.heap.size = gr := ⟨_, rfl⟩
  rw [hgr] at HR GP ⊢
  clear hgr
  generalize w3.alloc (.cells (madeCells #[.int .u8 0] (4 + n)) 5) = w4 at HP HQ X HR ⊢
  obtain ⟨p0, p1, p2, p3⟩ := cells4 HP.out
  obtain ⟨q0, q1, q2⟩ := cells3 HQ.out
  go_wp2_with (fail)
  clear p0 p1 p2 p3 q0 q1 q2
  go_loopw [8, 9] (fun v8 v9 wr => ∃ k : Nat, k ≤ 4 ∧ v8 = .int .i64 (sh num k) ∧ v9 = .int .i64 (4 - 1 - (k : Int)) ∧ Aside0 ((Kd.int .u8).R 5 wr gr (fun _ => True) (.slice (some ⟨gr, 0, none⟩) 4 (4 + n)) (st4 num k)) ∧ Aside0 (Below gr w4 wr)) (fun _ v9 _ => (intOf v9 + 1).toNat)
  case atStart => exact ⟨0, Nat.zero_le _, rfl, rfl, HR, ⟨Below.refl _ _⟩⟩
  case round =>
    obtain ⟨k, hk, rfl, rfl, HRk, HBk⟩ := hrel
    have hcase : k = 0 ∨ k = 1 ∨ k = 2 ∨ k = 3 ∨ k = 4 := by omega
    rcases hcase with rfl | rfl | rfl | rfl | rfl
    · have e9 : ((4 : Int) - 1 - ((0 : Nat) : Int)) = 3 := by decide
      rw [e9]
      have HS1 := Aside0.mk (show st4 num (0 + 1) = (st4 num 0).set 3 (sh num 0 % 256) from rfl)
      have hm0 : 0 ≤ sh num 0 := by simp only [sh]; omega
      have hm1 : sh num 0 < 16777216 := by simp only [sh]; omega
      have HM8 := Aside0.mk (show sh num 0 / 256 = sh num (0 + 1) from by simp only [sh] <;> omega)
      generalize sh num 0 = m at hm0 hm1 HM8 HS1 ⊢
      obtain ⟨hcell, hfz⟩ := Kd.R_celln (0 : Int) HRk.out 3 (by decide) (by decide)
      rw [show ((3 : Int)).toNat = 3 from rfl] at hcell hfz
      clear e9
      go_wp2
      go_roundw
      case measure => simp [intOf]
      case rel => exact ⟨0 + 1, by omega, by rw [HM8.out], rfl, ⟨by rw [HS1.out]; exact Kd.R_putn HRk.out 3 (m % 256)⟩, ⟨Below.setCell HBk.out (Nat.le_refl _) _⟩⟩
    · have e9 : ((4 : Int) - 1 - ((1 : Nat) : Int)) = 2 := by decide
      rw [e9]
      have HS1 := Aside0.mk (show st4 num (1 + 1) = (st4 num 1).set 2 (sh num 1 % 256) from rfl)
      have hm0 : 0 ≤ sh num 1 := by simp only [sh]; omega
      have hm1 : sh num 1 < 16777216 := by simp only [sh]; omega
      have HM8 := Aside0.mk (show sh num 1 / 256 = sh num (1 + 1) from by simp only [sh] <;> omega)
      generalize sh num 1 = m at hm0 hm1 HM8 HS1 ⊢
      obtain ⟨hcell, hfz⟩ := Kd.R_celln (0 : Int) HRk.out 2 (by decide) (by decide)
      rw [show ((2 : Int)).toNat = 2 from rfl] at hcell hfz
      clear e9
      go_wp2
      go_roundw
      case measure => simp [intOf]
      case rel => exact ⟨1 + 1, by omega, by rw [HM8.out], rfl, ⟨by rw [HS1.out]; exact Kd.R_putn HRk.out 2 (m % 256)⟩, ⟨Below.setCell HBk.out (Nat.le_refl _) _⟩⟩
    · have e9 : ((4 : Int) - 1 - ((2 : Nat) : Int)) = 1 := by decide
      rw [e9]
      have HS1 := Aside0.mk (show st4 num (2 + 1) = (st4 num 2).set 1 (sh num 2 % 256) from rfl)
      have hm0 : 0 ≤ sh num 2 := by simp only [sh]; omega
      have hm1 : sh num 2 < 16777216 := by simp only [sh]; omega
      have HM8 := Aside0.mk (show sh num 2 / 256 = sh num (2 + 1) from by simp only [sh] <;> omega)
      generalize sh num 2 = m at hm0 hm1 HM8 HS1 ⊢
      obtain ⟨hcell, hfz⟩ := Kd.R_celln (0 : Int) HRk.out 1 (by decide) (by decide)
      rw [show ((1 : Int)).toNat = 1 from rfl] at hcell hfz
      clear e9
      go_wp2
      go_roundw
      case measure => simp [intOf]
      case rel => exact ⟨2 + 1, by omega, by rw [HM8.out], rfl, ⟨by rw [HS1.out]; exact Kd.R_putn HRk.out 1 (m % 256)⟩, ⟨Below.setCell HBk.out (Nat.le_refl _) _⟩⟩
    · have e9 : ((4 : Int) - 1 - ((3 : Nat) : Int)) = 0 := by decide
      rw [e9]
      have HS1 := Aside0.mk (show st4 num (3 + 1) = (st4 num 3).set 0 (sh num 3 % 256) from rfl)
      have hm0 : 0 ≤ sh num 3 := by simp only [sh]; omega
      have hm1 : sh num 3 < 16777216 := by simp only [sh]; omega
      have HM8 := Aside0.mk (show sh num 3 / 256 = sh num (3 + 1) from by simp only [sh] <;> omega)
      generalize sh num 3 = m at hm0 hm1 HM8 HS1 ⊢
      obtain ⟨hcell, hfz⟩ := Kd.R_celln (0 : Int) HRk.out 0 (by decide) (by decide)
      rw [show ((0 : Int)).toNat = 0 from rfl] at hcell hfz
      clear e9
      go_wp2
      go_roundw
      case measure => simp [intOf]
      case rel => exact ⟨3 + 1, by omega, by rw [HM8.out], rfl, ⟨by rw [HS1.out]; exact Kd.R_putn HRk.out 0 (m % 256)⟩, ⟨Below.setCell HBk.out (Nat.le_refl _) _⟩⟩
    · have e9 : ((4 : Int) - 1 - ((4 : Nat) : Int)) = -1 := by decide
      rw [e9]
      clear e9
      have HPr := Aside0.mk ((HBk.out.block gp GP.out.1).trans HP.out)
      have XR := Aside0.mk (show Below w.heap.size w wr from X.out.trans (HBk.out.mono GP.out.2))
      have HXr := Aside0.mk (Kd.C_below HX.out XR.out)
      obtain ⟨p0, p1, p2, p3⟩ := cells4 HPr.out
      obtain ⟨c0, f0⟩ := Kd.R_celln (0 : Int) HRk.out 0 (by decide) (by decide)
      rw [show ((0 : Int)).toNat = 0 from rfl] at c0 f0
      have hx0 : rdOf (0 : Int) (st4 num 4) 0 = sh num 3 % 256 := rfl
      rw [hx0] at c0
      clear hx0
      have hst : st4 num 4 = [sh num 3 % 256, sh num 2 % 256, sh num 1 % 256, sh num 0 % 256] := rfl
      rw [hst] at HRk
      clear hst
      have hb0 : 0 ≤ sh num 3 % 256 ∧ sh num 3 % 256 < 16 := by simp only [sh]; omega
      have HH := Aside0.mk (show ∀ b e, head4 b e num = [top b e + sh num 3 % 256, sh num 2 % 256, sh num 1 % 256, sh num 0 % 256] from fun b e => by simp only [head4, sh, List.cons.injEq, and_true]; omega)
      have o1 := Aside0.mk (or128 _ hb0.1 hb0.2)
      have o2 := Aside0.mk (or64 _ hb0.1 hb0.2)
      have o3 := Aside0.mk (or192 _ hb0.1 hb0.2)
      clear hb0
      generalize sh num 3 % 256 = x0 at *
      generalize sh num 2 % 256 = x1 at *
      generalize sh num 1 % 256 = x2 at *
      generalize sh num 0 % 256 = x3 at *
      have GR := Aside0.mk GP.out.2
      cases b with
      | false =>
        cases e with
        | false =>
          have HF := Aside0.mk HRk.out
          have XF := Aside0.mk XR.out
          have HXF := Aside0.mk HXr.out
          go_upto_region 15 with (fail)
          clear c0 f0 p0 p1 p2
          go_wp2_with ((with_reducible refine gate_builtin (b := .append) (xs := #[.tmp 56, .tmp 58]) rfl ?_); at_builtin; refine Kd.R_append_rows (Kd.int .u8) (w0 := w) w.heap.size rfl (.tmp 56) (.tmp 58) 22 5 (.int .u8 0) 1 rfl Tryd.underlying22 info5 rfl (by decide) (by omega) (.slice (some ⟨gr, 0, none⟩) 4 (4 + n)) ([x0, x1, x2, x3]) xs A n c (fun _ => True) (fun _ => False) rfl rfl ?aO ?aR (fun _ _ h => h) (fun _ h => h.elim) ?aF ?aB ?aS ?aL ?_; (case aO => exact Kd.R_lower HF.out GR.out); (case aR => exact Kd.C_below HX.out XF.out); (case aB => exact XF.out); (case aF => exact fun _ _ => trivial); (case aS => exact XF.out.size); (case aL => have := HN.out; simp only [List.length_cons, List.length_nil, List.length_set]; omega); intro v5 w5 ho5 hb5 hg5 hat5; have HO5 := Aside0.mk ho5; have HB5 := Aside0.mk hb5; clear ho5 hb5 hg5 hat5)
          obtain ⟨A', c', rfl, hc', hC⟩ := Kd.R_reads HO5.out
          go_ret2
          have hxl : xs.length = n := HX.out.1
          have hh : [x0, x1, x2, x3] = head4 false false num := by rw [HH.out]; simp [top, o1.out, o2.out, o3.out]; try omega
          rw [hh] at hc' hC
          have hl2 : (head4 false false num ++ xs).length = 4 + n := by rw [List.length_append, hxl]; rfl
          rw [hl2] at hc' hC
          exact ⟨A', c', by simp [hxl]; try omega, hc', hC, HB5.out⟩
        | true =>
          have HF := Aside0.mk (Kd.R_putn HRk.out 0 (Go.bits .or .u8 x0 64))
          have XF := Aside0.mk (XR.out.setCell (p := ⟨gr, (0 : Int).toNat, none⟩) GR.out (.int .u8 (Go.bits .or .u8 x0 64)))
          go_upto_region 15 with (fail)
          clear c0 f0 p0 p1 p2
          go_wp2_with ((with_reducible refine gate_builtin (b := .append) (xs := #[.tmp 56, .tmp 58]) rfl ?_); at_builtin; refine Kd.R_append_rows (Kd.int .u8) (w0 := w) w.heap.size rfl (.tmp 56) (.tmp 58) 22 5 (.int .u8 0) 1 rfl Tryd.underlying22 info5 rfl (by decide) (by omega) (.slice (some ⟨gr, 0, none⟩) 4 (4 + n)) ([x0, x1, x2, x3].set (0 : Int).toNat (Go.bits .or .u8 x0 64)) xs A n c (fun _ => True) (fun _ => False) rfl rfl ?aO ?aR (fun _ _ h => h) (fun _ h => h.elim) ?aF ?aB ?aS ?aL ?_; (case aO => exact Kd.R_lower HF.out GR.out); (case aR => exact Kd.C_below HX.out XF.out); (case aB => exact XF.out); (case aF => exact fun _ _ => trivial); (case aS => exact XF.out.size); (case aL => have := HN.out; simp only [List.length_cons, List.length_nil, List.length_set]; omega); intro v5 w5 ho5 hb5 hg5 hat5; have HO5 := Aside0.mk ho5; have HB5 := Aside0.mk hb5; clear ho5 hb5 hg5 hat5)
          obtain ⟨A', c', rfl, hc', hC⟩ := Kd.R_reads HO5.out
          go_ret2
          have hxl : xs.length = n := HX.out.1
          have hh : [x0, x1, x2, x3].set (0 : Int).toNat (Go.bits .or .u8 x0 64) = head4 false true num := by rw [HH.out]; simp [top, o1.out, o2.out, o3.out]; try omega
          rw [hh] at hc' hC
          have hl2 : (head4 false true num ++ xs).length = 4 + n := by rw [List.length_append, hxl]; rfl
          rw [hl2] at hc' hC
          exact ⟨A', c', by simp [hxl]; try omega, hc', hC, HB5.out⟩
      | true =>
        cases e with
        | false =>
          have HF := Aside0.mk (Kd.R_putn HRk.out 0 (Go.bits .or .u8 x0 128))
          have XF := Aside0.mk (XR.out.setCell (p := ⟨gr, (0 : Int).toNat, none⟩) GR.out (.int .u8 (Go.bits .or .u8 x0 128)))
          go_upto_region 15 with (fail)
          clear c0 f0 p0 p1 p2
          go_wp2_with ((with_reducible refine gate_builtin (b := .append) (xs := #[.tmp 56, .tmp 58]) rfl ?_); at_builtin; refine Kd.R_append_rows (Kd.int .u8) (w0 := w) w.heap.size rfl (.tmp 56) (.tmp 58) 22 5 (.int .u8 0) 1 rfl Tryd.underlying22 info5 rfl (by decide) (by omega) (.slice (some ⟨gr, 0, none⟩) 4 (4 + n)) ([x0, x1, x2, x3].set (0 : Int).toNat (Go.bits .or .u8 x0 128)) xs A n c (fun _ => True) (fun _ => False) rfl rfl ?aO ?aR (fun _ _ h => h) (fun _ h => h.elim) ?aF ?aB ?aS ?aL ?_; (case aO => exact Kd.R_lower HF.out GR.out); (case aR => exact Kd.C_below HX.out XF.out); (case aB => exact XF.out); (case aF => exact fun _ _ => trivial); (case aS => exact XF.out.size); (case aL => have := HN.out; simp only [List.length_cons, List.length_nil, List.length_set]; omega); intro v5 w5 ho5 hb5 hg5 hat5; have HO5 := Aside0.mk ho5; have HB5 := Aside0.mk hb5; clear ho5 hb5 hg5 hat5)
          obtain ⟨A', c', rfl, hc', hC⟩ := Kd.R_reads HO5.out
          go_ret2
          have hxl : xs.length = n := HX.out.1
          have hh : [x0, x1, x2, x3].set (0 : Int).toNat (Go.bits .or .u8 x0 128) = head4 true false num := by rw [HH.out]; simp [top, o1.out, o2.out, o3.out]; try omega
          rw [hh] at hc' hC
          have hl2 : (head4 true false num ++ xs).length = 4 + n := by rw [List.length_append, hxl]; rfl
          rw [hl2] at hc' hC
          exact ⟨A', c', by simp [hxl]; try omega, hc', hC, HB5.out⟩
        | true =>
          have HF := Aside0.mk (Kd.R_putn (Kd.R_putn HRk.out 0 (Go.bits .or .u8 x0 128)) 0 (Go.bits .or .u8 (Go.bits .or .u8 x0 128) 64))
          have XF := Aside0.mk ((XR.out.setCell (p := ⟨gr, (0 : Int).toNat, none⟩) GR.out (.int .u8 (Go.bits .or .u8 x0 128))).setCell (p := ⟨gr, (0 : Int).toNat, none⟩) GR.out (.int .u8 (Go.bits .or .u8 (Go.bits .or .u8 x0 128) 64)))
          go_upto_region 15 with (fail)
          clear c0 f0 p0 p1 p2
          go_wp2_with ((with_reducible refine gate_builtin (b := .append) (xs := #[.tmp 56, .tmp 58]) rfl ?_); at_builtin; refine Kd.R_append_rows (Kd.int .u8) (w0 := w) w.heap.size rfl (.tmp 56) (.tmp 58) 22 5 (.int .u8 0) 1 rfl Tryd.underlying22 info5 rfl (by decide) (by omega) (.slice (some ⟨gr, 0, none⟩) 4 (4 + n)) (([x0, x1, x2, x3].set (0 : Int).toNat (Go.bits .or .u8 x0 128)).set (0 : Int).toNat (Go.bits .or .u8 (Go.bits .or .u8 x0 128) 64)) xs A n c (fun _ => True) (fun _ => False) rfl rfl ?aO ?aR (fun _ _ h => h) (fun _ h => h.elim) ?aF ?aB ?aS ?aL ?_; (case aO => exact Kd.R_lower HF.out GR.out); (case aR => exact Kd.C_below HX.out XF.out); (case aB => exact XF.out); (case aF => exact fun _ _ => trivial); (case aS => exact XF.out.size); (case aL => have := HN.out; simp only [List.length_cons, List.length_nil, List.length_set]; omega); intro v5 w5 ho5 hb5 hg5 hat5; have HO5 := Aside0.mk ho5; have HB5 := Aside0.mk hb5; clear ho5 hb5 hg5 hat5)
          obtain ⟨A', c', rfl, hc', hC⟩ := Kd.R_reads HO5.out
          go_ret2
          have hxl : xs.length = n := HX.out.1
          have hh : ([x0, x1, x2, x3].set (0 : Int).toNat (Go.bits .or .u8 x0 128)).set (0 : Int).toNat (Go.bits .or .u8 (Go.bits .or .u8 x0 128) 64) = head4 true true num := by rw [HH.out]; simp [top, o1.out, o2.out, o3.out]; try omega
          rw [hh] at hc' hC
          have hl2 : (head4 true true num ++ xs).length = 4 + n := by rw [List.length_append, hxl]; rfl
          rw [hl2] at hc' hC
          exact ⟨A', c', by simp [hxl]; try omega, hc', hC, HB5.out⟩

set_option maxHeartbeats 2000000 in
set_option maxRecDepth 100000 in
theorem put_no2 (b e : Bool) (num : Int) (A : Option Addr) (n c : Nat) (w : World) (hS : Shapes w) (h : ¬ (0 ≤ num ∧ num < 4096)) :
    Calls Tryd.prog 13 #[.bool true, pc b e num A n c] w fun e' w' => e' = .returned (.tuple #[.slice none 0 0, .int .i64 5]) ∧ Below w.heap.size w w' := by
  have HS := Aside0.mk hS
  have HH := Aside0.mk h
  clear hS h
  go_enter Tryd.func13, Tryd.ntmps13
  go_wp2_with (fail)
  refine (of2 _ (HS.out.alloc _)).mono ?_
  rintro e1 w1 ⟨rfl, hb⟩
  have HP := Aside0.mk (blk_keep (new1 w (.cells #[.bool b, .bool e, .int .i64 num, .slice A n c] 29)) hb)
  have X := Aside0.mk (below_step (below_alloc (Below.refl _ w) (.cells #[.bool b, .bool e, .int .i64 num, .slice A n c] 29)) hb)
  clear hb
  obtain ⟨gp, hgp⟩ : ∃ gp, w.heap.size = gp := ⟨_, rfl⟩
  rw [hgp] at HP ⊢
  clear hgp
  go_upto_region 2 with (fail)
  have HQ := Aside0.mk (new1 w1 (.cells #[.int .i64 2, .int .i64 4096, .int .u8 15] 91))
  have hb := below_alloc (Below.refl _ w1) (.cells #[.int .i64 2, .int .i64 4096, .int .u8 15] 91)
  replace HP := Aside0.mk (blk_keep HP.out hb)
  replace X := Aside0.mk (below_step X.out hb)
  clear hb
  obtain ⟨gq, hgq⟩ : ∃ gq, w1.heap.size = gq := ⟨_, rfl⟩
  rw [hgq] at HQ ⊢
  clear hgq
  generalize w1.alloc (.cells #[.int .i64 2, .int .i64 4096, .int .u8 15] 91) = w2 at HP HQ X ⊢
  obtain ⟨p0, p1, p2, p3⟩ := cells4 HP.out
  obtain ⟨q0, q1, q2⟩ := cells3 HQ.out
  go_wp2_with (fail)
  refine (has2 num _).mono ?_
  rintro e1 w3 ⟨rfl, hb⟩
  have hin : decide (0 ≤ num ∧ num < 4096) = false := decide_eq_false HH.out
  rw [hin]
  clear hin p0 p1 p2 p3 q0 q1 q2
  replace X := Aside0.mk (below_step X.out hb)
  clear hb
  go_wp2
  go_ret2
  exact ⟨rfl, X.out⟩

set_option maxHeartbeats 2000000 in
set_option maxRecDepth 100000 in
theorem put_no4 (b e : Bool) (num : Int) (A : Option Addr) (n c : Nat) (w : World) (hS : Shapes w) (h : ¬ (0 ≤ num ∧ num < 16777216)) :
    Calls Tryd.prog 13 #[.bool false, pc b e num A n c] w fun e' w' => e' = .returned (.tuple #[.slice none 0 0, .int .i64 5]) ∧ Below w.heap.size w w' := by
  have HS := Aside0.mk hS
  have HH := Aside0.mk h
  clear hS h
  go_enter Tryd.func13, Tryd.ntmps13
  go_wp2_with (fail)
  refine (of4 _ (HS.out.alloc _)).mono ?_
  rintro e1 w1 ⟨rfl, hb⟩
  have HP := Aside0.mk (blk_keep (new1 w (.cells #[.bool b, .bool e, .int .i64 num, .slice A n c] 29)) hb)
  have X := Aside0.mk (below_step (below_alloc (Below.refl _ w) (.cells #[.bool b, .bool e, .int .i64 num, .slice A n c] 29)) hb)
  clear hb
  obtain ⟨gp, hgp⟩ : ∃ gp, w.heap.size = gp := ⟨_, rfl⟩
  rw [hgp] at HP ⊢
  clear hgp
  go_upto_region 2 with (fail)
  have HQ := Aside0.mk (new1 w1 (.cells #[.int .i64 4, .int .i64 16777216, .int .u8 0] 91))
  have hb := below_alloc (Below.refl _ w1) (.cells #[.int .i64 4, .int .i64 16777216, .int .u8 0] 91)
  replace HP := Aside0.mk (blk_keep HP.out hb)
  replace X := Aside0.mk (below_step X.out hb)
  clear hb
  obtain ⟨gq, hgq⟩ : ∃ gq, w1.heap.size = gq := ⟨_, rfl⟩
  rw [hgq] at HQ ⊢
  clear hgq
  generalize w1.alloc (.cells #[.int .i64 4, .int .i64 16777216, .int .u8 0] 91) = w2 at HP HQ X ⊢
  obtain ⟨p0, p1, p2, p3⟩ := cells4 HP.out
  obtain ⟨q0, q1, q2⟩ := cells3 HQ.out
  go_wp2_with (fail)
  refine (has4 num _).mono ?_
  rintro e1 w3 ⟨rfl, hb⟩
  have hin : decide (0 ≤ num ∧ num < 16777216) = false := decide_eq_false HH.out
  rw [hin]
  clear hin p0 p1 p2 p3 q0 q1 q2
  replace X := Aside0.mk (below_step X.out hb)
  clear hb
  go_wp2
  go_ret2
  exact ⟨rfl, X.out⟩

/-- A piece's octets: the header, and what stands behind it. -/
def putB (short b e : Bool) (num : Int) (xs : List Int) : List Int := (if short then head2 b e num else head4 b e num) ++ xs
def wide (short : Bool) : Nat := if short then 2 else 4
theorem put_yes (short b e : Bool) (num : Int) (A : Option Addr) (n c : Nat) (xs : List Int) (w : World) (hS : Shapes w) (h0 : 0 ≤ num) (h1 : num < numbers short) (hx : (Kd.int .u8).C w A n xs) (hc : n ≤ c) (hn : n ≤ 100000) :
    Calls Tryd.prog 13 #[.bool short, pc b e num A n c] w fun e' w' => ∃ A' c', e' = .returned (.tuple #[.slice A' (wide short + n) c', .int .i64 0]) ∧ wide short + n ≤ c' ∧ (Kd.int .u8).C w' A' (wide short + n) (putB short b e num xs) ∧ Below w.heap.size w w' := by
  cases short with
  | true => exact put2 b e num A n c xs w hS h0 h1 hx hc hn
  | false => exact put4 b e num A n c xs w hS h0 h1 hx hc hn
theorem put_no (short b e : Bool) (num : Int) (A : Option Addr) (n c : Nat) (w : World) (hS : Shapes w) (h : ¬ (0 ≤ num ∧ num < numbers short)) :
    Calls Tryd.prog 13 #[.bool short, pc b e num A n c] w fun e' w' => e' = .returned (.tuple #[.slice none 0 0, .int .i64 5]) ∧ Below w.heap.size w w' := by
  cases short with
  | true => exact put_no2 b e num A n c w hS h
  | false => exact put_no4 b e num A n c w hS h

end Go.Proofs.YtgopklnfdlnojaaDoor.Gp
