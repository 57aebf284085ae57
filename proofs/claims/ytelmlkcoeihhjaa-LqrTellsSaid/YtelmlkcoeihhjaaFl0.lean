import Derived.Test.YtelmlkcoeihhjaaProg
import Derived.Below
import Derived.Deep.Draws
import Derived.Deep.AppendLies
import Derived.Maps.AppendAt
import Derived.OwnWalk
import Derived.Laws.BytesArg
import Derived.Laws.MakeOwn
import Derived.Laws.OwnMore
import Derived.Deep.OwnRows
import Derived.Tactics
import Derived.Lib.ConvBytes
import Derived.Laws.Slices
import Derived.WalkKit
import Derived.KernelRfl
import Derived.RowKit3
import Derived.Deep.LoopGhost
import Derived.Deep.QuietTactic
import Derived.BigQuiet
import Derived.WideLaws
import Derived.Deep.DeepCutAuto
import Derived.Deep.CutBlock
import Derived.Deep.RegionHeld3
import Derived.Laws.Rows
import Derived.Lib.AppendStr
import Derived.ArgAppend
import Derived.Laws.IdiomCopy
import Derived.OrdersHeld
import Derived.Laws.BitsLemmas
import Derived.RowKit
import Derived.Test.YtelmlkcoeihhjaaWWords
import Derived.Test.YtelmlkcoeihhjaaWLast
import Derived.Test.YtelmlkcoeihhjaaWTab
import Derived.Test.YtelmlkcoeihhjaaWFour
import Derived.Test.YtelmlkcoeihhjaaWQPut
import Derived.Test.YtelmlkcoeihhjaaWApart
import Derived.Test.YtelmlkcoeihhjaaWArr
import Derived.Test.YtelmlkcoeihhjaaWZeros
import Derived.Test.YtelmlkcoeihhjaaWFoot
import Derived.Test.YtelmlkcoeihhjaaWKept
import Derived.Test.YtelmlkcoeihhjaaWShare
import Derived.Test.YtelmlkcoeihhjaaWN
import Derived.Test.YtelmlkcoeihhjaaWFootNe
import Derived.Test.YtelmlkcoeihhjaaWAt
import Derived.Test.YtelmlkcoeihhjaaWEqStruct
import Derived.Test.YtelmlkcoeihhjaaWRepsOne
import Derived.Test.YtelmlkcoeihhjaaWInv
import Derived.Test.YtelmlkcoeihhjaaWInvWords
import Derived.Test.YtelmlkcoeihhjaaWGuard
import Derived.Test.YtelmlkcoeihhjaaWNEv
import Derived.Test.YtelmlkcoeihhjaaWMore
namespace Go.Proofs.Ytelmlkcoeihhjaa.Fl
open Go.RowKit Go.Proofs.YtelmlkcoeihhjaaW.PrintWords Go.Proofs.YtelmlkcoeihhjaaW.PrintLast Go.Proofs.YtelmlkcoeihhjaaW.PrintMore
attribute [local go_sem] max2_int min2_int max_two min_two max_three min_three max_four min_four   -- for this text's walks alone
set_option linter.unusedVariables false
set_option linter.unusedSimpArgs false



def errW : Option Int → Value
  | none => .nilIface
  | some c => .iface 0 (.int .i64 c)
theorem errW_none : errW none = .nilIface := rfl
theorem errW_some (c : Int) : errW (some c) = .iface 0 (.int .i64 c) := rfl

theorem info5 : (Try.prog.info? 5).map (fun i => (i.zero, i.size, i.bytes)) = some (some (.int .u8 0), 1, 1) := by kernel_rfl
theorem info29 : (Try.prog.info? 29).map (fun i => (i.zero, i.size, i.bytes)) = some (some (.int .u32 0), 1, 4) := by kernel_rfl
theorem info79 : (Try.prog.info? 79).map (fun i => (i.zero, i.size, i.bytes)) = some (some (.agg #[(.int .u8 0), (.slice none 0 0)]), 2, 32) := by kernel_rfl
theorem info80 : (Try.prog.info? 80).map (fun i => (i.zero, i.size, i.bytes)) = some (some (.agg #[(.int .u8 0), (.slice none 0 0)]), 2, 32) := by kernel_rfl
-- the values' own types
def rd_L1 (xs : List (List Int)) (i : Int) : (List Int) := xs.getD i.toNat ([] : List Int)
theorem at_L1 {w : World} {A : Option Addr} {n : Nat} {xs : List (List Int)} (h : Kd.C (Kd.slice 5 (Kd.int .u8)) w A n xs) (i : Int) (h0 : 0 ≤ i) (h1 : i < n) : ∃ ad A0 c0, A = some ad ∧ w.cell? (ad.add i.toNat) = some (.slice A0 (rd_L1 xs i).length c0) ∧ (rd_L1 xs i).length ≤ c0 ∧ (Kd.int .u8).C w A0 (rd_L1 xs i).length (rd_L1 xs i) := by
  obtain ⟨ad, c, e, _, hK, hc0⟩ := Kd.C_get h ([] : List Int) i h0 h1
  have hc : ∀ j u, c[j]? = some u → w.cell? (ad.add (i.toNat * 1 + j)) = some u := hc0
  obtain ⟨A0, c0, rfl, l0, g0⟩ := hK
  exact ⟨ad, A0, c0, e, by have hq := hc 0 _ rfl; rwa [Nat.mul_one, Nat.add_zero] at hq, l0, g0⟩

/-! #### struct type 80 -/
structure S80 where
  f0 : Int
  f1 : (List Int)
def z80 : S80 := ⟨(0 : Int), ([] : List Int)⟩
def k80 : Kd S80 := Kd.iso (Kd.pair (Kd.int .u8) (Kd.slice 5 (Kd.int .u8))) (fun x : S80 => (x.f0, x.f1))
theorem k80_open {w : World} {x : S80} {cs : List Value} (h : k80.K w x cs) : ∃ A1 c1, cs = [.int .u8 x.f0, .slice A1 x.f1.length c1] ∧ x.f1.length ≤ c1 ∧ (Kd.int .u8).C w A1 x.f1.length x.f1 := by
  obtain ⟨_, _, rfl, rfl, ⟨A1, c1, rfl, l1, g1⟩⟩ := h
  exact ⟨A1, c1, rfl, l1, g1⟩
theorem k80_openM {w : World} {base : Nat} {ok : Nat → Prop} {x : S80} {cs : List Value} (h : k80.M w base ok x cs) : ∃ v1, cs = [.int .u8 x.f0, v1] ∧ (Kd.int .u8).R 5 w base ok v1 x.f1 := by
  obtain ⟨_, _, rfl, rfl, ⟨v1, rfl, g1⟩⟩ := h
  exact ⟨v1, rfl, g1⟩
theorem k80_mk (w : World) (x : S80) {A1 : Option Addr} {c1 : Nat} (l1 : x.f1.length ≤ c1) (g1 : (Kd.int .u8).C w A1 x.f1.length x.f1) : k80.K w x [.int .u8 x.f0, .slice A1 x.f1.length c1] := ⟨[.int .u8 x.f0], [.slice A1 x.f1.length c1], rfl, rfl, ⟨A1, c1, rfl, l1, g1⟩⟩
theorem k80_mkM (w : World) (base : Nat) (ok : Nat → Prop) (x : S80) {v1 : Value} (g1 : (Kd.int .u8).R 5 w base ok v1 x.f1) : k80.M w base ok x [.int .u8 x.f0, v1] := ⟨[.int .u8 x.f0], [v1], rfl, rfl, ⟨v1, rfl, g1⟩⟩
theorem k80_openF {W : World} {ok : Nat → Prop} {x : S80} {cs : List Value} (h : Kd.FK k80 W ok x cs) : ∃ A1 c1, cs = [.int .u8 x.f0, .slice A1 x.f1.length c1] ∧ x.f1.length ≤ c1 ∧ Kd.F (Kd.int .u8) W ok A1 x.f1.length x.f1 := by
  obtain ⟨A1, c1, rfl, l1, _⟩ := k80_open (Kd.FK_now h)
  exact ⟨A1, c1, rfl, l1, (fun W' hW => by obtain ⟨A1_, c1_, he, l1_, g1_⟩ := k80_open (h W' hW); injection (Option.some.inj (show some (Value.slice A1 x.f1.length c1) = some (Value.slice A1_ x.f1.length c1_) from congrArg (fun l => l[1]?) he)) with ha_ _ _; rw [ha_]; exact g1_)⟩
theorem k80_mkF (W : World) (ok : Nat → Prop) (x : S80) {A1 : Option Addr} {c1 : Nat} (l1 : x.f1.length ≤ c1) (g1 : Kd.F (Kd.int .u8) W ok A1 x.f1.length x.f1) : Kd.FK k80 W ok x [.int .u8 x.f0, .slice A1 x.f1.length c1] := fun W2 hW => k80_mk W2 x l1 (g1 W2 hW)
def rd_T80 (xs : List S80) (i : Int) : S80 := xs.getD i.toNat z80
theorem at_T80 {w : World} {A : Option Addr} {n : Nat} {xs : List S80} (h : Kd.C k80 w A n xs) (i : Int) (h0 : 0 ≤ i) (h1 : i < n) : ∃ ad A1 c1, A = some ad ∧ w.cell? (ad.add (i.toNat * 2)) = some (.int .u8 (rd_T80 xs i).f0) ∧ w.cell? ⟨(ad.add (i.toNat * 2)).block, (ad.add (i.toNat * 2)).off + 1, none⟩ = some (.slice A1 (rd_T80 xs i).f1.length c1) ∧ (rd_T80 xs i).f1.length ≤ c1 ∧ (Kd.int .u8).C w A1 (rd_T80 xs i).f1.length (rd_T80 xs i).f1 := by
  obtain ⟨ad, c, e, _, hK, hc0⟩ := Kd.C_get h z80 i h0 h1
  have hc : ∀ j u, c[j]? = some u → w.cell? (ad.add (i.toNat * 2 + j)) = some u := hc0
  obtain ⟨A1, c1, rfl, l1, g1⟩ := k80_open hK
  exact ⟨ad, A1, c1, e, hc 0 _ rfl, by rw [← add_field _ _ 1 (by omega)]; exact hc 1 _ rfl, l1, g1⟩

/-! #### struct type 79 -/
structure S79 where
  f0 : Int
  f1 : (List Int)
def z79 : S79 := ⟨(0 : Int), ([] : List Int)⟩
def k79 : Kd S79 := Kd.iso (Kd.pair (Kd.int .u8) (Kd.slice 5 (Kd.int .u8))) (fun x : S79 => (x.f0, x.f1))
theorem k79_open {w : World} {x : S79} {cs : List Value} (h : k79.K w x cs) : ∃ A1 c1, cs = [.int .u8 x.f0, .slice A1 x.f1.length c1] ∧ x.f1.length ≤ c1 ∧ (Kd.int .u8).C w A1 x.f1.length x.f1 := by
  obtain ⟨_, _, rfl, rfl, ⟨A1, c1, rfl, l1, g1⟩⟩ := h
  exact ⟨A1, c1, rfl, l1, g1⟩
theorem k79_openM {w : World} {base : Nat} {ok : Nat → Prop} {x : S79} {cs : List Value} (h : k79.M w base ok x cs) : ∃ v1, cs = [.int .u8 x.f0, v1] ∧ (Kd.int .u8).R 5 w base ok v1 x.f1 := by
  obtain ⟨_, _, rfl, rfl, ⟨v1, rfl, g1⟩⟩ := h
  exact ⟨v1, rfl, g1⟩
theorem k79_mk (w : World) (x : S79) {A1 : Option Addr} {c1 : Nat} (l1 : x.f1.length ≤ c1) (g1 : (Kd.int .u8).C w A1 x.f1.length x.f1) : k79.K w x [.int .u8 x.f0, .slice A1 x.f1.length c1] := ⟨[.int .u8 x.f0], [.slice A1 x.f1.length c1], rfl, rfl, ⟨A1, c1, rfl, l1, g1⟩⟩
theorem k79_mkM (w : World) (base : Nat) (ok : Nat → Prop) (x : S79) {v1 : Value} (g1 : (Kd.int .u8).R 5 w base ok v1 x.f1) : k79.M w base ok x [.int .u8 x.f0, v1] := ⟨[.int .u8 x.f0], [v1], rfl, rfl, ⟨v1, rfl, g1⟩⟩
theorem k79_openF {W : World} {ok : Nat → Prop} {x : S79} {cs : List Value} (h : Kd.FK k79 W ok x cs) : ∃ A1 c1, cs = [.int .u8 x.f0, .slice A1 x.f1.length c1] ∧ x.f1.length ≤ c1 ∧ Kd.F (Kd.int .u8) W ok A1 x.f1.length x.f1 := by
  obtain ⟨A1, c1, rfl, l1, _⟩ := k79_open (Kd.FK_now h)
  exact ⟨A1, c1, rfl, l1, (fun W' hW => by obtain ⟨A1_, c1_, he, l1_, g1_⟩ := k79_open (h W' hW); injection (Option.some.inj (show some (Value.slice A1 x.f1.length c1) = some (Value.slice A1_ x.f1.length c1_) from congrArg (fun l => l[1]?) he)) with ha_ _ _; rw [ha_]; exact g1_)⟩
theorem k79_mkF (W : World) (ok : Nat → Prop) (x : S79) {A1 : Option Addr} {c1 : Nat} (l1 : x.f1.length ≤ c1) (g1 : Kd.F (Kd.int .u8) W ok A1 x.f1.length x.f1) : Kd.FK k79 W ok x [.int .u8 x.f0, .slice A1 x.f1.length c1] := fun W2 hW => k79_mk W2 x l1 (g1 W2 hW)
def rd_T79 (xs : List S79) (i : Int) : S79 := xs.getD i.toNat z79
theorem at_T79 {w : World} {A : Option Addr} {n : Nat} {xs : List S79} (h : Kd.C k79 w A n xs) (i : Int) (h0 : 0 ≤ i) (h1 : i < n) : ∃ ad A1 c1, A = some ad ∧ w.cell? (ad.add (i.toNat * 2)) = some (.int .u8 (rd_T79 xs i).f0) ∧ w.cell? ⟨(ad.add (i.toNat * 2)).block, (ad.add (i.toNat * 2)).off + 1, none⟩ = some (.slice A1 (rd_T79 xs i).f1.length c1) ∧ (rd_T79 xs i).f1.length ≤ c1 ∧ (Kd.int .u8).C w A1 (rd_T79 xs i).f1.length (rd_T79 xs i).f1 := by
  obtain ⟨ad, c, e, _, hK, hc0⟩ := Kd.C_get h z79 i h0 h1
  have hc : ∀ j u, c[j]? = some u → w.cell? (ad.add (i.toNat * 2 + j)) = some u := hc0
  obtain ⟨A1, c1, rfl, l1, g1⟩ := k79_open hK
  exact ⟨ad, A1, c1, e, hc 0 _ rfl, by rw [← add_field _ _ 1 (by omega)]; exact hc 1 _ rfl, l1, g1⟩

end Go.Proofs.Ytelmlkcoeihhjaa.Fl
