/- The laws' word of what they can see: that the package answers at all. Condition: the table of shapes lies as its text lays it. -/
import Derived.Test.YtgopklnfdlnojaaDoorGp
namespace Go.Proofs.YtgopklnfdlnojaaDoor.Gs
open Go.RowKit Go.Proofs.YtgopklnfdlnojaaDoor.Ga Go.Proofs.YtgopklnfdlnojaaDoor.My Go.Proofs.YtgopklnfdlnojaaDoor.Gb Go.Proofs.YtgopklnfdlnojaaDoor.Gp Go.Proofs.YtgopklnfdlnojaaDoorW.PrintWords Go.Proofs.YtgopklnfdlnojaaDoorW.PrintLast Go.Proofs.YtgopklnfdlnojaaDoorW.PrintMore
set_option linter.unusedVariables false
set_option linter.unusedSimpArgs false

theorem lit_row {W : World} (a b : Int) : (Kd.int .u8).C (W.alloc (.cells #[.int .u8 a, .int .u8 b] 5)) (some ⟨W.heap.size, 0, none⟩) 2 [a, b] := by
  have h : (Kd.int .u8).R 5 (W.alloc (.cells #[.int .u8 a, .int .u8 b] 5)) W.heap.size (fun _ => True) (.slice (some ⟨W.heap.size, 0, none⟩) 2 2) [a, b] :=
    Kd.R_of_own (enc := Value.int .u8) (h1 := fun _ => rfl) ⟨by simp [encs], .inr ⟨W.heap.size, 2, #[.int .u8 a, .int .u8 b], rfl, Nat.le_refl _, new1 W _, by simp, by decide, rfl, by simp [encs]⟩⟩ (fun _ _ => trivial)
  exact (Kd.R_reads' h).2.2

set_option maxHeartbeats 2000000 in
set_option maxRecDepth 100000 in
theorem speaks_any (w : World) (hS : Shapes w) :
    Calls Tryd.prog 12 #[] w fun e w' => e = .returned (.bool true) ∧ Below w.heap.size w w' := by
  have HS := Aside0.mk hS
  clear hS
  go_enter Tryd.func12, Tryd.ntmps12
  go_wp2_with (fail)
  refine (put_yes true true true 258 none 0 0 [] w HS.out (by decide) (by decide) (Kd.C_nil _ _) (by decide) (by decide)).mono ?_
  rintro e1 w1 ⟨A', c', rfl, hc', hC, hb⟩
  have hput : putB true true true 258 [] = [193, 2] := by decide
  rw [hput] at hC
  have HC := Aside0.mk hC
  have HCC := Aside0.mk hc'
  have X := Aside0.mk hb
  have HS1 := Aside0.mk (HS.out.below hb)
  clear hC hb hput
  go_wp2_with (fail)
  have HL := Aside0.mk (lit_row (W := w1) 193 2)
  have X2 := Aside0.mk (below_step X.out (below_alloc (Below.refl _ w1) (.cells #[.int .u8 193, .int .u8 2] 5)))
  have HS2 := Aside0.mk (HS1.out.alloc (.cells #[.int .u8 193, .int .u8 2] 5))
  have HC2 := Aside0.mk (Kd.C_below HC.out (below_alloc (Below.refl _ w1) (.cells #[.int .u8 193, .int .u8 2] 5)))
  generalize w1.alloc (.cells #[.int .u8 193, .int .u8 2] 5) = w2 at HL X2 HS2 HC2 ⊢
  generalize w1.heap.size = g at HL ⊢
  refine (marlineref01_Equal.calls 10 A' c' [193, 2] (some ⟨g, 0, none⟩) 2 [193, 2] true w2 HC2.out HCC.out HL.out (by decide) (by decide +kernel)).mono ?_
  rintro e2 w3 ⟨rfl, hd⟩
  have hb := hd.below
  have X3 := Aside0.mk (below_step X2.out hb)
  have HS3 := Aside0.mk (HS2.out.below hb)
  clear hb hd
  go_wp2_with (fail)
  refine (mod_any true w3 HS3.out).mono ?_
  rintro e4 w4 ⟨rfl, hb⟩
  have X4 := Aside0.mk (below_step X3.out hb)
  have HS4 := Aside0.mk (HS3.out.below hb)
  clear hb
  have hn1 : numbers true = 4096 := rfl
  go_wp2_with (fail)
  refine (mod_any false w4 HS4.out).mono ?_
  rintro e5 w5 ⟨rfl, hb⟩
  have X5 := Aside0.mk (below_step X4.out hb)
  clear hb
  have hn2 : numbers false = 16777216 := rfl
  go_wp2
  go_ret
  exact ⟨rfl, X5.out⟩

end Go.Proofs.YtgopklnfdlnojaaDoor.Gs
