/- No number that may be is written so that it begins as an address does: the law marlinelaw09.ProtoFirst answers true for every number and either way of writing it. No conditions. -/
import Derived.Test.YtelmlkcoeihhjaaPProtoFirstx1
import Derived.OpenShut
namespace Go.Proofs.Ytelmlkcoeihhjaa.Pure
open Go.RowKit Go.Proofs.Ytelmlkcoeihhjaa.PProtoFirst Go.Proofs.YtelmlkcoeihhjaaW.PrintWords Go.Proofs.YtelmlkcoeihhjaaW.PrintLast

theorem first_put2 (n : Int) : wire_Put.f 9 [] n 2 = some [n / 256 % 256, n % 256] := by
  have e : wire_Put.f 9 [] n 2 = some [n / 256 % 256, n / 1 % 256] := by kernel_rfl
  rw [e, Int.ediv_one]

theorem land257 : ∀ a < 256, ∀ b < 256, (256 * a + b) &&& 257 = (256 * a + b) % 2 + 256 * ((256 * a + b) / 256 % 2) := by decide +kernel

/-- The two bits that decide whether a number may be. -/
theorem and257 (a : Int) (h0 : 0 ≤ a) (h1 : a ≤ 65535) : Go.bits .and .u16 a 257 = a % 2 + 256 * (a / 256 % 2) := by
  obtain ⟨n, rfl⟩ := Int.eq_ofNat_of_zero_le h0
  have hn : n < 65536 := by omega
  have h := (Go.bits_nat .u16 16 (by decide) (fun n h₀ h₁ => by simp [IntKind.wrap, IntKind.bits, IntKind.signed]; omega) n 257 hn (by decide)).1
  have e : n &&& 257 = n % 2 + 256 * (n / 256 % 2) := by
    have := land257 (n / 256) (by omega) (n % 256) (by omega)
    rwa [Nat.div_add_mod] at this
  have h' : Go.bits .and .u16 (n : Int) 257 = ((n &&& 257 : Nat) : Int) := h
  rw [h', e]
  omega

def right (a : Int) : Bool := decide (a % 2 = 1 ∧ a / 256 % 2 = 0 ∧ a ≠ 255)

theorem right_prog (a : Int) (h0 : 0 ≤ a) (h1 : a ≤ 65535) : proto_Right.f a = some (right a) := by
  unfold proto_Right.f right
  rw [and257 a h0 h1]
  split
  · rename_i h
    rw [Option.some.injEq, Bool.eq_iff_iff, bne_iff_ne, decide_eq_true_iff]
    omega
  · rename_i h
    rw [Option.some.injEq, Bool.eq_iff_iff, decide_eq_true_iff]
    simp only [Bool.false_eq_true, false_iff]
    omega

theorem wrap64_small {a : Int} (h0 : 0 ≤ a) (h1 : a ≤ 4294967296) : wrap64 a = a := by unfold wrap64; omega

theorem right_ref (a : Int) (h0 : 0 ≤ a) (h1 : a ≤ 65535) : marlineref09_Right.f (wrap64 a) = some (right a) := by
  unfold marlineref09_Right.f right
  rw [wrap64_small h0 (by omega), Int.tdiv_eq_ediv_of_nonneg h0, wrap64_small (by omega) (by omega), Int.tmod_eq_emod_of_nonneg h0, Int.tmod_eq_emod_of_nonneg (by omega)]
  split
  · split
    · rw [Option.some.injEq, Bool.eq_iff_iff, bne_iff_ne, decide_eq_true_iff]
      omega
    · rw [Option.some.injEq, Bool.eq_iff_iff, decide_eq_true_iff]
      simp only [Bool.false_eq_true, false_iff]
      omega
  · rw [Option.some.injEq, Bool.eq_iff_iff, decide_eq_true_iff]
    simp only [Bool.false_eq_true, false_iff]
    omega

theorem u64_small {a : Int} (h0 : 0 ≤ a) (h1 : a ≤ 65535) : IntKind.u64.wrap a = a := by
  simp [IntKind.wrap, IntKind.bits, IntKind.signed]; omega

def put (a : Int) (s : Bool) : List Int := if s = true ∧ a < 256 then [a] else [a / 256, a % 256]

theorem put_prog (a : Int) (s : Bool) (h0 : 0 ≤ a) (h1 : a ≤ 65535) : proto_Put.f 9 a s = some (put a s) := by
  unfold proto_Put.f put proto_Short.f
  rw [u64_small h0 h1, first_put2]
  simp only [Option.bind_some]
  have e : a / 256 % 256 = a / 256 := by omega
  by_cases hs : s = true
  · by_cases ha : a < 256
    · simp [hs, ha]; omega
    · simp [hs, ha]; omega
  · simp [hs]; omega

theorem speaks_yes : marlinelaw09_speaks.f 9 = some true := by decide +kernel

theorem ProtoFirst : marlinelaw09_ProtoFirst.Pure := by
  intro a s hw
  have hb := bounds_u16 hw
  refine ⟨9, ?_⟩
  unfold marlinelaw09_ProtoFirst.f
  rw [speaks_yes, put_prog a s hb.1 hb.2, right_ref a hb.1 hb.2, right_prog a hb.1 hb.2, right_prog 49185 (by omega) (by omega), right_prog 65283 (by omega) (by omega)]
  simp only [Option.bind_some]
  by_cases hr : right a = true
  · have hr' := hr
    unfold right at hr'
    rw [decide_eq_true_iff] at hr'
    have e1 : right 49185 = true := by decide
    have e2 : right 65283 = false := by decide
    rw [hr, e1, e2]
    unfold put
    by_cases hs : s = true ∧ a < 256
    · rw [if_pos hs]; simp [rd]; omega
    · rw [if_neg hs]; simp [rd]; omega
  · have hr' : right a = false := by simpa using hr
    rw [hr']; simp

end Go.Proofs.Ytelmlkcoeihhjaa.Pure
