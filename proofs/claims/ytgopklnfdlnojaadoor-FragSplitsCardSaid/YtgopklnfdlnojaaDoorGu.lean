/- Plain facts: the reference's octets of a piece are the package's; a piece is the same as itself. -/
import Derived.Test.YtgopklnfdlnojaaDoorGp
import Derived.Test.YtgopklnfdlnojaaDoorGt
namespace Go.Proofs.YtgopklnfdlnojaaDoor.Gu
set_option linter.unusedSimpArgs false
open Go.RowKit Go.Proofs.YtgopklnfdlnojaaDoor.Ga Go.Proofs.YtgopklnfdlnojaaDoor.My Go.Proofs.YtgopklnfdlnojaaDoor.Gb Go.Proofs.YtgopklnfdlnojaaDoor.Gp Go.Proofs.YtgopklnfdlnojaaDoorW.PrintWords Go.Proofs.YtgopklnfdlnojaaDoorW.PrintLast Go.Proofs.YtgopklnfdlnojaaDoorW.PrintMore

theorem same_self (x : S24) : marlineref23_Same.f 3 [x] [x] = some true := by
  simp [marlineref23_Same.f, marlineref23_Same.l0, rd_T24, wrap64]

theorem mod_plain (short : Bool) : marlineref23_Mod.f short = some (numbers short) := by
  cases short <;> rfl

theorem ref_put_no (short b e : Bool) (num : Int) (xs : List Int) (h : ¬ (0 ≤ num ∧ num < numbers short)) : marlineref23_Put.f 3 short b e num xs = some ([], 5) := by
  unfold marlineref23_Put.f
  by_cases h0 : num < 0
  · rw [if_pos h0]; simp [marlineref23_Put.j0]
  · rw [if_neg h0, mod_plain]
    have : num ≥ numbers short := by omega
    simp [marlineref23_Put.j0, this]

theorem tdiv256 (num : Int) (h : 0 ≤ num) : Int.tdiv num 256 = num / 256 := Int.tdiv_eq_ediv_of_nonneg h
theorem tdiv65536 (num : Int) (h : 0 ≤ num) : Int.tdiv num 65536 = num / 65536 := Int.tdiv_eq_ediv_of_nonneg h
theorem tmod256 (num : Int) (h : 0 ≤ num) : Int.tmod num 256 = num % 256 := Int.tmod_eq_emod_of_nonneg h
theorem w64 (n : Int) (h0 : 0 ≤ n) (h1 : n < 9223372036854775808) : wrap64 n = n := by unfold wrap64; omega

theorem ref_put_yes (short b e : Bool) (num : Int) (xs : List Int) (h0 : 0 ≤ num) (h1 : num < numbers short) (hn : xs.length ≤ 100000) : marlineref23_Put.f 3 short b e num xs = some (putB short b e num xs, 0) := by
  unfold marlineref23_Put.f
  rw [if_neg (by omega), mod_plain]
  have hd : decide (num ≥ numbers short) = false := decide_eq_false (by omega)
  have hge : ¬ numbers short ≤ num := by omega
  have hb : num < 16777216 ∧ (short = true → num < 4096) := by
    cases short <;> simp [numbers] at h1 <;> refine ⟨by omega, fun h => ?_⟩ <;> first | omega | simp at h
  cases short <;> cases b <;> cases e <;>
    (simp [marlineref23_Put.j0, marlineref23_Put.j1, hd, putB, head2, head4, top, tdiv256 num h0, tdiv65536 num h0, tmod256 num h0, w64 (num / 256) (by omega) (by omega), w64 (num / 65536) (by omega) (by omega), tmod256 (num / 256) (by omega)]; rw [if_neg hge, if_pos (by omega)]; have h2 := hb.1; have h3 := hb.2; simp only [Bool.false_eq_true, false_implies, true_implies, forall_const] at h3; simp only [Option.some.injEq, Prod.mk.injEq, List.cons.injEq, and_true, true_and]; (try unfold wrap64); omega)

end Go.Proofs.YtgopklnfdlnojaaDoor.Gu
