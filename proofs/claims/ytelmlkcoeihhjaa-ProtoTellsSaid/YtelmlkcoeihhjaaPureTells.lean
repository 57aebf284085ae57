/- Layer 9's numbers are told, written and read as the document says, for every number and all octets: the law in plain numbers. No conditions. -/
import Derived.Test.YtelmlkcoeihhjaaFa3
import Derived.Test.YtelmlkcoeihhjaaPa
namespace Go.Proofs.Ytelmlkcoeihhjaa.Pure
open Go.RowKit Go.Proofs.Ytelmlkcoeihhjaa.Fa Go.Proofs.Ytelmlkcoeihhjaa.Pa Go.Proofs.YtelmlkcoeihhjaaW.PrintWords Go.Proofs.YtelmlkcoeihhjaaW.PrintLast

theorem ProtoTells : marlinelaw09_ProtoTells.Pure := by
  intro a l s hw hm hm2 hx
  have hb := bounds_u16 hw
  have hl : ∀ x ∈ l, 0 ≤ x ∧ x ≤ 255 := fun x h => bounds_u8 (hx x h)
  have hs10 : marlinelaw09_speaks.f 10 = some true := marlinelaw09_speaks.mono _ _ speaks_yes
  have hs : marlinelaw09_speaks.f 11 = some true := marlinelaw09_speaks.mono _ _ hs10
  have hg : proto_Get.f 10 l s = some (get l s) := proto_Get.mono _ _ _ _ (get_prog l s hl)
  have gb := get_bounds l s hl
  refine ⟨11, ?_⟩
  unfold marlinelaw09_ProtoTells.f
  rw [hs, Option.bind_some, if_pos rfl]
  by_cases h100 : (l.length : Int) > 100
  · rw [show decide ((l.length : Int) > 100) = true from decide_eq_true h100]
    simp only [marlinelaw09_ProtoTells.j0]
    rw [if_pos trivial, hs10, Option.bind_some]
  · rw [show decide ((l.length : Int) > 100) = false from decide_eq_false h100]
    simp only [marlinelaw09_ProtoTells.j0]
    rw [if_neg (by decide), hg, Option.bind_some, get_ref l s hl, Option.bind_some, wrap64_small gb.1 (by omega), if_pos rfl, if_pos rfl]
    simp only [marlinelaw09_ProtoTells.j1]
    rw [bne_self_eq_false, if_neg (by decide), right_prog a hb.1 hb.2, Option.bind_some, right_ref a hb.1 hb.2, Option.bind_some, beq_self_eq_true, if_pos rfl]
    unfold proto_Short.f proto_Group.f
    rw [Option.bind_some, wrap64_small hb.1 (by omega), Int.tdiv_eq_ediv_of_nonneg hb.1, Int.tdiv_eq_ediv_of_nonneg hb.1, wrap64_small (a := a / 256) (by omega) (by omega)]
    have e : (decide (a < 256) == (a / 256 == 0)) = true := by
      rw [beq_iff_eq, Bool.eq_iff_iff, decide_eq_true_iff, beq_iff_eq]
      omega
    have hp := put_ref a s hb.1 hb.2
    rw [wrap64_small hb.1 (by omega)] at hp
    rw [if_pos e, Option.bind_some, if_pos rfl, put_prog a s hb.1 hb.2, Option.bind_some, hp, Option.bind_some, equal_prog _ _ (by have := put_length a s; omega) 9 (by have := put_length a s; omega), Option.bind_some]
    simp

end Go.Proofs.Ytelmlkcoeihhjaa.Pure
