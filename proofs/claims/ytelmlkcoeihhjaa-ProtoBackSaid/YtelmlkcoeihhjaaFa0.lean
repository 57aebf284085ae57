import Derived.Test.YtelmlkcoeihhjaaProg
import Derived.Below
import Derived.Deep.Draws
import Derived.Deep.AppendLies
import Derived.Maps.AppendAt
import Derived.OwnWalk
import Derived.Laws.BytesArg
import Derived.Laws.MakeOwn
import Derived.Laws.OwnMore
import Derived.Deep.OwnRows
import Derived.Tactics
import Derived.Lib.ConvBytes
import Derived.Laws.Slices
import Derived.WalkKit
import Derived.KernelRfl
import Derived.RowKit3
import Derived.Deep.LoopGhost
import Derived.Deep.QuietTactic
import Derived.BigQuiet
import Derived.WideLaws
import Derived.Deep.DeepCutAuto
import Derived.Deep.CutBlock
import Derived.Deep.RegionHeld3
import Derived.Laws.Rows
import Derived.Lib.AppendStr
import Derived.ArgAppend
import Derived.Laws.IdiomCopy
import Derived.OrdersHeld
import Derived.Laws.BitsLemmas
import Derived.RowKit
import Derived.Test.YtelmlkcoeihhjaaWWords
import Derived.Test.YtelmlkcoeihhjaaWLast
import Derived.Test.YtelmlkcoeihhjaaWTab
import Derived.Test.YtelmlkcoeihhjaaWFour
import Derived.Test.YtelmlkcoeihhjaaWQPut
import Derived.Test.YtelmlkcoeihhjaaWApart
import Derived.Test.YtelmlkcoeihhjaaWArr
import Derived.Test.YtelmlkcoeihhjaaWZeros
import Derived.Test.YtelmlkcoeihhjaaWFoot
import Derived.Test.YtelmlkcoeihhjaaWKept
import Derived.Test.YtelmlkcoeihhjaaWShare
import Derived.Test.YtelmlkcoeihhjaaWN
import Derived.Test.YtelmlkcoeihhjaaWFootNe
import Derived.Test.YtelmlkcoeihhjaaWAt
import Derived.Test.YtelmlkcoeihhjaaWEqStruct
import Derived.Test.YtelmlkcoeihhjaaWRepsOne
import Derived.Test.YtelmlkcoeihhjaaWInv
import Derived.Test.YtelmlkcoeihhjaaWInvWords
import Derived.Test.YtelmlkcoeihhjaaWGuard
import Derived.Test.YtelmlkcoeihhjaaWNEv
import Derived.Test.YtelmlkcoeihhjaaWMore
namespace Go.Proofs.Ytelmlkcoeihhjaa.Fa
open Go.RowKit Go.Proofs.YtelmlkcoeihhjaaW.PrintWords Go.Proofs.YtelmlkcoeihhjaaW.PrintLast Go.Proofs.YtelmlkcoeihhjaaW.PrintMore
attribute [local go_sem] max2_int min2_int max_two min_two max_three min_three max_four min_four   -- for this text's walks alone
set_option linter.unusedVariables false
set_option linter.unusedSimpArgs false



def errW : Option Int → Value
  | none => .nilIface
  | some c => .iface 0 (.int .i64 c)
theorem errW_none : errW none = .nilIface := rfl
theorem errW_some (c : Int) : errW (some c) = .iface 0 (.int .i64 c) := rfl

theorem info5 : (Try.prog.info? 5).map (fun i => (i.zero, i.size, i.bytes)) = some (some (.int .u8 0), 1, 1) := by kernel_rfl
-- the values' own types

end Go.Proofs.Ytelmlkcoeihhjaa.Fa
