/-
  NARROWER THAN 'FOR EVERY INPUT', by the rows' own cells (each row's printed sentence says how): FragTells: laid · FragBack: laid · FragSplits: laid · FragLoss: laid · FragThere: laid · JoinPlays: laid · JoinRoom: laid · JoinSome: laid · JoinAll: laid.
  DERIVED. THE GIVEN ROWS OF THIS SEAT. 9 by the template 'for every input the law returns true; each argument reads behind the call as it read before'; 0 by the template 'total and deterministic' (their statements: YtgopklnfdlnojaaDoorTotals.lean).
  GIVEN WITH THE SEED: the statements are not yours to turn. If you find one false, say at which input.
  Laid BY PROGRAM, IN A SANDBOX (cutbox-rows.mjs): the forced cells as the released guide's own fill.sh prints them over the translation bc68a162a76f011e… (all of the seat's roots in one cut). By AI agents, Wed Nov 11 2026. No macro, syntax, notation, axiom, sorry.
-/
import Derived.Test.YtgopklnfdlnojaaDoorChecked
import GoSem.Claim
import GoSem.ClaimJoined
import GoSem.ClaimMapViews
import Derived.JoinedTies
import Derived.KernelRfl
namespace Go.Proofs.YtgopklnfdlnojaaDoor
/- THE CELL 'sum', in the pinned program and in every row, IS THE sha256 OF THE DUMP (.gsa) THAT YtgopklnfdlnojaaDoorProg.lean LOADS. Nothing in Lean hashes anything: it is a label: what it is worth is what the hold of that sum in a sandbox is worth. -/
noncomputable def Tryd.pinned : Pinned := { name := "ytgopklnfdlnojaadoor", sum := "bc68a162a76f011ee042ac91a702875a293561977c4441c186dd00b43989b568", checked := Tryd.checked }
namespace Rows
def none {H : Type} : Left H := { results := [], args := [] }

/- WHAT THE LISTED PACKAGE-LEVEL VARIABLES READ AS WHEN THE CALL BEGINS. Each datum BY PROGRAM (the guide's laid-datum.mjs) off the statement by which the dump's own 'gosem.cut.vars' lays the variable. In a bare row this is a premise. The card (YtgopklnfdlnojaaDoorCards.lean) ties it to the program's text. -/
def laid_marline_frag_shapes {H : Type} : DataW H := .agg [.agg [.lit (.int .i64 4), .lit (.int .i64 16777216), .lit (.int .u8 0)], .agg [.lit (.int .i64 2), .lit (.int .i64 4096), .lit (.int .u8 15)]]

/-- 'marlinelaw23.FragTells': WHATEVER THE INPUT: true; the input reads as it did. -/
def fragTellsSpec : ChangeSpec := { name := "fragTells", fn := fun _ => fun
  | [d1, d2, d3] => { results := [.lit (.bool true)], args := [d1, d2, d3] }
  | _ => none }
def fragTellsRow : OpenClaim := { program := "ytgopklnfdlnojaadoor", sum := "bc68a162a76f011ee042ac91a702875a293561977c4441c186dd00b43989b568", func := "marline/marlinelaw23.FragTells", spec := "fragTells", named := ["marline/frag.shapes"], apart := false, laid := [("marline/frag.shapes", laid_marline_frag_shapes)] }
def FragTellsSaid : Prop := fragTellsRow.holds Tryd.pinned (OpenSpec.ofChange fragTellsSpec)

/-- ITS FALSE NEIGHBOUR: 'it returns false'. Refute it at one input. -/
def fragTellsWrong : ChangeSpec := { name := "fragTells", fn := fun _ => fun
  | [d1, d2, d3] => { results := [.lit (.bool false)], args := [d1, d2, d3] }
  | _ => none }
def FragTellsWrongFalsely : Prop := fragTellsRow.holds Tryd.pinned (OpenSpec.ofChange fragTellsWrong)

/-- 'marlinelaw23.FragBack': WHATEVER THE INPUT: true; the input reads as it did. -/
def fragBackSpec : ChangeSpec := { name := "fragBack", fn := fun _ => fun
  | [d1, d2, d3] => { results := [.lit (.bool true)], args := [d1, d2, d3] }
  | _ => none }
def fragBackRow : OpenClaim := { program := "ytgopklnfdlnojaadoor", sum := "bc68a162a76f011ee042ac91a702875a293561977c4441c186dd00b43989b568", func := "marline/marlinelaw23.FragBack", spec := "fragBack", named := ["marline/frag.shapes"], apart := false, laid := [("marline/frag.shapes", laid_marline_frag_shapes)] }
def FragBackSaid : Prop := fragBackRow.holds Tryd.pinned (OpenSpec.ofChange fragBackSpec)

/-- ITS FALSE NEIGHBOUR: 'it returns false'. Refute it at one input. -/
def fragBackWrong : ChangeSpec := { name := "fragBack", fn := fun _ => fun
  | [d1, d2, d3] => { results := [.lit (.bool false)], args := [d1, d2, d3] }
  | _ => none }
def FragBackWrongFalsely : Prop := fragBackRow.holds Tryd.pinned (OpenSpec.ofChange fragBackWrong)

/-- 'marlinelaw23.FragSplits': WHATEVER THE INPUT: true; the input reads as it did. -/
def fragSplitsSpec : ChangeSpec := { name := "fragSplits", fn := fun _ => fun
  | [d1, d2, d3, d4, d5] => { results := [.lit (.bool true)], args := [d1, d2, d3, d4, d5] }
  | _ => none }
def fragSplitsRow : OpenClaim := { program := "ytgopklnfdlnojaadoor", sum := "bc68a162a76f011ee042ac91a702875a293561977c4441c186dd00b43989b568", func := "marline/marlinelaw23.FragSplits", spec := "fragSplits", unfollowed := true, recurses := true, named := ["marline/frag.shapes"], apart := false, laid := [("marline/frag.shapes", laid_marline_frag_shapes)] }
def FragSplitsSaid : Prop := fragSplitsRow.holds Tryd.pinned (OpenSpec.ofChange fragSplitsSpec)

/-- ITS FALSE NEIGHBOUR: 'it returns false'. Refute it at one input. -/
def fragSplitsWrong : ChangeSpec := { name := "fragSplits", fn := fun _ => fun
  | [d1, d2, d3, d4, d5] => { results := [.lit (.bool false)], args := [d1, d2, d3, d4, d5] }
  | _ => none }
def FragSplitsWrongFalsely : Prop := fragSplitsRow.holds Tryd.pinned (OpenSpec.ofChange fragSplitsWrong)

/-- 'marlinelaw23.FragLoss': WHATEVER THE INPUT: true; the input reads as it did. -/
def fragLossSpec : ChangeSpec := { name := "fragLoss", fn := fun _ => fun
  | [d1, d2, d3, d4, d5] => { results := [.lit (.bool true)], args := [d1, d2, d3, d4, d5] }
  | _ => none }
def fragLossRow : OpenClaim := { program := "ytgopklnfdlnojaadoor", sum := "bc68a162a76f011ee042ac91a702875a293561977c4441c186dd00b43989b568", func := "marline/marlinelaw23.FragLoss", spec := "fragLoss", unfollowed := true, recurses := true, named := ["marline/frag.shapes"], apart := false, laid := [("marline/frag.shapes", laid_marline_frag_shapes)] }
def FragLossSaid : Prop := fragLossRow.holds Tryd.pinned (OpenSpec.ofChange fragLossSpec)

/-- ITS FALSE NEIGHBOUR: 'it returns false'. Refute it at one input. -/
def fragLossWrong : ChangeSpec := { name := "fragLoss", fn := fun _ => fun
  | [d1, d2, d3, d4, d5] => { results := [.lit (.bool false)], args := [d1, d2, d3, d4, d5] }
  | _ => none }
def FragLossWrongFalsely : Prop := fragLossRow.holds Tryd.pinned (OpenSpec.ofChange fragLossWrong)

/-- 'marlinelaw23.FragThere': WHATEVER THE INPUT: true; the input reads as it did. -/
def fragThereSpec : ChangeSpec := { name := "fragThere", fn := fun _ => fun
  | [d1, d2, d3, d4] => { results := [.lit (.bool true)], args := [d1, d2, d3, d4] }
  | _ => none }
def fragThereRow : OpenClaim := { program := "ytgopklnfdlnojaadoor", sum := "bc68a162a76f011ee042ac91a702875a293561977c4441c186dd00b43989b568", func := "marline/marlinelaw23.FragThere", spec := "fragThere", unfollowed := true, recurses := true, named := ["marline/frag.shapes"], apart := false, laid := [("marline/frag.shapes", laid_marline_frag_shapes)] }
def FragThereSaid : Prop := fragThereRow.holds Tryd.pinned (OpenSpec.ofChange fragThereSpec)

/-- ITS FALSE NEIGHBOUR: 'it returns false'. Refute it at one input. -/
def fragThereWrong : ChangeSpec := { name := "fragThere", fn := fun _ => fun
  | [d1, d2, d3, d4] => { results := [.lit (.bool false)], args := [d1, d2, d3, d4] }
  | _ => none }
def FragThereWrongFalsely : Prop := fragThereRow.holds Tryd.pinned (OpenSpec.ofChange fragThereWrong)

/-- 'marlinelaw24.JoinPlays': WHATEVER THE INPUT: true; the input reads as it did. -/
def joinPlaysSpec : ChangeSpec := { name := "joinPlays", fn := fun _ => fun
  | [d1, d2, d3, d4] => { results := [.lit (.bool true)], args := [d1, d2, d3, d4] }
  | _ => none }
def joinPlaysRow : OpenClaim := { program := "ytgopklnfdlnojaadoor", sum := "bc68a162a76f011ee042ac91a702875a293561977c4441c186dd00b43989b568", func := "marline/marlinelaw24.JoinPlays", spec := "joinPlays", unfollowed := true, recurses := true, named := ["marline/frag.shapes"], apart := false, laid := [("marline/frag.shapes", laid_marline_frag_shapes)] }
def JoinPlaysSaid : Prop := joinPlaysRow.holds Tryd.pinned (OpenSpec.ofChange joinPlaysSpec)

/-- ITS FALSE NEIGHBOUR: 'it returns false'. Refute it at one input. -/
def joinPlaysWrong : ChangeSpec := { name := "joinPlays", fn := fun _ => fun
  | [d1, d2, d3, d4] => { results := [.lit (.bool false)], args := [d1, d2, d3, d4] }
  | _ => none }
def JoinPlaysWrongFalsely : Prop := joinPlaysRow.holds Tryd.pinned (OpenSpec.ofChange joinPlaysWrong)

/-- 'marlinelaw24.JoinRoom': WHATEVER THE INPUT: true; the input reads as it did. -/
def joinRoomSpec : ChangeSpec := { name := "joinRoom", fn := fun _ => fun
  | [d1, d2, d3] => { results := [.lit (.bool true)], args := [d1, d2, d3] }
  | _ => none }
def joinRoomRow : OpenClaim := { program := "ytgopklnfdlnojaadoor", sum := "bc68a162a76f011ee042ac91a702875a293561977c4441c186dd00b43989b568", func := "marline/marlinelaw24.JoinRoom", spec := "joinRoom", unfollowed := true, recurses := true, named := ["marline/frag.shapes"], apart := false, laid := [("marline/frag.shapes", laid_marline_frag_shapes)] }
def JoinRoomSaid : Prop := joinRoomRow.holds Tryd.pinned (OpenSpec.ofChange joinRoomSpec)

/-- ITS FALSE NEIGHBOUR: 'it returns false'. Refute it at one input. -/
def joinRoomWrong : ChangeSpec := { name := "joinRoom", fn := fun _ => fun
  | [d1, d2, d3] => { results := [.lit (.bool false)], args := [d1, d2, d3] }
  | _ => none }
def JoinRoomWrongFalsely : Prop := joinRoomRow.holds Tryd.pinned (OpenSpec.ofChange joinRoomWrong)

/-- 'marlinelaw24.JoinSome': WHATEVER THE INPUT: true; the input reads as it did. -/
def joinSomeSpec : ChangeSpec := { name := "joinSome", fn := fun _ => fun
  | [d1, d2, d3, d4, d5] => { results := [.lit (.bool true)], args := [d1, d2, d3, d4, d5] }
  | _ => none }
def joinSomeRow : OpenClaim := { program := "ytgopklnfdlnojaadoor", sum := "bc68a162a76f011ee042ac91a702875a293561977c4441c186dd00b43989b568", func := "marline/marlinelaw24.JoinSome", spec := "joinSome", unfollowed := true, recurses := true, named := ["marline/frag.shapes"], apart := false, laid := [("marline/frag.shapes", laid_marline_frag_shapes)] }
def JoinSomeSaid : Prop := joinSomeRow.holds Tryd.pinned (OpenSpec.ofChange joinSomeSpec)

/-- ITS FALSE NEIGHBOUR: 'it returns false'. Refute it at one input. -/
def joinSomeWrong : ChangeSpec := { name := "joinSome", fn := fun _ => fun
  | [d1, d2, d3, d4, d5] => { results := [.lit (.bool false)], args := [d1, d2, d3, d4, d5] }
  | _ => none }
def JoinSomeWrongFalsely : Prop := joinSomeRow.holds Tryd.pinned (OpenSpec.ofChange joinSomeWrong)

/-- 'marlinelaw24.JoinAll': WHATEVER THE INPUT: true; the input reads as it did. -/
def joinAllSpec : ChangeSpec := { name := "joinAll", fn := fun _ => fun
  | [d1, d2, d3, d4, d5] => { results := [.lit (.bool true)], args := [d1, d2, d3, d4, d5] }
  | _ => none }
def joinAllRow : OpenClaim := { program := "ytgopklnfdlnojaadoor", sum := "bc68a162a76f011ee042ac91a702875a293561977c4441c186dd00b43989b568", func := "marline/marlinelaw24.JoinAll", spec := "joinAll", unfollowed := true, recurses := true, named := ["marline/frag.shapes"], apart := false, laid := [("marline/frag.shapes", laid_marline_frag_shapes)] }
def JoinAllSaid : Prop := joinAllRow.holds Tryd.pinned (OpenSpec.ofChange joinAllSpec)

/-- ITS FALSE NEIGHBOUR: 'it returns false'. Refute it at one input. -/
def joinAllWrong : ChangeSpec := { name := "joinAll", fn := fun _ => fun
  | [d1, d2, d3, d4, d5] => { results := [.lit (.bool false)], args := [d1, d2, d3, d4, d5] }
  | _ => none }
def JoinAllWrongFalsely : Prop := joinAllRow.holds Tryd.pinned (OpenSpec.ofChange joinAllWrong)

/- THE SECOND FORM. 'bulk': how many values and letters a reading holds, each counted each time it is reached (what is shared counts as often as it is met; a slice's spare places count too). A statement '..UptoSaid' is the law's where the arguments, and the package variables that the reading takes, are together of bulk at most 1048576: NARROWER than '..Said'. Prove '..Said' where nothing that the law and all that it calls make is longer than what came in: it says more and counts as full. Else prove '..UptoSaid'. A law counts once. -/
mutual
def uptoBulk {H : Type} : DataW H → Nat
  | .lit (.string bytes) => bytes.length + 1
  | .lit _ => 1
  | .nil => 1
  | .ptr d => uptoBulk d + 1
  | .slice elems spare => uptoBulkAll elems + uptoBulkAll spare + 1
  | .agg parts => uptoBulkAll parts + 1
  | .iface _ d => uptoBulk d + 1
  | .map entries => uptoBulkEntries entries + 1
  | .held _ => 1
def uptoBulkAll {H : Type} : List (DataW H) → Nat
  | [] => 0
  | d :: r => uptoBulk d + uptoBulkAll r
def uptoBulkEntries {H : Type} : List (Lit × DataW H) → Nat
  | [] => 0
  | x :: r => uptoBulkEntry x + uptoBulkEntries r
def uptoBulkEntry {H : Type} : Lit × DataW H → Nat
  | (.string bytes, d) => bytes.length + uptoBulk d + 1
  | (_, d) => uptoBulk d + 1
 end
def uptoSmall : (H : Type) → List (DataW H) → Bool := fun _ ds => decide (uptoBulkAll ds ≤ 1048576)
def OpenSpec.upto (s : _root_.Go.ChangeSpec) : _root_.Go.OpenSpec := { _root_.Go.OpenSpec.ofChange s with cond := some uptoSmall }

/-- 'marlinelaw23.FragTells', WHERE WHAT IT READS IS OF BULK AT MOST 1048576: true; the input reads as it did. -/
def fragTellsUptoRow : OpenClaim := { program := "ytgopklnfdlnojaadoor", sum := "bc68a162a76f011ee042ac91a702875a293561977c4441c186dd00b43989b568", func := "marline/marlinelaw23.FragTells", spec := "fragTells", named := ["marline/frag.shapes"], apart := false, laid := [("marline/frag.shapes", laid_marline_frag_shapes)], narrowed := true }
def FragTellsUptoSaid : Prop := fragTellsUptoRow.holds Tryd.pinned (OpenSpec.upto fragTellsSpec)

/-- 'marlinelaw23.FragBack', WHERE WHAT IT READS IS OF BULK AT MOST 1048576: true; the input reads as it did. -/
def fragBackUptoRow : OpenClaim := { program := "ytgopklnfdlnojaadoor", sum := "bc68a162a76f011ee042ac91a702875a293561977c4441c186dd00b43989b568", func := "marline/marlinelaw23.FragBack", spec := "fragBack", named := ["marline/frag.shapes"], apart := false, laid := [("marline/frag.shapes", laid_marline_frag_shapes)], narrowed := true }
def FragBackUptoSaid : Prop := fragBackUptoRow.holds Tryd.pinned (OpenSpec.upto fragBackSpec)

/-- 'marlinelaw23.FragSplits', WHERE WHAT IT READS IS OF BULK AT MOST 1048576: true; the input reads as it did. -/
def fragSplitsUptoRow : OpenClaim := { program := "ytgopklnfdlnojaadoor", sum := "bc68a162a76f011ee042ac91a702875a293561977c4441c186dd00b43989b568", func := "marline/marlinelaw23.FragSplits", spec := "fragSplits", unfollowed := true, recurses := true, named := ["marline/frag.shapes"], apart := false, laid := [("marline/frag.shapes", laid_marline_frag_shapes)], narrowed := true }
def FragSplitsUptoSaid : Prop := fragSplitsUptoRow.holds Tryd.pinned (OpenSpec.upto fragSplitsSpec)

/-- 'marlinelaw23.FragLoss', WHERE WHAT IT READS IS OF BULK AT MOST 1048576: true; the input reads as it did. -/
def fragLossUptoRow : OpenClaim := { program := "ytgopklnfdlnojaadoor", sum := "bc68a162a76f011ee042ac91a702875a293561977c4441c186dd00b43989b568", func := "marline/marlinelaw23.FragLoss", spec := "fragLoss", unfollowed := true, recurses := true, named := ["marline/frag.shapes"], apart := false, laid := [("marline/frag.shapes", laid_marline_frag_shapes)], narrowed := true }
def FragLossUptoSaid : Prop := fragLossUptoRow.holds Tryd.pinned (OpenSpec.upto fragLossSpec)

/-- 'marlinelaw23.FragThere', WHERE WHAT IT READS IS OF BULK AT MOST 1048576: true; the input reads as it did. -/
def fragThereUptoRow : OpenClaim := { program := "ytgopklnfdlnojaadoor", sum := "bc68a162a76f011ee042ac91a702875a293561977c4441c186dd00b43989b568", func := "marline/marlinelaw23.FragThere", spec := "fragThere", unfollowed := true, recurses := true, named := ["marline/frag.shapes"], apart := false, laid := [("marline/frag.shapes", laid_marline_frag_shapes)], narrowed := true }
def FragThereUptoSaid : Prop := fragThereUptoRow.holds Tryd.pinned (OpenSpec.upto fragThereSpec)

/-- 'marlinelaw24.JoinPlays', WHERE WHAT IT READS IS OF BULK AT MOST 1048576: true; the input reads as it did. -/
def joinPlaysUptoRow : OpenClaim := { program := "ytgopklnfdlnojaadoor", sum := "bc68a162a76f011ee042ac91a702875a293561977c4441c186dd00b43989b568", func := "marline/marlinelaw24.JoinPlays", spec := "joinPlays", unfollowed := true, recurses := true, named := ["marline/frag.shapes"], apart := false, laid := [("marline/frag.shapes", laid_marline_frag_shapes)], narrowed := true }
def JoinPlaysUptoSaid : Prop := joinPlaysUptoRow.holds Tryd.pinned (OpenSpec.upto joinPlaysSpec)

/-- 'marlinelaw24.JoinRoom', WHERE WHAT IT READS IS OF BULK AT MOST 1048576: true; the input reads as it did. -/
def joinRoomUptoRow : OpenClaim := { program := "ytgopklnfdlnojaadoor", sum := "bc68a162a76f011ee042ac91a702875a293561977c4441c186dd00b43989b568", func := "marline/marlinelaw24.JoinRoom", spec := "joinRoom", unfollowed := true, recurses := true, named := ["marline/frag.shapes"], apart := false, laid := [("marline/frag.shapes", laid_marline_frag_shapes)], narrowed := true }
def JoinRoomUptoSaid : Prop := joinRoomUptoRow.holds Tryd.pinned (OpenSpec.upto joinRoomSpec)

/-- 'marlinelaw24.JoinSome', WHERE WHAT IT READS IS OF BULK AT MOST 1048576: true; the input reads as it did. -/
def joinSomeUptoRow : OpenClaim := { program := "ytgopklnfdlnojaadoor", sum := "bc68a162a76f011ee042ac91a702875a293561977c4441c186dd00b43989b568", func := "marline/marlinelaw24.JoinSome", spec := "joinSome", unfollowed := true, recurses := true, named := ["marline/frag.shapes"], apart := false, laid := [("marline/frag.shapes", laid_marline_frag_shapes)], narrowed := true }
def JoinSomeUptoSaid : Prop := joinSomeUptoRow.holds Tryd.pinned (OpenSpec.upto joinSomeSpec)

/-- 'marlinelaw24.JoinAll', WHERE WHAT IT READS IS OF BULK AT MOST 1048576: true; the input reads as it did. -/
def joinAllUptoRow : OpenClaim := { program := "ytgopklnfdlnojaadoor", sum := "bc68a162a76f011ee042ac91a702875a293561977c4441c186dd00b43989b568", func := "marline/marlinelaw24.JoinAll", spec := "joinAll", unfollowed := true, recurses := true, named := ["marline/frag.shapes"], apart := false, laid := [("marline/frag.shapes", laid_marline_frag_shapes)], narrowed := true }
def JoinAllUptoSaid : Prop := joinAllUptoRow.holds Tryd.pinned (OpenSpec.upto joinAllSpec)

end Rows
end Go.Proofs.YtgopklnfdlnojaaDoor
