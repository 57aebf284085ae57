/-
  No cell of these rows narrows 'for every input' (looked for: loops, veiled, ifaces, maps, wideKeys, modest, calm, conditions, laid).
  DERIVED. THE GIVEN ROWS OF THIS SEAT. 6 by the template 'for every input the law returns true; each argument reads behind the call as it read before'; 0 by the template 'total and deterministic' (their statements: YtelmlkcoeihhjaaTotals.lean).
  GIVEN WITH THE SEED: the statements are not yours to turn. If you find one false, say at which input.
  Laid BY PROGRAM, IN A SANDBOX (cutbox-rows.mjs): the forced cells as the released guide's own fill.sh prints them over the translation 744d88821d5c348f… (all of the seat's roots in one cut). By AI agents, Wed Nov 11 2026. No macro, syntax, notation, axiom, sorry.
-/
import Derived.Test.YtelmlkcoeihhjaaChecked
import GoSem.Claim
import GoSem.ClaimJoined
import GoSem.ClaimMapViews
import Derived.JoinedTies
import Derived.KernelRfl
namespace Go.Proofs.Ytelmlkcoeihhjaa
/- THE CELL 'sum', in the pinned program and in every row, IS THE sha256 OF THE DUMP (.gsa) THAT YtelmlkcoeihhjaaProg.lean LOADS. Nothing in Lean hashes anything: it is a label: what it is worth is what the hold of that sum in a sandbox is worth. -/
noncomputable def Try.pinned : Pinned := { name := "ytelmlkcoeihhjaa", sum := "744d88821d5c348f1cfe816d3e1306260f79fbe0af6284ccdac77ab8f5f02d75", checked := Try.checked }
namespace Rows
def none {H : Type} : Left H := { results := [], args := [] }

/-- 'marlinelaw09.ProtoFirst': WHATEVER THE INPUT: true; the input reads as it did. -/
def protoFirstSpec : ChangeSpec := { name := "protoFirst", fn := fun _ => fun
  | [d1, d2] => { results := [.lit (.bool true)], args := [d1, d2] }
  | _ => none }
def protoFirstRow : OpenClaim := { program := "ytelmlkcoeihhjaa", sum := "744d88821d5c348f1cfe816d3e1306260f79fbe0af6284ccdac77ab8f5f02d75", func := "marline/marlinelaw09.ProtoFirst", spec := "protoFirst", apart := false }
def ProtoFirstSaid : Prop := protoFirstRow.holds Try.pinned (OpenSpec.ofChange protoFirstSpec)

/-- ITS FALSE NEIGHBOUR: 'it returns false'. Refute it at one input. -/
def protoFirstWrong : ChangeSpec := { name := "protoFirst", fn := fun _ => fun
  | [d1, d2] => { results := [.lit (.bool false)], args := [d1, d2] }
  | _ => none }
def ProtoFirstWrongFalsely : Prop := protoFirstRow.holds Try.pinned (OpenSpec.ofChange protoFirstWrong)

/-- 'marlinelaw19.LqrLost': WHATEVER THE INPUT: true; the input reads as it did. -/
def lqrLostSpec : ChangeSpec := { name := "lqrLost", fn := fun _ => fun
  | [d1, d2, d3] => { results := [.lit (.bool true)], args := [d1, d2, d3] }
  | _ => none }
def lqrLostRow : OpenClaim := { program := "ytelmlkcoeihhjaa", sum := "744d88821d5c348f1cfe816d3e1306260f79fbe0af6284ccdac77ab8f5f02d75", func := "marline/marlinelaw19.LqrLost", spec := "lqrLost", unfollowed := true, recurses := true, apart := false }
def LqrLostSaid : Prop := lqrLostRow.holds Try.pinned (OpenSpec.ofChange lqrLostSpec)

/-- ITS FALSE NEIGHBOUR: 'it returns false'. Refute it at one input. -/
def lqrLostWrong : ChangeSpec := { name := "lqrLost", fn := fun _ => fun
  | [d1, d2, d3] => { results := [.lit (.bool false)], args := [d1, d2, d3] }
  | _ => none }
def LqrLostWrongFalsely : Prop := lqrLostRow.holds Try.pinned (OpenSpec.ofChange lqrLostWrong)

/-- 'marlinelaw09.ProtoBack': WHATEVER THE INPUT: true; the input reads as it did. -/
def protoBackSpec : ChangeSpec := { name := "protoBack", fn := fun _ => fun
  | [d1, d2, d3, d4] => { results := [.lit (.bool true)], args := [d1, d2, d3, d4] }
  | _ => none }
def protoBackRow : OpenClaim := { program := "ytelmlkcoeihhjaa", sum := "744d88821d5c348f1cfe816d3e1306260f79fbe0af6284ccdac77ab8f5f02d75", func := "marline/marlinelaw09.ProtoBack", spec := "protoBack", apart := false }
def ProtoBackSaid : Prop := protoBackRow.holds Try.pinned (OpenSpec.ofChange protoBackSpec)

/-- ITS FALSE NEIGHBOUR: 'it returns false'. Refute it at one input. -/
def protoBackWrong : ChangeSpec := { name := "protoBack", fn := fun _ => fun
  | [d1, d2, d3, d4] => { results := [.lit (.bool false)], args := [d1, d2, d3, d4] }
  | _ => none }
def ProtoBackWrongFalsely : Prop := protoBackRow.holds Try.pinned (OpenSpec.ofChange protoBackWrong)

/-- 'marlinelaw19.LqrBack': WHATEVER THE INPUT: true; the input reads as it did. -/
def lqrBackSpec : ChangeSpec := { name := "lqrBack", fn := fun _ => fun
  | [d1, d2] => { results := [.lit (.bool true)], args := [d1, d2] }
  | _ => none }
def lqrBackRow : OpenClaim := { program := "ytelmlkcoeihhjaa", sum := "744d88821d5c348f1cfe816d3e1306260f79fbe0af6284ccdac77ab8f5f02d75", func := "marline/marlinelaw19.LqrBack", spec := "lqrBack", apart := false }
def LqrBackSaid : Prop := lqrBackRow.holds Try.pinned (OpenSpec.ofChange lqrBackSpec)

/-- ITS FALSE NEIGHBOUR: 'it returns false'. Refute it at one input. -/
def lqrBackWrong : ChangeSpec := { name := "lqrBack", fn := fun _ => fun
  | [d1, d2] => { results := [.lit (.bool false)], args := [d1, d2] }
  | _ => none }
def LqrBackWrongFalsely : Prop := lqrBackRow.holds Try.pinned (OpenSpec.ofChange lqrBackWrong)

/-- 'marlinelaw09.ProtoTells': WHATEVER THE INPUT: true; the input reads as it did. -/
def protoTellsSpec : ChangeSpec := { name := "protoTells", fn := fun _ => fun
  | [d1, d2, d3] => { results := [.lit (.bool true)], args := [d1, d2, d3] }
  | _ => none }
def protoTellsRow : OpenClaim := { program := "ytelmlkcoeihhjaa", sum := "744d88821d5c348f1cfe816d3e1306260f79fbe0af6284ccdac77ab8f5f02d75", func := "marline/marlinelaw09.ProtoTells", spec := "protoTells", apart := false }
def ProtoTellsSaid : Prop := protoTellsRow.holds Try.pinned (OpenSpec.ofChange protoTellsSpec)

/-- ITS FALSE NEIGHBOUR: 'it returns false'. Refute it at one input. -/
def protoTellsWrong : ChangeSpec := { name := "protoTells", fn := fun _ => fun
  | [d1, d2, d3] => { results := [.lit (.bool false)], args := [d1, d2, d3] }
  | _ => none }
def ProtoTellsWrongFalsely : Prop := protoTellsRow.holds Try.pinned (OpenSpec.ofChange protoTellsWrong)

/-- 'marlinelaw19.LqrTells': WHATEVER THE INPUT: true; the input reads as it did. -/
def lqrTellsSpec : ChangeSpec := { name := "lqrTells", fn := fun _ => fun
  | [d1, d2, d3] => { results := [.lit (.bool true)], args := [d1, d2, d3] }
  | _ => none }
def lqrTellsRow : OpenClaim := { program := "ytelmlkcoeihhjaa", sum := "744d88821d5c348f1cfe816d3e1306260f79fbe0af6284ccdac77ab8f5f02d75", func := "marline/marlinelaw19.LqrTells", spec := "lqrTells", unfollowed := true, recurses := true, apart := false }
def LqrTellsSaid : Prop := lqrTellsRow.holds Try.pinned (OpenSpec.ofChange lqrTellsSpec)

/-- ITS FALSE NEIGHBOUR: 'it returns false'. Refute it at one input. -/
def lqrTellsWrong : ChangeSpec := { name := "lqrTells", fn := fun _ => fun
  | [d1, d2, d3] => { results := [.lit (.bool false)], args := [d1, d2, d3] }
  | _ => none }
def LqrTellsWrongFalsely : Prop := lqrTellsRow.holds Try.pinned (OpenSpec.ofChange lqrTellsWrong)

/- THE SECOND FORM. 'bulk': how many values and letters a reading holds, each counted each time it is reached (what is shared counts as often as it is met; a slice's spare places count too). A statement '..UptoSaid' is the law's where the arguments, and the package variables that the reading takes, are together of bulk at most 1048576: NARROWER than '..Said'. Prove '..Said' where nothing that the law and all that it calls make is longer than what came in: it says more and counts as full. Else prove '..UptoSaid'. A law counts once. -/
mutual
def uptoBulk {H : Type} : DataW H → Nat
  | .lit (.string bytes) => bytes.length + 1
  | .lit _ => 1
  | .nil => 1
  | .ptr d => uptoBulk d + 1
  | .slice elems spare => uptoBulkAll elems + uptoBulkAll spare + 1
  | .agg parts => uptoBulkAll parts + 1
  | .iface _ d => uptoBulk d + 1
  | .map entries => uptoBulkEntries entries + 1
  | .held _ => 1
def uptoBulkAll {H : Type} : List (DataW H) → Nat
  | [] => 0
  | d :: r => uptoBulk d + uptoBulkAll r
def uptoBulkEntries {H : Type} : List (Lit × DataW H) → Nat
  | [] => 0
  | x :: r => uptoBulkEntry x + uptoBulkEntries r
def uptoBulkEntry {H : Type} : Lit × DataW H → Nat
  | (.string bytes, d) => bytes.length + uptoBulk d + 1
  | (_, d) => uptoBulk d + 1
 end
def uptoSmall : (H : Type) → List (DataW H) → Bool := fun _ ds => decide (uptoBulkAll ds ≤ 1048576)
def OpenSpec.upto (s : _root_.Go.ChangeSpec) : _root_.Go.OpenSpec := { _root_.Go.OpenSpec.ofChange s with cond := some uptoSmall }

/-- 'marlinelaw09.ProtoFirst', WHERE WHAT IT READS IS OF BULK AT MOST 1048576: true; the input reads as it did. -/
def protoFirstUptoRow : OpenClaim := { program := "ytelmlkcoeihhjaa", sum := "744d88821d5c348f1cfe816d3e1306260f79fbe0af6284ccdac77ab8f5f02d75", func := "marline/marlinelaw09.ProtoFirst", spec := "protoFirst", apart := false, narrowed := true }
def ProtoFirstUptoSaid : Prop := protoFirstUptoRow.holds Try.pinned (OpenSpec.upto protoFirstSpec)

/-- 'marlinelaw19.LqrLost', WHERE WHAT IT READS IS OF BULK AT MOST 1048576: true; the input reads as it did. -/
def lqrLostUptoRow : OpenClaim := { program := "ytelmlkcoeihhjaa", sum := "744d88821d5c348f1cfe816d3e1306260f79fbe0af6284ccdac77ab8f5f02d75", func := "marline/marlinelaw19.LqrLost", spec := "lqrLost", unfollowed := true, recurses := true, apart := false, narrowed := true }
def LqrLostUptoSaid : Prop := lqrLostUptoRow.holds Try.pinned (OpenSpec.upto lqrLostSpec)

/-- 'marlinelaw09.ProtoBack', WHERE WHAT IT READS IS OF BULK AT MOST 1048576: true; the input reads as it did. -/
def protoBackUptoRow : OpenClaim := { program := "ytelmlkcoeihhjaa", sum := "744d88821d5c348f1cfe816d3e1306260f79fbe0af6284ccdac77ab8f5f02d75", func := "marline/marlinelaw09.ProtoBack", spec := "protoBack", apart := false, narrowed := true }
def ProtoBackUptoSaid : Prop := protoBackUptoRow.holds Try.pinned (OpenSpec.upto protoBackSpec)

/-- 'marlinelaw19.LqrBack', WHERE WHAT IT READS IS OF BULK AT MOST 1048576: true; the input reads as it did. -/
def lqrBackUptoRow : OpenClaim := { program := "ytelmlkcoeihhjaa", sum := "744d88821d5c348f1cfe816d3e1306260f79fbe0af6284ccdac77ab8f5f02d75", func := "marline/marlinelaw19.LqrBack", spec := "lqrBack", apart := false, narrowed := true }
def LqrBackUptoSaid : Prop := lqrBackUptoRow.holds Try.pinned (OpenSpec.upto lqrBackSpec)

/-- 'marlinelaw09.ProtoTells', WHERE WHAT IT READS IS OF BULK AT MOST 1048576: true; the input reads as it did. -/
def protoTellsUptoRow : OpenClaim := { program := "ytelmlkcoeihhjaa", sum := "744d88821d5c348f1cfe816d3e1306260f79fbe0af6284ccdac77ab8f5f02d75", func := "marline/marlinelaw09.ProtoTells", spec := "protoTells", apart := false, narrowed := true }
def ProtoTellsUptoSaid : Prop := protoTellsUptoRow.holds Try.pinned (OpenSpec.upto protoTellsSpec)

/-- 'marlinelaw19.LqrTells', WHERE WHAT IT READS IS OF BULK AT MOST 1048576: true; the input reads as it did. -/
def lqrTellsUptoRow : OpenClaim := { program := "ytelmlkcoeihhjaa", sum := "744d88821d5c348f1cfe816d3e1306260f79fbe0af6284ccdac77ab8f5f02d75", func := "marline/marlinelaw19.LqrTells", spec := "lqrTells", unfollowed := true, recurses := true, apart := false, narrowed := true }
def LqrTellsUptoSaid : Prop := lqrTellsUptoRow.holds Try.pinned (OpenSpec.upto lqrTellsSpec)

end Rows
end Go.Proofs.Ytelmlkcoeihhjaa
