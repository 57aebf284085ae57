/-
  DERIVED. GIVEN WITH THE SEED: THE CARDS: each row of YtgopklnfdlnojaaDoorRows.lean that lists a variable, with what it lists TIED to the program's text (the seventh form; the later family's looks); each row that meets fmt, with fmt's text TOLD by the authors' own Lean function (tested against real Go, not proved from fmt's source: count such statements apart). THE CARD IS WHAT COUNTS. Prove the row's statement (the work); the ties are given (YtgopklnfdlnojaaDoorTie.lean); close each card by the builder's one call (the guide's Derived/Test/ToyasCard.lean, 'card_holds'). Laid BY PROGRAM, IN A SANDBOX (cutbox-door.mjs). By AI agents, Wed Nov 11 2026. No macro, syntax, notation, axiom, sorry.
-/
import Derived.Test.YtgopklnfdlnojaaDoorRows
import GoSem.ClaimSeven
namespace Go.Proofs.YtgopklnfdlnojaaDoor
namespace Rows

/-- THE TIED CARD OF 'marlinelaw23.FragTells'. -/
def fragTellsCard : Claim7 := { stood := { row := fragTellsRow, standIns := [], harness := (true, "7b3f46ebfda9860efd57da3f6b0c1a7a078a9ea0e388306821c61352140c65b1"), looks := false }, kinds := [], alts := [], laidByText := true, laidKinds := [.data], laidTests := true, laidLooks := .later }
def FragTellsCardSaid : Prop := Claim7.holds Tryd.pinned (.plain (OpenSpec.ofChange fragTellsSpec)) fragTellsCard

/-- THE TIED CARD OF 'marlinelaw23.FragBack'. -/
def fragBackCard : Claim7 := { stood := { row := fragBackRow, standIns := [], harness := (true, "7b3f46ebfda9860efd57da3f6b0c1a7a078a9ea0e388306821c61352140c65b1"), looks := false }, kinds := [], alts := [], laidByText := true, laidKinds := [.data], laidTests := true, laidLooks := .later }
def FragBackCardSaid : Prop := Claim7.holds Tryd.pinned (.plain (OpenSpec.ofChange fragBackSpec)) fragBackCard

/-- THE TIED CARD OF 'marlinelaw23.FragSplits'. -/
def fragSplitsCard : Claim7 := { stood := { row := fragSplitsRow, standIns := [], harness := (true, "7b3f46ebfda9860efd57da3f6b0c1a7a078a9ea0e388306821c61352140c65b1"), looks := false }, kinds := [], alts := [], laidByText := true, laidKinds := [.data], laidTests := true, laidLooks := .later }
def FragSplitsCardSaid : Prop := Claim7.holds Tryd.pinned (.plain (OpenSpec.ofChange fragSplitsSpec)) fragSplitsCard

/-- THE TIED CARD OF 'marlinelaw23.FragLoss'. -/
def fragLossCard : Claim7 := { stood := { row := fragLossRow, standIns := [], harness := (true, "7b3f46ebfda9860efd57da3f6b0c1a7a078a9ea0e388306821c61352140c65b1"), looks := false }, kinds := [], alts := [], laidByText := true, laidKinds := [.data], laidTests := true, laidLooks := .later }
def FragLossCardSaid : Prop := Claim7.holds Tryd.pinned (.plain (OpenSpec.ofChange fragLossSpec)) fragLossCard

/-- THE TIED CARD OF 'marlinelaw23.FragThere'. -/
def fragThereCard : Claim7 := { stood := { row := fragThereRow, standIns := [], harness := (true, "7b3f46ebfda9860efd57da3f6b0c1a7a078a9ea0e388306821c61352140c65b1"), looks := false }, kinds := [], alts := [], laidByText := true, laidKinds := [.data], laidTests := true, laidLooks := .later }
def FragThereCardSaid : Prop := Claim7.holds Tryd.pinned (.plain (OpenSpec.ofChange fragThereSpec)) fragThereCard

/-- THE TIED CARD OF 'marlinelaw24.JoinPlays'. -/
def joinPlaysCard : Claim7 := { stood := { row := joinPlaysRow, standIns := [], harness := (true, "7b3f46ebfda9860efd57da3f6b0c1a7a078a9ea0e388306821c61352140c65b1"), looks := false }, kinds := [], alts := [], laidByText := true, laidKinds := [.data], laidTests := true, laidLooks := .later }
def JoinPlaysCardSaid : Prop := Claim7.holds Tryd.pinned (.plain (OpenSpec.ofChange joinPlaysSpec)) joinPlaysCard

/-- THE TIED CARD OF 'marlinelaw24.JoinRoom'. -/
def joinRoomCard : Claim7 := { stood := { row := joinRoomRow, standIns := [], harness := (true, "7b3f46ebfda9860efd57da3f6b0c1a7a078a9ea0e388306821c61352140c65b1"), looks := false }, kinds := [], alts := [], laidByText := true, laidKinds := [.data], laidTests := true, laidLooks := .later }
def JoinRoomCardSaid : Prop := Claim7.holds Tryd.pinned (.plain (OpenSpec.ofChange joinRoomSpec)) joinRoomCard

/-- THE TIED CARD OF 'marlinelaw24.JoinSome'. -/
def joinSomeCard : Claim7 := { stood := { row := joinSomeRow, standIns := [], harness := (true, "7b3f46ebfda9860efd57da3f6b0c1a7a078a9ea0e388306821c61352140c65b1"), looks := false }, kinds := [], alts := [], laidByText := true, laidKinds := [.data], laidTests := true, laidLooks := .later }
def JoinSomeCardSaid : Prop := Claim7.holds Tryd.pinned (.plain (OpenSpec.ofChange joinSomeSpec)) joinSomeCard

/-- THE TIED CARD OF 'marlinelaw24.JoinAll'. -/
def joinAllCard : Claim7 := { stood := { row := joinAllRow, standIns := [], harness := (true, "7b3f46ebfda9860efd57da3f6b0c1a7a078a9ea0e388306821c61352140c65b1"), looks := false }, kinds := [], alts := [], laidByText := true, laidKinds := [.data], laidTests := true, laidLooks := .later }
def JoinAllCardSaid : Prop := Claim7.holds Tryd.pinned (.plain (OpenSpec.ofChange joinAllSpec)) joinAllCard

/-- THE SECOND FORM's CARD OF 'marlinelaw23.FragTells'. -/
def fragTellsUptoCard : Claim7 := { stood := { row := fragTellsUptoRow, standIns := [], harness := (true, "7b3f46ebfda9860efd57da3f6b0c1a7a078a9ea0e388306821c61352140c65b1"), looks := false }, kinds := [], alts := [], laidByText := true, laidKinds := [.data], laidTests := true, laidLooks := .later }
def FragTellsUptoCardSaid : Prop := Claim7.holds Tryd.pinned (.plain (OpenSpec.upto fragTellsSpec)) fragTellsUptoCard

/-- THE SECOND FORM's CARD OF 'marlinelaw23.FragBack'. -/
def fragBackUptoCard : Claim7 := { stood := { row := fragBackUptoRow, standIns := [], harness := (true, "7b3f46ebfda9860efd57da3f6b0c1a7a078a9ea0e388306821c61352140c65b1"), looks := false }, kinds := [], alts := [], laidByText := true, laidKinds := [.data], laidTests := true, laidLooks := .later }
def FragBackUptoCardSaid : Prop := Claim7.holds Tryd.pinned (.plain (OpenSpec.upto fragBackSpec)) fragBackUptoCard

/-- THE SECOND FORM's CARD OF 'marlinelaw23.FragSplits'. -/
def fragSplitsUptoCard : Claim7 := { stood := { row := fragSplitsUptoRow, standIns := [], harness := (true, "7b3f46ebfda9860efd57da3f6b0c1a7a078a9ea0e388306821c61352140c65b1"), looks := false }, kinds := [], alts := [], laidByText := true, laidKinds := [.data], laidTests := true, laidLooks := .later }
def FragSplitsUptoCardSaid : Prop := Claim7.holds Tryd.pinned (.plain (OpenSpec.upto fragSplitsSpec)) fragSplitsUptoCard

/-- THE SECOND FORM's CARD OF 'marlinelaw23.FragLoss'. -/
def fragLossUptoCard : Claim7 := { stood := { row := fragLossUptoRow, standIns := [], harness := (true, "7b3f46ebfda9860efd57da3f6b0c1a7a078a9ea0e388306821c61352140c65b1"), looks := false }, kinds := [], alts := [], laidByText := true, laidKinds := [.data], laidTests := true, laidLooks := .later }
def FragLossUptoCardSaid : Prop := Claim7.holds Tryd.pinned (.plain (OpenSpec.upto fragLossSpec)) fragLossUptoCard

/-- THE SECOND FORM's CARD OF 'marlinelaw23.FragThere'. -/
def fragThereUptoCard : Claim7 := { stood := { row := fragThereUptoRow, standIns := [], harness := (true, "7b3f46ebfda9860efd57da3f6b0c1a7a078a9ea0e388306821c61352140c65b1"), looks := false }, kinds := [], alts := [], laidByText := true, laidKinds := [.data], laidTests := true, laidLooks := .later }
def FragThereUptoCardSaid : Prop := Claim7.holds Tryd.pinned (.plain (OpenSpec.upto fragThereSpec)) fragThereUptoCard

/-- THE SECOND FORM's CARD OF 'marlinelaw24.JoinPlays'. -/
def joinPlaysUptoCard : Claim7 := { stood := { row := joinPlaysUptoRow, standIns := [], harness := (true, "7b3f46ebfda9860efd57da3f6b0c1a7a078a9ea0e388306821c61352140c65b1"), looks := false }, kinds := [], alts := [], laidByText := true, laidKinds := [.data], laidTests := true, laidLooks := .later }
def JoinPlaysUptoCardSaid : Prop := Claim7.holds Tryd.pinned (.plain (OpenSpec.upto joinPlaysSpec)) joinPlaysUptoCard

/-- THE SECOND FORM's CARD OF 'marlinelaw24.JoinRoom'. -/
def joinRoomUptoCard : Claim7 := { stood := { row := joinRoomUptoRow, standIns := [], harness := (true, "7b3f46ebfda9860efd57da3f6b0c1a7a078a9ea0e388306821c61352140c65b1"), looks := false }, kinds := [], alts := [], laidByText := true, laidKinds := [.data], laidTests := true, laidLooks := .later }
def JoinRoomUptoCardSaid : Prop := Claim7.holds Tryd.pinned (.plain (OpenSpec.upto joinRoomSpec)) joinRoomUptoCard

/-- THE SECOND FORM's CARD OF 'marlinelaw24.JoinSome'. -/
def joinSomeUptoCard : Claim7 := { stood := { row := joinSomeUptoRow, standIns := [], harness := (true, "7b3f46ebfda9860efd57da3f6b0c1a7a078a9ea0e388306821c61352140c65b1"), looks := false }, kinds := [], alts := [], laidByText := true, laidKinds := [.data], laidTests := true, laidLooks := .later }
def JoinSomeUptoCardSaid : Prop := Claim7.holds Tryd.pinned (.plain (OpenSpec.upto joinSomeSpec)) joinSomeUptoCard

/-- THE SECOND FORM's CARD OF 'marlinelaw24.JoinAll'. -/
def joinAllUptoCard : Claim7 := { stood := { row := joinAllUptoRow, standIns := [], harness := (true, "7b3f46ebfda9860efd57da3f6b0c1a7a078a9ea0e388306821c61352140c65b1"), looks := false }, kinds := [], alts := [], laidByText := true, laidKinds := [.data], laidTests := true, laidLooks := .later }
def JoinAllUptoCardSaid : Prop := Claim7.holds Tryd.pinned (.plain (OpenSpec.upto joinAllSpec)) joinAllUptoCard
end Rows
end Go.Proofs.YtgopklnfdlnojaaDoor
