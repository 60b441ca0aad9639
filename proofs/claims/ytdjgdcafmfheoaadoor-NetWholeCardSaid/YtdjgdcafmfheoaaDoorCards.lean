/-
  DERIVED. GIVEN WITH THE SEED: THE CARDS: each row of YtdjgdcafmfheoaaDoorRows.lean that lists a variable, with what it lists TIED to the program's text (the seventh form; the later family's looks); each row that meets fmt, with fmt's text TOLD by the authors' own Lean function (tested against real Go, not proved from fmt's source: count such statements apart). THE CARD IS WHAT COUNTS. Prove the row's statement (the work); the ties are given (YtdjgdcafmfheoaaDoorTie.lean); close each card by the builder's one call (the guide's Derived/Test/ToyasCard.lean, 'card_holds'). Laid BY PROGRAM, IN A SANDBOX (cutbox-door.mjs). By AI agents, Wed Nov 11 2026. No macro, syntax, notation, axiom, sorry.
-/
import Derived.Test.YtdjgdcafmfheoaaDoorRows
import GoSem.ClaimSeven
namespace Go.Proofs.YtdjgdcafmfheoaaDoor
namespace Rows

/-- THE TIED CARD OF 'triremelaw19.WireNames'. -/
def wireNamesCard : Claim7 := { stood := { row := wireNamesRow, standIns := [], harness := (true, "2be11153a7fca94283688e7d08a5501dc49fefa543f8c5c6b5b7c4d215e9b4e7"), looks := false }, kinds := [], alts := [], laidByText := true, laidKinds := [.data, .data], laidTests := true, laidLooks := .later }
def WireNamesCardSaid : Prop := Claim7.holds Tryd.pinned (.plain (OpenSpec.ofChange wireNamesSpec)) wireNamesCard

/-- THE TIED CARD OF 'triremelaw19.WireHeads'. -/
def wireHeadsCard : Claim7 := { stood := { row := wireHeadsRow, standIns := [], harness := (true, "2be11153a7fca94283688e7d08a5501dc49fefa543f8c5c6b5b7c4d215e9b4e7"), looks := false }, kinds := [], alts := [], laidByText := true, laidKinds := [.data, .data], laidTests := true, laidLooks := .later }
def WireHeadsCardSaid : Prop := Claim7.holds Tryd.pinned (.plain (OpenSpec.ofChange wireHeadsSpec)) wireHeadsCard

/-- THE TIED CARD OF 'triremelaw19.WireReads'. -/
def wireReadsCard : Claim7 := { stood := { row := wireReadsRow, standIns := [], harness := (true, "2be11153a7fca94283688e7d08a5501dc49fefa543f8c5c6b5b7c4d215e9b4e7"), looks := false }, kinds := [], alts := [], laidByText := true, laidKinds := [.data, .data], laidTests := true, laidLooks := .later }
def WireReadsCardSaid : Prop := Claim7.holds Tryd.pinned (.plain (OpenSpec.ofChange wireReadsSpec)) wireReadsCard

/-- THE TIED CARD OF 'triremelaw19.WireCuts'. -/
def wireCutsCard : Claim7 := { stood := { row := wireCutsRow, standIns := [], harness := (true, "2be11153a7fca94283688e7d08a5501dc49fefa543f8c5c6b5b7c4d215e9b4e7"), looks := false }, kinds := [], alts := [], laidByText := true, laidKinds := [.data, .data], laidTests := true, laidLooks := .later }
def WireCutsCardSaid : Prop := Claim7.holds Tryd.pinned (.plain (OpenSpec.ofChange wireCutsSpec)) wireCutsCard

/-- THE TIED CARD OF 'triremelaw19.WireWrites'. -/
def wireWritesCard : Claim7 := { stood := { row := wireWritesRow, standIns := [], harness := (true, "2be11153a7fca94283688e7d08a5501dc49fefa543f8c5c6b5b7c4d215e9b4e7"), looks := false }, kinds := [], alts := [], laidByText := true, laidKinds := [.data, .data], laidTests := true, laidLooks := .later }
def WireWritesCardSaid : Prop := Claim7.holds Tryd.pinned (.plain (OpenSpec.ofChange wireWritesSpec)) wireWritesCard

/-- THE TIED CARD OF 'triremelaw24.NetPlays'. -/
def netPlaysCard : Claim7 := { stood := { row := netPlaysRow, standIns := [], harness := (true, "2be11153a7fca94283688e7d08a5501dc49fefa543f8c5c6b5b7c4d215e9b4e7"), looks := false }, kinds := [], alts := [], laidByText := true, laidKinds := [.data, .data], laidTests := true, laidLooks := .later }
def NetPlaysCardSaid : Prop := Claim7.holds Tryd.pinned (.plain (OpenSpec.ofChange netPlaysSpec)) netPlaysCard

/-- THE TIED CARD OF 'triremelaw24.NetWhole'. -/
def netWholeCard : Claim7 := { stood := { row := netWholeRow, standIns := [], harness := (true, "2be11153a7fca94283688e7d08a5501dc49fefa543f8c5c6b5b7c4d215e9b4e7"), looks := false }, kinds := [], alts := [], laidByText := true, laidKinds := [.data, .data], laidTests := true, laidLooks := .later }
def NetWholeCardSaid : Prop := Claim7.holds Tryd.pinned (.plain (OpenSpec.ofChange netWholeSpec)) netWholeCard

/-- THE TIED CARD OF 'triremelaw24.NetFirst'. -/
def netFirstCard : Claim7 := { stood := { row := netFirstRow, standIns := [], harness := (true, "2be11153a7fca94283688e7d08a5501dc49fefa543f8c5c6b5b7c4d215e9b4e7"), looks := false }, kinds := [], alts := [], laidByText := true, laidKinds := [.data, .data], laidTests := true, laidLooks := .later }
def NetFirstCardSaid : Prop := Claim7.holds Tryd.pinned (.plain (OpenSpec.ofChange netFirstSpec)) netFirstCard

/-- THE TIED CARD OF 'triremelaw25.ClientPlays'. -/
def clientPlaysCard : Claim7 := { stood := { row := clientPlaysRow, standIns := [], harness := (true, "2be11153a7fca94283688e7d08a5501dc49fefa543f8c5c6b5b7c4d215e9b4e7"), looks := false }, kinds := [], alts := [], laidByText := true, laidKinds := [.data, .data], laidTests := true, laidLooks := .later }
def ClientPlaysCardSaid : Prop := Claim7.holds Tryd.pinned (.plain (OpenSpec.ofChange clientPlaysSpec)) clientPlaysCard

/-- THE TIED CARD OF 'triremelaw25.ClientOnce'. -/
def clientOnceCard : Claim7 := { stood := { row := clientOnceRow, standIns := [], harness := (true, "2be11153a7fca94283688e7d08a5501dc49fefa543f8c5c6b5b7c4d215e9b4e7"), looks := false }, kinds := [], alts := [], laidByText := true, laidKinds := [.data, .data], laidTests := true, laidLooks := .later }
def ClientOnceCardSaid : Prop := Claim7.holds Tryd.pinned (.plain (OpenSpec.ofChange clientOnceSpec)) clientOnceCard

/-- THE TIED CARD OF 'triremelaw25.ClientAgain'. -/
def clientAgainCard : Claim7 := { stood := { row := clientAgainRow, standIns := [], harness := (true, "2be11153a7fca94283688e7d08a5501dc49fefa543f8c5c6b5b7c4d215e9b4e7"), looks := false }, kinds := [], alts := [], laidByText := true, laidKinds := [.data, .data], laidTests := true, laidLooks := .later }
def ClientAgainCardSaid : Prop := Claim7.holds Tryd.pinned (.plain (OpenSpec.ofChange clientAgainSpec)) clientAgainCard

/-- THE SECOND FORM's CARD OF 'triremelaw19.WireNames'. -/
def wireNamesUptoCard : Claim7 := { stood := { row := wireNamesUptoRow, standIns := [], harness := (true, "2be11153a7fca94283688e7d08a5501dc49fefa543f8c5c6b5b7c4d215e9b4e7"), looks := false }, kinds := [], alts := [], laidByText := true, laidKinds := [.data, .data], laidTests := true, laidLooks := .later }
def WireNamesUptoCardSaid : Prop := Claim7.holds Tryd.pinned (.plain (OpenSpec.upto wireNamesSpec)) wireNamesUptoCard

/-- THE SECOND FORM's CARD OF 'triremelaw19.WireHeads'. -/
def wireHeadsUptoCard : Claim7 := { stood := { row := wireHeadsUptoRow, standIns := [], harness := (true, "2be11153a7fca94283688e7d08a5501dc49fefa543f8c5c6b5b7c4d215e9b4e7"), looks := false }, kinds := [], alts := [], laidByText := true, laidKinds := [.data, .data], laidTests := true, laidLooks := .later }
def WireHeadsUptoCardSaid : Prop := Claim7.holds Tryd.pinned (.plain (OpenSpec.upto wireHeadsSpec)) wireHeadsUptoCard

/-- THE SECOND FORM's CARD OF 'triremelaw19.WireReads'. -/
def wireReadsUptoCard : Claim7 := { stood := { row := wireReadsUptoRow, standIns := [], harness := (true, "2be11153a7fca94283688e7d08a5501dc49fefa543f8c5c6b5b7c4d215e9b4e7"), looks := false }, kinds := [], alts := [], laidByText := true, laidKinds := [.data, .data], laidTests := true, laidLooks := .later }
def WireReadsUptoCardSaid : Prop := Claim7.holds Tryd.pinned (.plain (OpenSpec.upto wireReadsSpec)) wireReadsUptoCard

/-- THE SECOND FORM's CARD OF 'triremelaw19.WireCuts'. -/
def wireCutsUptoCard : Claim7 := { stood := { row := wireCutsUptoRow, standIns := [], harness := (true, "2be11153a7fca94283688e7d08a5501dc49fefa543f8c5c6b5b7c4d215e9b4e7"), looks := false }, kinds := [], alts := [], laidByText := true, laidKinds := [.data, .data], laidTests := true, laidLooks := .later }
def WireCutsUptoCardSaid : Prop := Claim7.holds Tryd.pinned (.plain (OpenSpec.upto wireCutsSpec)) wireCutsUptoCard

/-- THE SECOND FORM's CARD OF 'triremelaw19.WireWrites'. -/
def wireWritesUptoCard : Claim7 := { stood := { row := wireWritesUptoRow, standIns := [], harness := (true, "2be11153a7fca94283688e7d08a5501dc49fefa543f8c5c6b5b7c4d215e9b4e7"), looks := false }, kinds := [], alts := [], laidByText := true, laidKinds := [.data, .data], laidTests := true, laidLooks := .later }
def WireWritesUptoCardSaid : Prop := Claim7.holds Tryd.pinned (.plain (OpenSpec.upto wireWritesSpec)) wireWritesUptoCard

/-- THE SECOND FORM's CARD OF 'triremelaw24.NetPlays'. -/
def netPlaysUptoCard : Claim7 := { stood := { row := netPlaysUptoRow, standIns := [], harness := (true, "2be11153a7fca94283688e7d08a5501dc49fefa543f8c5c6b5b7c4d215e9b4e7"), looks := false }, kinds := [], alts := [], laidByText := true, laidKinds := [.data, .data], laidTests := true, laidLooks := .later }
def NetPlaysUptoCardSaid : Prop := Claim7.holds Tryd.pinned (.plain (OpenSpec.upto netPlaysSpec)) netPlaysUptoCard

/-- THE SECOND FORM's CARD OF 'triremelaw24.NetWhole'. -/
def netWholeUptoCard : Claim7 := { stood := { row := netWholeUptoRow, standIns := [], harness := (true, "2be11153a7fca94283688e7d08a5501dc49fefa543f8c5c6b5b7c4d215e9b4e7"), looks := false }, kinds := [], alts := [], laidByText := true, laidKinds := [.data, .data], laidTests := true, laidLooks := .later }
def NetWholeUptoCardSaid : Prop := Claim7.holds Tryd.pinned (.plain (OpenSpec.upto netWholeSpec)) netWholeUptoCard

/-- THE SECOND FORM's CARD OF 'triremelaw24.NetFirst'. -/
def netFirstUptoCard : Claim7 := { stood := { row := netFirstUptoRow, standIns := [], harness := (true, "2be11153a7fca94283688e7d08a5501dc49fefa543f8c5c6b5b7c4d215e9b4e7"), looks := false }, kinds := [], alts := [], laidByText := true, laidKinds := [.data, .data], laidTests := true, laidLooks := .later }
def NetFirstUptoCardSaid : Prop := Claim7.holds Tryd.pinned (.plain (OpenSpec.upto netFirstSpec)) netFirstUptoCard

/-- THE SECOND FORM's CARD OF 'triremelaw25.ClientPlays'. -/
def clientPlaysUptoCard : Claim7 := { stood := { row := clientPlaysUptoRow, standIns := [], harness := (true, "2be11153a7fca94283688e7d08a5501dc49fefa543f8c5c6b5b7c4d215e9b4e7"), looks := false }, kinds := [], alts := [], laidByText := true, laidKinds := [.data, .data], laidTests := true, laidLooks := .later }
def ClientPlaysUptoCardSaid : Prop := Claim7.holds Tryd.pinned (.plain (OpenSpec.upto clientPlaysSpec)) clientPlaysUptoCard

/-- THE SECOND FORM's CARD OF 'triremelaw25.ClientOnce'. -/
def clientOnceUptoCard : Claim7 := { stood := { row := clientOnceUptoRow, standIns := [], harness := (true, "2be11153a7fca94283688e7d08a5501dc49fefa543f8c5c6b5b7c4d215e9b4e7"), looks := false }, kinds := [], alts := [], laidByText := true, laidKinds := [.data, .data], laidTests := true, laidLooks := .later }
def ClientOnceUptoCardSaid : Prop := Claim7.holds Tryd.pinned (.plain (OpenSpec.upto clientOnceSpec)) clientOnceUptoCard

/-- THE SECOND FORM's CARD OF 'triremelaw25.ClientAgain'. -/
def clientAgainUptoCard : Claim7 := { stood := { row := clientAgainUptoRow, standIns := [], harness := (true, "2be11153a7fca94283688e7d08a5501dc49fefa543f8c5c6b5b7c4d215e9b4e7"), looks := false }, kinds := [], alts := [], laidByText := true, laidKinds := [.data, .data], laidTests := true, laidLooks := .later }
def ClientAgainUptoCardSaid : Prop := Claim7.holds Tryd.pinned (.plain (OpenSpec.upto clientAgainSpec)) clientAgainUptoCard
end Rows
end Go.Proofs.YtdjgdcafmfheoaaDoor
