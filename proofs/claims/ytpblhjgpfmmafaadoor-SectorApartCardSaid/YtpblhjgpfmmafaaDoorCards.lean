/-
  DERIVED. GIVEN WITH THE SEED: THE CARDS: each row of YtpblhjgpfmmafaaDoorRows.lean that lists a variable, with what it lists TIED to the program's text (the seventh form; the later family's looks); each row that meets fmt, with fmt's text TOLD by the authors' own Lean function (tested against real Go, not proved from fmt's source: count such statements apart). THE CARD IS WHAT COUNTS. Prove the row's statement (the work); the ties are given (YtpblhjgpfmmafaaDoorTie.lean); close each card by the builder's one call (the guide's Derived/Test/ToyasCard.lean, 'card_holds'). Laid BY PROGRAM, IN A SANDBOX (cutbox-door.mjs). By AI agents, Wed Nov 11 2026. No macro, syntax, notation, axiom, sorry.
-/
import Derived.Test.YtpblhjgpfmmafaaDoorRows
import GoSem.ClaimSeven
namespace Go.Proofs.YtpblhjgpfmmafaaDoor
namespace Rows

/-- THE TIED CARD OF 'triremelaw03.ShaSums'. -/
def shaSumsCard : Claim7 := { stood := { row := shaSumsRow, standIns := [], harness := (true, "80d0a0eddef1fdd2183107d421117090587f72e75a861fc9ef7267570cf99d18"), looks := false }, kinds := [], alts := [], laidByText := true, laidKinds := [.data, .data], laidTests := true, laidLooks := .later }
def ShaSumsCardSaid : Prop := Claim7.holds Tryd.pinned (.plain (OpenSpec.ofChange shaSumsSpec)) shaSumsCard

/-- THE TIED CARD OF 'triremelaw03.ShaPieces'. -/
def shaPiecesCard : Claim7 := { stood := { row := shaPiecesRow, standIns := [], harness := (true, "80d0a0eddef1fdd2183107d421117090587f72e75a861fc9ef7267570cf99d18"), looks := false }, kinds := [], alts := [], laidByText := true, laidKinds := [.data, .data], laidTests := true, laidLooks := .later }
def ShaPiecesCardSaid : Prop := Claim7.holds Tryd.pinned (.plain (OpenSpec.ofChange shaPiecesSpec)) shaPiecesCard

/-- THE TIED CARD OF 'triremelaw03.ShaApart'. -/
def shaApartCard : Claim7 := { stood := { row := shaApartRow, standIns := [], harness := (true, "80d0a0eddef1fdd2183107d421117090587f72e75a861fc9ef7267570cf99d18"), looks := false }, kinds := [], alts := [], laidByText := true, laidKinds := [.data, .data], laidTests := true, laidLooks := .later }
def ShaApartCardSaid : Prop := Claim7.holds Tryd.pinned (.plain (OpenSpec.ofChange shaApartSpec)) shaApartCard

/-- THE TIED CARD OF 'triremelaw03.ShaNothing'. -/
def shaNothingCard : Claim7 := { stood := { row := shaNothingRow, standIns := [], harness := (true, "80d0a0eddef1fdd2183107d421117090587f72e75a861fc9ef7267570cf99d18"), looks := false }, kinds := [], alts := [], laidByText := true, laidKinds := [.data, .data], laidTests := true, laidLooks := .later }
def ShaNothingCardSaid : Prop := Claim7.holds Tryd.pinned (.plain (OpenSpec.ofChange shaNothingSpec)) shaNothingCard

/-- THE TIED CARD OF 'triremelaw04.SectorWraps'. -/
def sectorWrapsCard : Claim7 := { stood := { row := sectorWrapsRow, standIns := [], harness := (true, "80d0a0eddef1fdd2183107d421117090587f72e75a861fc9ef7267570cf99d18"), looks := false }, kinds := [], alts := [], laidByText := true, laidKinds := [.data, .data], laidTests := true, laidLooks := .later }
def SectorWrapsCardSaid : Prop := Claim7.holds Tryd.pinned (.plain (OpenSpec.ofChange sectorWrapsSpec)) sectorWrapsCard

/-- THE TIED CARD OF 'triremelaw04.SectorSupers'. -/
def sectorSupersCard : Claim7 := { stood := { row := sectorSupersRow, standIns := [], harness := (true, "80d0a0eddef1fdd2183107d421117090587f72e75a861fc9ef7267570cf99d18"), looks := false }, kinds := [], alts := [], laidByText := true, laidKinds := [.data, .data], laidTests := true, laidLooks := .later }
def SectorSupersCardSaid : Prop := Claim7.holds Tryd.pinned (.plain (OpenSpec.ofChange sectorSupersSpec)) sectorSupersCard

/-- THE TIED CARD OF 'triremelaw04.SectorTorn'. -/
def sectorTornCard : Claim7 := { stood := { row := sectorTornRow, standIns := [], harness := (true, "80d0a0eddef1fdd2183107d421117090587f72e75a861fc9ef7267570cf99d18"), looks := false }, kinds := [], alts := [], laidByText := true, laidKinds := [.data, .data], laidTests := true, laidLooks := .later }
def SectorTornCardSaid : Prop := Claim7.holds Tryd.pinned (.plain (OpenSpec.ofChange sectorTornSpec)) sectorTornCard

/-- THE TIED CARD OF 'triremelaw04.SectorApart'. -/
def sectorApartCard : Claim7 := { stood := { row := sectorApartRow, standIns := [], harness := (true, "80d0a0eddef1fdd2183107d421117090587f72e75a861fc9ef7267570cf99d18"), looks := false }, kinds := [], alts := [], laidByText := true, laidKinds := [.data, .data], laidTests := true, laidLooks := .later }
def SectorApartCardSaid : Prop := Claim7.holds Tryd.pinned (.plain (OpenSpec.ofChange sectorApartSpec)) sectorApartCard

/-- THE TIED CARD OF 'triremelaw04.SectorUnlike'. -/
def sectorUnlikeCard : Claim7 := { stood := { row := sectorUnlikeRow, standIns := [], harness := (true, "80d0a0eddef1fdd2183107d421117090587f72e75a861fc9ef7267570cf99d18"), looks := false }, kinds := [], alts := [], laidByText := true, laidKinds := [.data, .data], laidTests := true, laidLooks := .later }
def SectorUnlikeCardSaid : Prop := Claim7.holds Tryd.pinned (.plain (OpenSpec.ofChange sectorUnlikeSpec)) sectorUnlikeCard

/-- THE SECOND FORM's CARD OF 'triremelaw03.ShaSums'. -/
def shaSumsUptoCard : Claim7 := { stood := { row := shaSumsUptoRow, standIns := [], harness := (true, "80d0a0eddef1fdd2183107d421117090587f72e75a861fc9ef7267570cf99d18"), looks := false }, kinds := [], alts := [], laidByText := true, laidKinds := [.data, .data], laidTests := true, laidLooks := .later }
def ShaSumsUptoCardSaid : Prop := Claim7.holds Tryd.pinned (.plain (OpenSpec.upto shaSumsSpec)) shaSumsUptoCard

/-- THE SECOND FORM's CARD OF 'triremelaw03.ShaPieces'. -/
def shaPiecesUptoCard : Claim7 := { stood := { row := shaPiecesUptoRow, standIns := [], harness := (true, "80d0a0eddef1fdd2183107d421117090587f72e75a861fc9ef7267570cf99d18"), looks := false }, kinds := [], alts := [], laidByText := true, laidKinds := [.data, .data], laidTests := true, laidLooks := .later }
def ShaPiecesUptoCardSaid : Prop := Claim7.holds Tryd.pinned (.plain (OpenSpec.upto shaPiecesSpec)) shaPiecesUptoCard

/-- THE SECOND FORM's CARD OF 'triremelaw03.ShaApart'. -/
def shaApartUptoCard : Claim7 := { stood := { row := shaApartUptoRow, standIns := [], harness := (true, "80d0a0eddef1fdd2183107d421117090587f72e75a861fc9ef7267570cf99d18"), looks := false }, kinds := [], alts := [], laidByText := true, laidKinds := [.data, .data], laidTests := true, laidLooks := .later }
def ShaApartUptoCardSaid : Prop := Claim7.holds Tryd.pinned (.plain (OpenSpec.upto shaApartSpec)) shaApartUptoCard

/-- THE SECOND FORM's CARD OF 'triremelaw03.ShaNothing'. -/
def shaNothingUptoCard : Claim7 := { stood := { row := shaNothingUptoRow, standIns := [], harness := (true, "80d0a0eddef1fdd2183107d421117090587f72e75a861fc9ef7267570cf99d18"), looks := false }, kinds := [], alts := [], laidByText := true, laidKinds := [.data, .data], laidTests := true, laidLooks := .later }
def ShaNothingUptoCardSaid : Prop := Claim7.holds Tryd.pinned (.plain (OpenSpec.upto shaNothingSpec)) shaNothingUptoCard

/-- THE SECOND FORM's CARD OF 'triremelaw04.SectorWraps'. -/
def sectorWrapsUptoCard : Claim7 := { stood := { row := sectorWrapsUptoRow, standIns := [], harness := (true, "80d0a0eddef1fdd2183107d421117090587f72e75a861fc9ef7267570cf99d18"), looks := false }, kinds := [], alts := [], laidByText := true, laidKinds := [.data, .data], laidTests := true, laidLooks := .later }
def SectorWrapsUptoCardSaid : Prop := Claim7.holds Tryd.pinned (.plain (OpenSpec.upto sectorWrapsSpec)) sectorWrapsUptoCard

/-- THE SECOND FORM's CARD OF 'triremelaw04.SectorSupers'. -/
def sectorSupersUptoCard : Claim7 := { stood := { row := sectorSupersUptoRow, standIns := [], harness := (true, "80d0a0eddef1fdd2183107d421117090587f72e75a861fc9ef7267570cf99d18"), looks := false }, kinds := [], alts := [], laidByText := true, laidKinds := [.data, .data], laidTests := true, laidLooks := .later }
def SectorSupersUptoCardSaid : Prop := Claim7.holds Tryd.pinned (.plain (OpenSpec.upto sectorSupersSpec)) sectorSupersUptoCard

/-- THE SECOND FORM's CARD OF 'triremelaw04.SectorTorn'. -/
def sectorTornUptoCard : Claim7 := { stood := { row := sectorTornUptoRow, standIns := [], harness := (true, "80d0a0eddef1fdd2183107d421117090587f72e75a861fc9ef7267570cf99d18"), looks := false }, kinds := [], alts := [], laidByText := true, laidKinds := [.data, .data], laidTests := true, laidLooks := .later }
def SectorTornUptoCardSaid : Prop := Claim7.holds Tryd.pinned (.plain (OpenSpec.upto sectorTornSpec)) sectorTornUptoCard

/-- THE SECOND FORM's CARD OF 'triremelaw04.SectorApart'. -/
def sectorApartUptoCard : Claim7 := { stood := { row := sectorApartUptoRow, standIns := [], harness := (true, "80d0a0eddef1fdd2183107d421117090587f72e75a861fc9ef7267570cf99d18"), looks := false }, kinds := [], alts := [], laidByText := true, laidKinds := [.data, .data], laidTests := true, laidLooks := .later }
def SectorApartUptoCardSaid : Prop := Claim7.holds Tryd.pinned (.plain (OpenSpec.upto sectorApartSpec)) sectorApartUptoCard

/-- THE SECOND FORM's CARD OF 'triremelaw04.SectorUnlike'. -/
def sectorUnlikeUptoCard : Claim7 := { stood := { row := sectorUnlikeUptoRow, standIns := [], harness := (true, "80d0a0eddef1fdd2183107d421117090587f72e75a861fc9ef7267570cf99d18"), looks := false }, kinds := [], alts := [], laidByText := true, laidKinds := [.data, .data], laidTests := true, laidLooks := .later }
def SectorUnlikeUptoCardSaid : Prop := Claim7.holds Tryd.pinned (.plain (OpenSpec.upto sectorUnlikeSpec)) sectorUnlikeUptoCard
end Rows
end Go.Proofs.YtpblhjgpfmmafaaDoor
