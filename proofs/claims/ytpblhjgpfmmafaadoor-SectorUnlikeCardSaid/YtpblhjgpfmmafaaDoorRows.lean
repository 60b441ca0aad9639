/-
  NARROWER THAN 'FOR EVERY INPUT', by the rows' own cells (each row's printed sentence says how): ShaSums: laid · ShaPieces: laid · ShaApart: laid · ShaNothing: laid · SectorWraps: laid · SectorSupers: laid · SectorTorn: laid · SectorApart: laid · SectorUnlike: laid.
  DERIVED. THE GIVEN ROWS OF THIS SEAT. 9 by the template 'for every input the law returns true; each argument reads behind the call as it read before'; 0 by the template 'total and deterministic' (their statements: YtpblhjgpfmmafaaDoorTotals.lean).
  GIVEN WITH THE SEED: the statements are not yours to turn. If you find one false, say at which input.
  Laid BY PROGRAM, IN A SANDBOX (cutbox-rows.mjs): the forced cells as the released guide's own fill.sh prints them over the translation 054c25bf10736eec… (all of the seat's roots in one cut). By AI agents, Wed Nov 11 2026. No macro, syntax, notation, axiom, sorry.
-/
import Derived.Test.YtpblhjgpfmmafaaDoorChecked
import GoSem.Claim
import GoSem.ClaimJoined
import GoSem.ClaimMapViews
import Derived.JoinedTies
import Derived.KernelRfl
namespace Go.Proofs.YtpblhjgpfmmafaaDoor
/- THE CELL 'sum', in the pinned program and in every row, IS THE sha256 OF THE DUMP (.gsa) THAT YtpblhjgpfmmafaaDoorProg.lean LOADS. Nothing in Lean hashes anything: it is a label: what it is worth is what the hold of that sum in a sandbox is worth. -/
noncomputable def Tryd.pinned : Pinned := { name := "ytpblhjgpfmmafaadoor", sum := "054c25bf10736eecaaf7b2280c434d3328a7ec80c3fe38d80e18fe5aa97ecbbe", checked := Tryd.checked }
namespace Rows
def none {H : Type} : Left H := { results := [], args := [] }

/- WHAT THE LISTED PACKAGE-LEVEL VARIABLES READ AS WHEN THE CALL BEGINS. Each datum BY PROGRAM (the guide's laid-datum.mjs) off the statement by which the dump's own 'gosem.cut.vars' lays the variable. In a bare row this is a premise. The card (YtpblhjgpfmmafaaDoorCards.lean) ties it to the program's text. -/
def laid_trireme_sha_rounds {H : Type} : DataW H := .agg [.lit (.int .u32 1116352408), .lit (.int .u32 1899447441), .lit (.int .u32 3049323471), .lit (.int .u32 3921009573), .lit (.int .u32 961987163), .lit (.int .u32 1508970993), .lit (.int .u32 2453635748), .lit (.int .u32 2870763221), .lit (.int .u32 3624381080), .lit (.int .u32 310598401), .lit (.int .u32 607225278), .lit (.int .u32 1426881987), .lit (.int .u32 1925078388), .lit (.int .u32 2162078206), .lit (.int .u32 2614888103), .lit (.int .u32 3248222580), .lit (.int .u32 3835390401), .lit (.int .u32 4022224774), .lit (.int .u32 264347078), .lit (.int .u32 604807628), .lit (.int .u32 770255983), .lit (.int .u32 1249150122), .lit (.int .u32 1555081692), .lit (.int .u32 1996064986), .lit (.int .u32 2554220882), .lit (.int .u32 2821834349), .lit (.int .u32 2952996808), .lit (.int .u32 3210313671), .lit (.int .u32 3336571891), .lit (.int .u32 3584528711), .lit (.int .u32 113926993), .lit (.int .u32 338241895), .lit (.int .u32 666307205), .lit (.int .u32 773529912), .lit (.int .u32 1294757372), .lit (.int .u32 1396182291), .lit (.int .u32 1695183700), .lit (.int .u32 1986661051), .lit (.int .u32 2177026350), .lit (.int .u32 2456956037), .lit (.int .u32 2730485921), .lit (.int .u32 2820302411), .lit (.int .u32 3259730800), .lit (.int .u32 3345764771), .lit (.int .u32 3516065817), .lit (.int .u32 3600352804), .lit (.int .u32 4094571909), .lit (.int .u32 275423344), .lit (.int .u32 430227734), .lit (.int .u32 506948616), .lit (.int .u32 659060556), .lit (.int .u32 883997877), .lit (.int .u32 958139571), .lit (.int .u32 1322822218), .lit (.int .u32 1537002063), .lit (.int .u32 1747873779), .lit (.int .u32 1955562222), .lit (.int .u32 2024104815), .lit (.int .u32 2227730452), .lit (.int .u32 2361852424), .lit (.int .u32 2428436474), .lit (.int .u32 2756734187), .lit (.int .u32 3204031479), .lit (.int .u32 3329325298)]
def laid_trireme_sha_start {H : Type} : DataW H := .agg [.lit (.int .u32 1779033703), .lit (.int .u32 3144134277), .lit (.int .u32 1013904242), .lit (.int .u32 2773480762), .lit (.int .u32 1359893119), .lit (.int .u32 2600822924), .lit (.int .u32 528734635), .lit (.int .u32 1541459225)]

/-- 'triremelaw03.ShaSums': WHATEVER THE INPUT: true; the input reads as it did. -/
def shaSumsSpec : ChangeSpec := { name := "shaSums", fn := fun _ => fun
  | [d] => { results := [.lit (.bool true)], args := [d] }
  | _ => none }
def shaSumsRow : OpenClaim := { program := "ytpblhjgpfmmafaadoor", sum := "054c25bf10736eecaaf7b2280c434d3328a7ec80c3fe38d80e18fe5aa97ecbbe", func := "trireme/triremelaw03.ShaSums", spec := "shaSums", named := ["trireme/sha.start", "trireme/sha.rounds"], apart := false, laid := [("trireme/sha.rounds", laid_trireme_sha_rounds), ("trireme/sha.start", laid_trireme_sha_start)] }
def ShaSumsSaid : Prop := shaSumsRow.holds Tryd.pinned (OpenSpec.ofChange shaSumsSpec)

/-- ITS FALSE NEIGHBOUR: 'it returns false'. Refute it at one input. -/
def shaSumsWrong : ChangeSpec := { name := "shaSums", fn := fun _ => fun
  | [d] => { results := [.lit (.bool false)], args := [d] }
  | _ => none }
def ShaSumsWrongFalsely : Prop := shaSumsRow.holds Tryd.pinned (OpenSpec.ofChange shaSumsWrong)

/-- 'triremelaw03.ShaPieces': WHATEVER THE INPUT: true; the input reads as it did. -/
def shaPiecesSpec : ChangeSpec := { name := "shaPieces", fn := fun _ => fun
  | [d] => { results := [.lit (.bool true)], args := [d] }
  | _ => none }
def shaPiecesRow : OpenClaim := { program := "ytpblhjgpfmmafaadoor", sum := "054c25bf10736eecaaf7b2280c434d3328a7ec80c3fe38d80e18fe5aa97ecbbe", func := "trireme/triremelaw03.ShaPieces", spec := "shaPieces", named := ["trireme/sha.start", "trireme/sha.rounds"], apart := false, laid := [("trireme/sha.rounds", laid_trireme_sha_rounds), ("trireme/sha.start", laid_trireme_sha_start)] }
def ShaPiecesSaid : Prop := shaPiecesRow.holds Tryd.pinned (OpenSpec.ofChange shaPiecesSpec)

/-- ITS FALSE NEIGHBOUR: 'it returns false'. Refute it at one input. -/
def shaPiecesWrong : ChangeSpec := { name := "shaPieces", fn := fun _ => fun
  | [d] => { results := [.lit (.bool false)], args := [d] }
  | _ => none }
def ShaPiecesWrongFalsely : Prop := shaPiecesRow.holds Tryd.pinned (OpenSpec.ofChange shaPiecesWrong)

/-- 'triremelaw03.ShaApart': WHATEVER THE INPUT: true; the input reads as it did. -/
def shaApartSpec : ChangeSpec := { name := "shaApart", fn := fun _ => fun
  | [d1, d2] => { results := [.lit (.bool true)], args := [d1, d2] }
  | _ => none }
def shaApartRow : OpenClaim := { program := "ytpblhjgpfmmafaadoor", sum := "054c25bf10736eecaaf7b2280c434d3328a7ec80c3fe38d80e18fe5aa97ecbbe", func := "trireme/triremelaw03.ShaApart", spec := "shaApart", named := ["trireme/sha.start", "trireme/sha.rounds"], apart := false, laid := [("trireme/sha.rounds", laid_trireme_sha_rounds), ("trireme/sha.start", laid_trireme_sha_start)] }
def ShaApartSaid : Prop := shaApartRow.holds Tryd.pinned (OpenSpec.ofChange shaApartSpec)

/-- ITS FALSE NEIGHBOUR: 'it returns false'. Refute it at one input. -/
def shaApartWrong : ChangeSpec := { name := "shaApart", fn := fun _ => fun
  | [d1, d2] => { results := [.lit (.bool false)], args := [d1, d2] }
  | _ => none }
def ShaApartWrongFalsely : Prop := shaApartRow.holds Tryd.pinned (OpenSpec.ofChange shaApartWrong)

/-- 'triremelaw03.ShaNothing': WHATEVER THE INPUT: true; the input reads as it did. -/
def shaNothingSpec : ChangeSpec := { name := "shaNothing", fn := fun _ => fun
  | [d1, d2] => { results := [.lit (.bool true)], args := [d1, d2] }
  | _ => none }
def shaNothingRow : OpenClaim := { program := "ytpblhjgpfmmafaadoor", sum := "054c25bf10736eecaaf7b2280c434d3328a7ec80c3fe38d80e18fe5aa97ecbbe", func := "trireme/triremelaw03.ShaNothing", spec := "shaNothing", named := ["trireme/sha.start", "trireme/sha.rounds"], apart := false, laid := [("trireme/sha.rounds", laid_trireme_sha_rounds), ("trireme/sha.start", laid_trireme_sha_start)] }
def ShaNothingSaid : Prop := shaNothingRow.holds Tryd.pinned (OpenSpec.ofChange shaNothingSpec)

/-- ITS FALSE NEIGHBOUR: 'it returns false'. Refute it at one input. -/
def shaNothingWrong : ChangeSpec := { name := "shaNothing", fn := fun _ => fun
  | [d1, d2] => { results := [.lit (.bool false)], args := [d1, d2] }
  | _ => none }
def ShaNothingWrongFalsely : Prop := shaNothingRow.holds Tryd.pinned (OpenSpec.ofChange shaNothingWrong)

/-- 'triremelaw04.SectorWraps': WHATEVER THE INPUT: true; the input reads as it did. -/
def sectorWrapsSpec : ChangeSpec := { name := "sectorWraps", fn := fun _ => fun
  | [d1, d2] => { results := [.lit (.bool true)], args := [d1, d2] }
  | _ => none }
def sectorWrapsRow : OpenClaim := { program := "ytpblhjgpfmmafaadoor", sum := "054c25bf10736eecaaf7b2280c434d3328a7ec80c3fe38d80e18fe5aa97ecbbe", func := "trireme/triremelaw04.SectorWraps", spec := "sectorWraps", named := ["trireme/sha.start", "trireme/sha.rounds"], apart := false, laid := [("trireme/sha.rounds", laid_trireme_sha_rounds), ("trireme/sha.start", laid_trireme_sha_start)] }
def SectorWrapsSaid : Prop := sectorWrapsRow.holds Tryd.pinned (OpenSpec.ofChange sectorWrapsSpec)

/-- ITS FALSE NEIGHBOUR: 'it returns false'. Refute it at one input. -/
def sectorWrapsWrong : ChangeSpec := { name := "sectorWraps", fn := fun _ => fun
  | [d1, d2] => { results := [.lit (.bool false)], args := [d1, d2] }
  | _ => none }
def SectorWrapsWrongFalsely : Prop := sectorWrapsRow.holds Tryd.pinned (OpenSpec.ofChange sectorWrapsWrong)

/-- 'triremelaw04.SectorSupers': WHATEVER THE INPUT: true; the input reads as it did. -/
def sectorSupersSpec : ChangeSpec := { name := "sectorSupers", fn := fun _ => fun
  | [d1, d2] => { results := [.lit (.bool true)], args := [d1, d2] }
  | _ => none }
def sectorSupersRow : OpenClaim := { program := "ytpblhjgpfmmafaadoor", sum := "054c25bf10736eecaaf7b2280c434d3328a7ec80c3fe38d80e18fe5aa97ecbbe", func := "trireme/triremelaw04.SectorSupers", spec := "sectorSupers", named := ["trireme/sha.start", "trireme/sha.rounds"], apart := false, laid := [("trireme/sha.rounds", laid_trireme_sha_rounds), ("trireme/sha.start", laid_trireme_sha_start)] }
def SectorSupersSaid : Prop := sectorSupersRow.holds Tryd.pinned (OpenSpec.ofChange sectorSupersSpec)

/-- ITS FALSE NEIGHBOUR: 'it returns false'. Refute it at one input. -/
def sectorSupersWrong : ChangeSpec := { name := "sectorSupers", fn := fun _ => fun
  | [d1, d2] => { results := [.lit (.bool false)], args := [d1, d2] }
  | _ => none }
def SectorSupersWrongFalsely : Prop := sectorSupersRow.holds Tryd.pinned (OpenSpec.ofChange sectorSupersWrong)

/-- 'triremelaw04.SectorTorn': WHATEVER THE INPUT: true; the input reads as it did. -/
def sectorTornSpec : ChangeSpec := { name := "sectorTorn", fn := fun _ => fun
  | [d1, d2, d3] => { results := [.lit (.bool true)], args := [d1, d2, d3] }
  | _ => none }
def sectorTornRow : OpenClaim := { program := "ytpblhjgpfmmafaadoor", sum := "054c25bf10736eecaaf7b2280c434d3328a7ec80c3fe38d80e18fe5aa97ecbbe", func := "trireme/triremelaw04.SectorTorn", spec := "sectorTorn", named := ["trireme/sha.start", "trireme/sha.rounds"], apart := false, laid := [("trireme/sha.rounds", laid_trireme_sha_rounds), ("trireme/sha.start", laid_trireme_sha_start)] }
def SectorTornSaid : Prop := sectorTornRow.holds Tryd.pinned (OpenSpec.ofChange sectorTornSpec)

/-- ITS FALSE NEIGHBOUR: 'it returns false'. Refute it at one input. -/
def sectorTornWrong : ChangeSpec := { name := "sectorTorn", fn := fun _ => fun
  | [d1, d2, d3] => { results := [.lit (.bool false)], args := [d1, d2, d3] }
  | _ => none }
def SectorTornWrongFalsely : Prop := sectorTornRow.holds Tryd.pinned (OpenSpec.ofChange sectorTornWrong)

/-- 'triremelaw04.SectorApart': WHATEVER THE INPUT: true; the input reads as it did. -/
def sectorApartSpec : ChangeSpec := { name := "sectorApart", fn := fun _ => fun
  | [d1, d2] => { results := [.lit (.bool true)], args := [d1, d2] }
  | _ => none }
def sectorApartRow : OpenClaim := { program := "ytpblhjgpfmmafaadoor", sum := "054c25bf10736eecaaf7b2280c434d3328a7ec80c3fe38d80e18fe5aa97ecbbe", func := "trireme/triremelaw04.SectorApart", spec := "sectorApart", named := ["trireme/sha.start", "trireme/sha.rounds"], apart := false, laid := [("trireme/sha.rounds", laid_trireme_sha_rounds), ("trireme/sha.start", laid_trireme_sha_start)] }
def SectorApartSaid : Prop := sectorApartRow.holds Tryd.pinned (OpenSpec.ofChange sectorApartSpec)

/-- ITS FALSE NEIGHBOUR: 'it returns false'. Refute it at one input. -/
def sectorApartWrong : ChangeSpec := { name := "sectorApart", fn := fun _ => fun
  | [d1, d2] => { results := [.lit (.bool false)], args := [d1, d2] }
  | _ => none }
def SectorApartWrongFalsely : Prop := sectorApartRow.holds Tryd.pinned (OpenSpec.ofChange sectorApartWrong)

/-- 'triremelaw04.SectorUnlike': WHATEVER THE INPUT: true; the input reads as it did. -/
def sectorUnlikeSpec : ChangeSpec := { name := "sectorUnlike", fn := fun _ => fun
  | [d1, d2, d3] => { results := [.lit (.bool true)], args := [d1, d2, d3] }
  | _ => none }
def sectorUnlikeRow : OpenClaim := { program := "ytpblhjgpfmmafaadoor", sum := "054c25bf10736eecaaf7b2280c434d3328a7ec80c3fe38d80e18fe5aa97ecbbe", func := "trireme/triremelaw04.SectorUnlike", spec := "sectorUnlike", named := ["trireme/sha.start", "trireme/sha.rounds"], apart := false, laid := [("trireme/sha.rounds", laid_trireme_sha_rounds), ("trireme/sha.start", laid_trireme_sha_start)] }
def SectorUnlikeSaid : Prop := sectorUnlikeRow.holds Tryd.pinned (OpenSpec.ofChange sectorUnlikeSpec)

/-- ITS FALSE NEIGHBOUR: 'it returns false'. Refute it at one input. -/
def sectorUnlikeWrong : ChangeSpec := { name := "sectorUnlike", fn := fun _ => fun
  | [d1, d2, d3] => { results := [.lit (.bool false)], args := [d1, d2, d3] }
  | _ => none }
def SectorUnlikeWrongFalsely : Prop := sectorUnlikeRow.holds Tryd.pinned (OpenSpec.ofChange sectorUnlikeWrong)

/- THE SECOND FORM. 'bulk': how many values and letters a reading holds, each counted each time it is reached (what is shared counts as often as it is met; a slice's spare places count too). A statement '..UptoSaid' is the law's where the arguments, and the package variables that the reading takes, are together of bulk at most 1048576: NARROWER than '..Said'. Prove '..Said' where nothing that the law and all that it calls make is longer than what came in: it says more and counts as full. Else prove '..UptoSaid'. A law counts once. -/
mutual
def uptoBulk {H : Type} : DataW H → Nat
  | .lit (.string bytes) => bytes.length + 1
  | .lit _ => 1
  | .nil => 1
  | .ptr d => uptoBulk d + 1
  | .slice elems spare => uptoBulkAll elems + uptoBulkAll spare + 1
  | .agg parts => uptoBulkAll parts + 1
  | .iface _ d => uptoBulk d + 1
  | .map entries => uptoBulkEntries entries + 1
  | .held _ => 1
def uptoBulkAll {H : Type} : List (DataW H) → Nat
  | [] => 0
  | d :: r => uptoBulk d + uptoBulkAll r
def uptoBulkEntries {H : Type} : List (Lit × DataW H) → Nat
  | [] => 0
  | x :: r => uptoBulkEntry x + uptoBulkEntries r
def uptoBulkEntry {H : Type} : Lit × DataW H → Nat
  | (.string bytes, d) => bytes.length + uptoBulk d + 1
  | (_, d) => uptoBulk d + 1
 end
def uptoSmall : (H : Type) → List (DataW H) → Bool := fun _ ds => decide (uptoBulkAll ds ≤ 1048576)
def OpenSpec.upto (s : _root_.Go.ChangeSpec) : _root_.Go.OpenSpec := { _root_.Go.OpenSpec.ofChange s with cond := some uptoSmall }

/-- 'triremelaw03.ShaSums', WHERE WHAT IT READS IS OF BULK AT MOST 1048576: true; the input reads as it did. -/
def shaSumsUptoRow : OpenClaim := { program := "ytpblhjgpfmmafaadoor", sum := "054c25bf10736eecaaf7b2280c434d3328a7ec80c3fe38d80e18fe5aa97ecbbe", func := "trireme/triremelaw03.ShaSums", spec := "shaSums", named := ["trireme/sha.start", "trireme/sha.rounds"], apart := false, laid := [("trireme/sha.rounds", laid_trireme_sha_rounds), ("trireme/sha.start", laid_trireme_sha_start)], narrowed := true }
def ShaSumsUptoSaid : Prop := shaSumsUptoRow.holds Tryd.pinned (OpenSpec.upto shaSumsSpec)

/-- 'triremelaw03.ShaPieces', WHERE WHAT IT READS IS OF BULK AT MOST 1048576: true; the input reads as it did. -/
def shaPiecesUptoRow : OpenClaim := { program := "ytpblhjgpfmmafaadoor", sum := "054c25bf10736eecaaf7b2280c434d3328a7ec80c3fe38d80e18fe5aa97ecbbe", func := "trireme/triremelaw03.ShaPieces", spec := "shaPieces", named := ["trireme/sha.start", "trireme/sha.rounds"], apart := false, laid := [("trireme/sha.rounds", laid_trireme_sha_rounds), ("trireme/sha.start", laid_trireme_sha_start)], narrowed := true }
def ShaPiecesUptoSaid : Prop := shaPiecesUptoRow.holds Tryd.pinned (OpenSpec.upto shaPiecesSpec)

/-- 'triremelaw03.ShaApart', WHERE WHAT IT READS IS OF BULK AT MOST 1048576: true; the input reads as it did. -/
def shaApartUptoRow : OpenClaim := { program := "ytpblhjgpfmmafaadoor", sum := "054c25bf10736eecaaf7b2280c434d3328a7ec80c3fe38d80e18fe5aa97ecbbe", func := "trireme/triremelaw03.ShaApart", spec := "shaApart", named := ["trireme/sha.start", "trireme/sha.rounds"], apart := false, laid := [("trireme/sha.rounds", laid_trireme_sha_rounds), ("trireme/sha.start", laid_trireme_sha_start)], narrowed := true }
def ShaApartUptoSaid : Prop := shaApartUptoRow.holds Tryd.pinned (OpenSpec.upto shaApartSpec)

/-- 'triremelaw03.ShaNothing', WHERE WHAT IT READS IS OF BULK AT MOST 1048576: true; the input reads as it did. -/
def shaNothingUptoRow : OpenClaim := { program := "ytpblhjgpfmmafaadoor", sum := "054c25bf10736eecaaf7b2280c434d3328a7ec80c3fe38d80e18fe5aa97ecbbe", func := "trireme/triremelaw03.ShaNothing", spec := "shaNothing", named := ["trireme/sha.start", "trireme/sha.rounds"], apart := false, laid := [("trireme/sha.rounds", laid_trireme_sha_rounds), ("trireme/sha.start", laid_trireme_sha_start)], narrowed := true }
def ShaNothingUptoSaid : Prop := shaNothingUptoRow.holds Tryd.pinned (OpenSpec.upto shaNothingSpec)

/-- 'triremelaw04.SectorWraps', WHERE WHAT IT READS IS OF BULK AT MOST 1048576: true; the input reads as it did. -/
def sectorWrapsUptoRow : OpenClaim := { program := "ytpblhjgpfmmafaadoor", sum := "054c25bf10736eecaaf7b2280c434d3328a7ec80c3fe38d80e18fe5aa97ecbbe", func := "trireme/triremelaw04.SectorWraps", spec := "sectorWraps", named := ["trireme/sha.start", "trireme/sha.rounds"], apart := false, laid := [("trireme/sha.rounds", laid_trireme_sha_rounds), ("trireme/sha.start", laid_trireme_sha_start)], narrowed := true }
def SectorWrapsUptoSaid : Prop := sectorWrapsUptoRow.holds Tryd.pinned (OpenSpec.upto sectorWrapsSpec)

/-- 'triremelaw04.SectorSupers', WHERE WHAT IT READS IS OF BULK AT MOST 1048576: true; the input reads as it did. -/
def sectorSupersUptoRow : OpenClaim := { program := "ytpblhjgpfmmafaadoor", sum := "054c25bf10736eecaaf7b2280c434d3328a7ec80c3fe38d80e18fe5aa97ecbbe", func := "trireme/triremelaw04.SectorSupers", spec := "sectorSupers", named := ["trireme/sha.start", "trireme/sha.rounds"], apart := false, laid := [("trireme/sha.rounds", laid_trireme_sha_rounds), ("trireme/sha.start", laid_trireme_sha_start)], narrowed := true }
def SectorSupersUptoSaid : Prop := sectorSupersUptoRow.holds Tryd.pinned (OpenSpec.upto sectorSupersSpec)

/-- 'triremelaw04.SectorTorn', WHERE WHAT IT READS IS OF BULK AT MOST 1048576: true; the input reads as it did. -/
def sectorTornUptoRow : OpenClaim := { program := "ytpblhjgpfmmafaadoor", sum := "054c25bf10736eecaaf7b2280c434d3328a7ec80c3fe38d80e18fe5aa97ecbbe", func := "trireme/triremelaw04.SectorTorn", spec := "sectorTorn", named := ["trireme/sha.start", "trireme/sha.rounds"], apart := false, laid := [("trireme/sha.rounds", laid_trireme_sha_rounds), ("trireme/sha.start", laid_trireme_sha_start)], narrowed := true }
def SectorTornUptoSaid : Prop := sectorTornUptoRow.holds Tryd.pinned (OpenSpec.upto sectorTornSpec)

/-- 'triremelaw04.SectorApart', WHERE WHAT IT READS IS OF BULK AT MOST 1048576: true; the input reads as it did. -/
def sectorApartUptoRow : OpenClaim := { program := "ytpblhjgpfmmafaadoor", sum := "054c25bf10736eecaaf7b2280c434d3328a7ec80c3fe38d80e18fe5aa97ecbbe", func := "trireme/triremelaw04.SectorApart", spec := "sectorApart", named := ["trireme/sha.start", "trireme/sha.rounds"], apart := false, laid := [("trireme/sha.rounds", laid_trireme_sha_rounds), ("trireme/sha.start", laid_trireme_sha_start)], narrowed := true }
def SectorApartUptoSaid : Prop := sectorApartUptoRow.holds Tryd.pinned (OpenSpec.upto sectorApartSpec)

/-- 'triremelaw04.SectorUnlike', WHERE WHAT IT READS IS OF BULK AT MOST 1048576: true; the input reads as it did. -/
def sectorUnlikeUptoRow : OpenClaim := { program := "ytpblhjgpfmmafaadoor", sum := "054c25bf10736eecaaf7b2280c434d3328a7ec80c3fe38d80e18fe5aa97ecbbe", func := "trireme/triremelaw04.SectorUnlike", spec := "sectorUnlike", named := ["trireme/sha.start", "trireme/sha.rounds"], apart := false, laid := [("trireme/sha.rounds", laid_trireme_sha_rounds), ("trireme/sha.start", laid_trireme_sha_start)], narrowed := true }
def SectorUnlikeUptoSaid : Prop := sectorUnlikeUptoRow.holds Tryd.pinned (OpenSpec.upto sectorUnlikeSpec)

end Rows
end Go.Proofs.YtpblhjgpfmmafaaDoor
