/-
  NARROWER THAN 'FOR EVERY INPUT', by the rows' own cells (each row's printed sentence says how): WireNames: laid · WireHeads: laid · WireReads: laid · WireCuts: laid · WireWrites: laid · NetPlays: laid · NetWhole: laid · NetFirst: laid · ClientPlays: laid · ClientOnce: laid · ClientAgain: laid.
  DERIVED. THE GIVEN ROWS OF THIS SEAT. 11 by the template 'for every input the law returns true; each argument reads behind the call as it read before'; 0 by the template 'total and deterministic' (their statements: YtdjgdcafmfheoaaDoorTotals.lean).
  GIVEN WITH THE SEED: the statements are not yours to turn. If you find one false, say at which input.
  Laid BY PROGRAM, IN A SANDBOX (cutbox-rows.mjs): the forced cells as the released guide's own fill.sh prints them over the translation a313f76663cd5864… (all of the seat's roots in one cut). By AI agents, Wed Nov 11 2026. No macro, syntax, notation, axiom, sorry.
-/
import Derived.Test.YtdjgdcafmfheoaaDoorChecked
import GoSem.Claim
import GoSem.ClaimJoined
import GoSem.ClaimMapViews
import Derived.JoinedTies
import Derived.KernelRfl
namespace Go.Proofs.YtdjgdcafmfheoaaDoor
/- THE CELL 'sum', in the pinned program and in every row, IS THE sha256 OF THE DUMP (.gsa) THAT YtdjgdcafmfheoaaDoorProg.lean LOADS. Nothing in Lean hashes anything: it is a label: what it is worth is what the hold of that sum in a sandbox is worth. -/
noncomputable def Tryd.pinned : Pinned := { name := "ytdjgdcafmfheoaadoor", sum := "a313f76663cd586491851ffe6549327e80ad57fc60c7c0a2e2677c0e1fab375c", checked := Tryd.checked }
namespace Rows
def none {H : Type} : Left H := { results := [], args := [] }

/- WHAT THE LISTED PACKAGE-LEVEL VARIABLES READ AS WHEN THE CALL BEGINS. Each datum BY PROGRAM (the guide's laid-datum.mjs) off the statement by which the dump's own 'gosem.cut.vars' lays the variable. In a bare row this is a premise. The card (YtdjgdcafmfheoaaDoorCards.lean) ties it to the program's text. -/
def laid_trireme_sha_rounds {H : Type} : DataW H := .agg [.lit (.int .u32 1116352408), .lit (.int .u32 1899447441), .lit (.int .u32 3049323471), .lit (.int .u32 3921009573), .lit (.int .u32 961987163), .lit (.int .u32 1508970993), .lit (.int .u32 2453635748), .lit (.int .u32 2870763221), .lit (.int .u32 3624381080), .lit (.int .u32 310598401), .lit (.int .u32 607225278), .lit (.int .u32 1426881987), .lit (.int .u32 1925078388), .lit (.int .u32 2162078206), .lit (.int .u32 2614888103), .lit (.int .u32 3248222580), .lit (.int .u32 3835390401), .lit (.int .u32 4022224774), .lit (.int .u32 264347078), .lit (.int .u32 604807628), .lit (.int .u32 770255983), .lit (.int .u32 1249150122), .lit (.int .u32 1555081692), .lit (.int .u32 1996064986), .lit (.int .u32 2554220882), .lit (.int .u32 2821834349), .lit (.int .u32 2952996808), .lit (.int .u32 3210313671), .lit (.int .u32 3336571891), .lit (.int .u32 3584528711), .lit (.int .u32 113926993), .lit (.int .u32 338241895), .lit (.int .u32 666307205), .lit (.int .u32 773529912), .lit (.int .u32 1294757372), .lit (.int .u32 1396182291), .lit (.int .u32 1695183700), .lit (.int .u32 1986661051), .lit (.int .u32 2177026350), .lit (.int .u32 2456956037), .lit (.int .u32 2730485921), .lit (.int .u32 2820302411), .lit (.int .u32 3259730800), .lit (.int .u32 3345764771), .lit (.int .u32 3516065817), .lit (.int .u32 3600352804), .lit (.int .u32 4094571909), .lit (.int .u32 275423344), .lit (.int .u32 430227734), .lit (.int .u32 506948616), .lit (.int .u32 659060556), .lit (.int .u32 883997877), .lit (.int .u32 958139571), .lit (.int .u32 1322822218), .lit (.int .u32 1537002063), .lit (.int .u32 1747873779), .lit (.int .u32 1955562222), .lit (.int .u32 2024104815), .lit (.int .u32 2227730452), .lit (.int .u32 2361852424), .lit (.int .u32 2428436474), .lit (.int .u32 2756734187), .lit (.int .u32 3204031479), .lit (.int .u32 3329325298)]
def laid_trireme_sha_start {H : Type} : DataW H := .agg [.lit (.int .u32 1779033703), .lit (.int .u32 3144134277), .lit (.int .u32 1013904242), .lit (.int .u32 2773480762), .lit (.int .u32 1359893119), .lit (.int .u32 2600822924), .lit (.int .u32 528734635), .lit (.int .u32 1541459225)]

/-- 'triremelaw19.WireNames': WHATEVER THE INPUT: true; the input reads as it did. -/
def wireNamesSpec : ChangeSpec := { name := "wireNames", fn := fun _ => fun
  | [] => { results := [.lit (.bool true)], args := [] }
  | _ => none }
def wireNamesRow : OpenClaim := { program := "ytdjgdcafmfheoaadoor", sum := "a313f76663cd586491851ffe6549327e80ad57fc60c7c0a2e2677c0e1fab375c", func := "trireme/triremelaw19.WireNames", spec := "wireNames", unfollowed := true, recurses := true, named := ["trireme/sha.start", "trireme/sha.rounds"], apart := false, laid := [("trireme/sha.rounds", laid_trireme_sha_rounds), ("trireme/sha.start", laid_trireme_sha_start)] }
def WireNamesSaid : Prop := wireNamesRow.holds Tryd.pinned (OpenSpec.ofChange wireNamesSpec)

/-- ITS FALSE NEIGHBOUR: 'it returns false'. Refute it at one input. -/
def wireNamesWrong : ChangeSpec := { name := "wireNames", fn := fun _ => fun
  | [] => { results := [.lit (.bool false)], args := [] }
  | _ => none }
def WireNamesWrongFalsely : Prop := wireNamesRow.holds Tryd.pinned (OpenSpec.ofChange wireNamesWrong)

/-- 'triremelaw19.WireHeads': WHATEVER THE INPUT: true; the input reads as it did. -/
def wireHeadsSpec : ChangeSpec := { name := "wireHeads", fn := fun _ => fun
  | [d1, d2] => { results := [.lit (.bool true)], args := [d1, d2] }
  | _ => none }
def wireHeadsRow : OpenClaim := { program := "ytdjgdcafmfheoaadoor", sum := "a313f76663cd586491851ffe6549327e80ad57fc60c7c0a2e2677c0e1fab375c", func := "trireme/triremelaw19.WireHeads", spec := "wireHeads", unfollowed := true, recurses := true, named := ["trireme/sha.start", "trireme/sha.rounds"], apart := false, laid := [("trireme/sha.rounds", laid_trireme_sha_rounds), ("trireme/sha.start", laid_trireme_sha_start)] }
def WireHeadsSaid : Prop := wireHeadsRow.holds Tryd.pinned (OpenSpec.ofChange wireHeadsSpec)

/-- ITS FALSE NEIGHBOUR: 'it returns false'. Refute it at one input. -/
def wireHeadsWrong : ChangeSpec := { name := "wireHeads", fn := fun _ => fun
  | [d1, d2] => { results := [.lit (.bool false)], args := [d1, d2] }
  | _ => none }
def WireHeadsWrongFalsely : Prop := wireHeadsRow.holds Tryd.pinned (OpenSpec.ofChange wireHeadsWrong)

/-- 'triremelaw19.WireReads': WHATEVER THE INPUT: true; the input reads as it did. -/
def wireReadsSpec : ChangeSpec := { name := "wireReads", fn := fun _ => fun
  | [d] => { results := [.lit (.bool true)], args := [d] }
  | _ => none }
def wireReadsRow : OpenClaim := { program := "ytdjgdcafmfheoaadoor", sum := "a313f76663cd586491851ffe6549327e80ad57fc60c7c0a2e2677c0e1fab375c", func := "trireme/triremelaw19.WireReads", spec := "wireReads", unfollowed := true, recurses := true, named := ["trireme/sha.start", "trireme/sha.rounds"], apart := false, laid := [("trireme/sha.rounds", laid_trireme_sha_rounds), ("trireme/sha.start", laid_trireme_sha_start)] }
def WireReadsSaid : Prop := wireReadsRow.holds Tryd.pinned (OpenSpec.ofChange wireReadsSpec)

/-- ITS FALSE NEIGHBOUR: 'it returns false'. Refute it at one input. -/
def wireReadsWrong : ChangeSpec := { name := "wireReads", fn := fun _ => fun
  | [d] => { results := [.lit (.bool false)], args := [d] }
  | _ => none }
def WireReadsWrongFalsely : Prop := wireReadsRow.holds Tryd.pinned (OpenSpec.ofChange wireReadsWrong)

/-- 'triremelaw19.WireCuts': WHATEVER THE INPUT: true; the input reads as it did. -/
def wireCutsSpec : ChangeSpec := { name := "wireCuts", fn := fun _ => fun
  | [d1, d2] => { results := [.lit (.bool true)], args := [d1, d2] }
  | _ => none }
def wireCutsRow : OpenClaim := { program := "ytdjgdcafmfheoaadoor", sum := "a313f76663cd586491851ffe6549327e80ad57fc60c7c0a2e2677c0e1fab375c", func := "trireme/triremelaw19.WireCuts", spec := "wireCuts", unfollowed := true, recurses := true, named := ["trireme/sha.start", "trireme/sha.rounds"], apart := false, laid := [("trireme/sha.rounds", laid_trireme_sha_rounds), ("trireme/sha.start", laid_trireme_sha_start)] }
def WireCutsSaid : Prop := wireCutsRow.holds Tryd.pinned (OpenSpec.ofChange wireCutsSpec)

/-- ITS FALSE NEIGHBOUR: 'it returns false'. Refute it at one input. -/
def wireCutsWrong : ChangeSpec := { name := "wireCuts", fn := fun _ => fun
  | [d1, d2] => { results := [.lit (.bool false)], args := [d1, d2] }
  | _ => none }
def WireCutsWrongFalsely : Prop := wireCutsRow.holds Tryd.pinned (OpenSpec.ofChange wireCutsWrong)

/-- 'triremelaw19.WireWrites': WHATEVER THE INPUT: true; the input reads as it did. -/
def wireWritesSpec : ChangeSpec := { name := "wireWrites", fn := fun _ => fun
  | [d] => { results := [.lit (.bool true)], args := [d] }
  | _ => none }
def wireWritesRow : OpenClaim := { program := "ytdjgdcafmfheoaadoor", sum := "a313f76663cd586491851ffe6549327e80ad57fc60c7c0a2e2677c0e1fab375c", func := "trireme/triremelaw19.WireWrites", spec := "wireWrites", unfollowed := true, recurses := true, named := ["trireme/sha.start", "trireme/sha.rounds"], apart := false, laid := [("trireme/sha.rounds", laid_trireme_sha_rounds), ("trireme/sha.start", laid_trireme_sha_start)] }
def WireWritesSaid : Prop := wireWritesRow.holds Tryd.pinned (OpenSpec.ofChange wireWritesSpec)

/-- ITS FALSE NEIGHBOUR: 'it returns false'. Refute it at one input. -/
def wireWritesWrong : ChangeSpec := { name := "wireWrites", fn := fun _ => fun
  | [d] => { results := [.lit (.bool false)], args := [d] }
  | _ => none }
def WireWritesWrongFalsely : Prop := wireWritesRow.holds Tryd.pinned (OpenSpec.ofChange wireWritesWrong)

/-- 'triremelaw24.NetPlays': WHATEVER THE INPUT: true; the input reads as it did. -/
def netPlaysSpec : ChangeSpec := { name := "netPlays", fn := fun _ => fun
  | [d] => { results := [.lit (.bool true)], args := [d] }
  | _ => none }
def netPlaysRow : OpenClaim := { program := "ytdjgdcafmfheoaadoor", sum := "a313f76663cd586491851ffe6549327e80ad57fc60c7c0a2e2677c0e1fab375c", func := "trireme/triremelaw24.NetPlays", spec := "netPlays", unfollowed := true, recurses := true, named := ["trireme/sha.start", "trireme/sha.rounds"], apart := false, laid := [("trireme/sha.rounds", laid_trireme_sha_rounds), ("trireme/sha.start", laid_trireme_sha_start)] }
def NetPlaysSaid : Prop := netPlaysRow.holds Tryd.pinned (OpenSpec.ofChange netPlaysSpec)

/-- ITS FALSE NEIGHBOUR: 'it returns false'. Refute it at one input. -/
def netPlaysWrong : ChangeSpec := { name := "netPlays", fn := fun _ => fun
  | [d] => { results := [.lit (.bool false)], args := [d] }
  | _ => none }
def NetPlaysWrongFalsely : Prop := netPlaysRow.holds Tryd.pinned (OpenSpec.ofChange netPlaysWrong)

/-- 'triremelaw24.NetWhole': WHATEVER THE INPUT: true; the input reads as it did. -/
def netWholeSpec : ChangeSpec := { name := "netWhole", fn := fun _ => fun
  | [d1, d2, d3] => { results := [.lit (.bool true)], args := [d1, d2, d3] }
  | _ => none }
def netWholeRow : OpenClaim := { program := "ytdjgdcafmfheoaadoor", sum := "a313f76663cd586491851ffe6549327e80ad57fc60c7c0a2e2677c0e1fab375c", func := "trireme/triremelaw24.NetWhole", spec := "netWhole", unfollowed := true, recurses := true, named := ["trireme/sha.start", "trireme/sha.rounds"], apart := false, laid := [("trireme/sha.rounds", laid_trireme_sha_rounds), ("trireme/sha.start", laid_trireme_sha_start)] }
def NetWholeSaid : Prop := netWholeRow.holds Tryd.pinned (OpenSpec.ofChange netWholeSpec)

/-- ITS FALSE NEIGHBOUR: 'it returns false'. Refute it at one input. -/
def netWholeWrong : ChangeSpec := { name := "netWhole", fn := fun _ => fun
  | [d1, d2, d3] => { results := [.lit (.bool false)], args := [d1, d2, d3] }
  | _ => none }
def NetWholeWrongFalsely : Prop := netWholeRow.holds Tryd.pinned (OpenSpec.ofChange netWholeWrong)

/-- 'triremelaw24.NetFirst': WHATEVER THE INPUT: true; the input reads as it did. -/
def netFirstSpec : ChangeSpec := { name := "netFirst", fn := fun _ => fun
  | [d] => { results := [.lit (.bool true)], args := [d] }
  | _ => none }
def netFirstRow : OpenClaim := { program := "ytdjgdcafmfheoaadoor", sum := "a313f76663cd586491851ffe6549327e80ad57fc60c7c0a2e2677c0e1fab375c", func := "trireme/triremelaw24.NetFirst", spec := "netFirst", unfollowed := true, recurses := true, named := ["trireme/sha.start", "trireme/sha.rounds"], apart := false, laid := [("trireme/sha.rounds", laid_trireme_sha_rounds), ("trireme/sha.start", laid_trireme_sha_start)] }
def NetFirstSaid : Prop := netFirstRow.holds Tryd.pinned (OpenSpec.ofChange netFirstSpec)

/-- ITS FALSE NEIGHBOUR: 'it returns false'. Refute it at one input. -/
def netFirstWrong : ChangeSpec := { name := "netFirst", fn := fun _ => fun
  | [d] => { results := [.lit (.bool false)], args := [d] }
  | _ => none }
def NetFirstWrongFalsely : Prop := netFirstRow.holds Tryd.pinned (OpenSpec.ofChange netFirstWrong)

/-- 'triremelaw25.ClientPlays': WHATEVER THE INPUT: true; the input reads as it did. -/
def clientPlaysSpec : ChangeSpec := { name := "clientPlays", fn := fun _ => fun
  | [d1, d2] => { results := [.lit (.bool true)], args := [d1, d2] }
  | _ => none }
def clientPlaysRow : OpenClaim := { program := "ytdjgdcafmfheoaadoor", sum := "a313f76663cd586491851ffe6549327e80ad57fc60c7c0a2e2677c0e1fab375c", func := "trireme/triremelaw25.ClientPlays", spec := "clientPlays", unfollowed := true, recurses := true, named := ["trireme/sha.start", "trireme/sha.rounds"], apart := false, laid := [("trireme/sha.rounds", laid_trireme_sha_rounds), ("trireme/sha.start", laid_trireme_sha_start)] }
def ClientPlaysSaid : Prop := clientPlaysRow.holds Tryd.pinned (OpenSpec.ofChange clientPlaysSpec)

/-- ITS FALSE NEIGHBOUR: 'it returns false'. Refute it at one input. -/
def clientPlaysWrong : ChangeSpec := { name := "clientPlays", fn := fun _ => fun
  | [d1, d2] => { results := [.lit (.bool false)], args := [d1, d2] }
  | _ => none }
def ClientPlaysWrongFalsely : Prop := clientPlaysRow.holds Tryd.pinned (OpenSpec.ofChange clientPlaysWrong)

/-- 'triremelaw25.ClientOnce': WHATEVER THE INPUT: true; the input reads as it did. -/
def clientOnceSpec : ChangeSpec := { name := "clientOnce", fn := fun _ => fun
  | [d1, d2] => { results := [.lit (.bool true)], args := [d1, d2] }
  | _ => none }
def clientOnceRow : OpenClaim := { program := "ytdjgdcafmfheoaadoor", sum := "a313f76663cd586491851ffe6549327e80ad57fc60c7c0a2e2677c0e1fab375c", func := "trireme/triremelaw25.ClientOnce", spec := "clientOnce", unfollowed := true, recurses := true, named := ["trireme/sha.start", "trireme/sha.rounds"], apart := false, laid := [("trireme/sha.rounds", laid_trireme_sha_rounds), ("trireme/sha.start", laid_trireme_sha_start)] }
def ClientOnceSaid : Prop := clientOnceRow.holds Tryd.pinned (OpenSpec.ofChange clientOnceSpec)

/-- ITS FALSE NEIGHBOUR: 'it returns false'. Refute it at one input. -/
def clientOnceWrong : ChangeSpec := { name := "clientOnce", fn := fun _ => fun
  | [d1, d2] => { results := [.lit (.bool false)], args := [d1, d2] }
  | _ => none }
def ClientOnceWrongFalsely : Prop := clientOnceRow.holds Tryd.pinned (OpenSpec.ofChange clientOnceWrong)

/-- 'triremelaw25.ClientAgain': WHATEVER THE INPUT: true; the input reads as it did. -/
def clientAgainSpec : ChangeSpec := { name := "clientAgain", fn := fun _ => fun
  | [d1, d2, d3] => { results := [.lit (.bool true)], args := [d1, d2, d3] }
  | _ => none }
def clientAgainRow : OpenClaim := { program := "ytdjgdcafmfheoaadoor", sum := "a313f76663cd586491851ffe6549327e80ad57fc60c7c0a2e2677c0e1fab375c", func := "trireme/triremelaw25.ClientAgain", spec := "clientAgain", unfollowed := true, recurses := true, named := ["trireme/sha.start", "trireme/sha.rounds"], apart := false, laid := [("trireme/sha.rounds", laid_trireme_sha_rounds), ("trireme/sha.start", laid_trireme_sha_start)] }
def ClientAgainSaid : Prop := clientAgainRow.holds Tryd.pinned (OpenSpec.ofChange clientAgainSpec)

/-- ITS FALSE NEIGHBOUR: 'it returns false'. Refute it at one input. -/
def clientAgainWrong : ChangeSpec := { name := "clientAgain", fn := fun _ => fun
  | [d1, d2, d3] => { results := [.lit (.bool false)], args := [d1, d2, d3] }
  | _ => none }
def ClientAgainWrongFalsely : Prop := clientAgainRow.holds Tryd.pinned (OpenSpec.ofChange clientAgainWrong)

/- THE SECOND FORM. 'bulk': how many values and letters a reading holds, each counted each time it is reached (what is shared counts as often as it is met; a slice's spare places count too). A statement '..UptoSaid' is the law's where the arguments, and the package variables that the reading takes, are together of bulk at most 1048576: NARROWER than '..Said'. Prove '..Said' where nothing that the law and all that it calls make is longer than what came in: it says more and counts as full. Else prove '..UptoSaid'. A law counts once. -/
mutual
def uptoBulk {H : Type} : DataW H → Nat
  | .lit (.string bytes) => bytes.length + 1
  | .lit _ => 1
  | .nil => 1
  | .ptr d => uptoBulk d + 1
  | .slice elems spare => uptoBulkAll elems + uptoBulkAll spare + 1
  | .agg parts => uptoBulkAll parts + 1
  | .iface _ d => uptoBulk d + 1
  | .map entries => uptoBulkEntries entries + 1
  | .held _ => 1
def uptoBulkAll {H : Type} : List (DataW H) → Nat
  | [] => 0
  | d :: r => uptoBulk d + uptoBulkAll r
def uptoBulkEntries {H : Type} : List (Lit × DataW H) → Nat
  | [] => 0
  | x :: r => uptoBulkEntry x + uptoBulkEntries r
def uptoBulkEntry {H : Type} : Lit × DataW H → Nat
  | (.string bytes, d) => bytes.length + uptoBulk d + 1
  | (_, d) => uptoBulk d + 1
 end
def uptoSmall : (H : Type) → List (DataW H) → Bool := fun _ ds => decide (uptoBulkAll ds ≤ 1048576)
def OpenSpec.upto (s : _root_.Go.ChangeSpec) : _root_.Go.OpenSpec := { _root_.Go.OpenSpec.ofChange s with cond := some uptoSmall }

/-- 'triremelaw19.WireNames', WHERE WHAT IT READS IS OF BULK AT MOST 1048576: true; the input reads as it did. -/
def wireNamesUptoRow : OpenClaim := { program := "ytdjgdcafmfheoaadoor", sum := "a313f76663cd586491851ffe6549327e80ad57fc60c7c0a2e2677c0e1fab375c", func := "trireme/triremelaw19.WireNames", spec := "wireNames", unfollowed := true, recurses := true, named := ["trireme/sha.start", "trireme/sha.rounds"], apart := false, laid := [("trireme/sha.rounds", laid_trireme_sha_rounds), ("trireme/sha.start", laid_trireme_sha_start)], narrowed := true }
def WireNamesUptoSaid : Prop := wireNamesUptoRow.holds Tryd.pinned (OpenSpec.upto wireNamesSpec)

/-- 'triremelaw19.WireHeads', WHERE WHAT IT READS IS OF BULK AT MOST 1048576: true; the input reads as it did. -/
def wireHeadsUptoRow : OpenClaim := { program := "ytdjgdcafmfheoaadoor", sum := "a313f76663cd586491851ffe6549327e80ad57fc60c7c0a2e2677c0e1fab375c", func := "trireme/triremelaw19.WireHeads", spec := "wireHeads", unfollowed := true, recurses := true, named := ["trireme/sha.start", "trireme/sha.rounds"], apart := false, laid := [("trireme/sha.rounds", laid_trireme_sha_rounds), ("trireme/sha.start", laid_trireme_sha_start)], narrowed := true }
def WireHeadsUptoSaid : Prop := wireHeadsUptoRow.holds Tryd.pinned (OpenSpec.upto wireHeadsSpec)

/-- 'triremelaw19.WireReads', WHERE WHAT IT READS IS OF BULK AT MOST 1048576: true; the input reads as it did. -/
def wireReadsUptoRow : OpenClaim := { program := "ytdjgdcafmfheoaadoor", sum := "a313f76663cd586491851ffe6549327e80ad57fc60c7c0a2e2677c0e1fab375c", func := "trireme/triremelaw19.WireReads", spec := "wireReads", unfollowed := true, recurses := true, named := ["trireme/sha.start", "trireme/sha.rounds"], apart := false, laid := [("trireme/sha.rounds", laid_trireme_sha_rounds), ("trireme/sha.start", laid_trireme_sha_start)], narrowed := true }
def WireReadsUptoSaid : Prop := wireReadsUptoRow.holds Tryd.pinned (OpenSpec.upto wireReadsSpec)

/-- 'triremelaw19.WireCuts', WHERE WHAT IT READS IS OF BULK AT MOST 1048576: true; the input reads as it did. -/
def wireCutsUptoRow : OpenClaim := { program := "ytdjgdcafmfheoaadoor", sum := "a313f76663cd586491851ffe6549327e80ad57fc60c7c0a2e2677c0e1fab375c", func := "trireme/triremelaw19.WireCuts", spec := "wireCuts", unfollowed := true, recurses := true, named := ["trireme/sha.start", "trireme/sha.rounds"], apart := false, laid := [("trireme/sha.rounds", laid_trireme_sha_rounds), ("trireme/sha.start", laid_trireme_sha_start)], narrowed := true }
def WireCutsUptoSaid : Prop := wireCutsUptoRow.holds Tryd.pinned (OpenSpec.upto wireCutsSpec)

/-- 'triremelaw19.WireWrites', WHERE WHAT IT READS IS OF BULK AT MOST 1048576: true; the input reads as it did. -/
def wireWritesUptoRow : OpenClaim := { program := "ytdjgdcafmfheoaadoor", sum := "a313f76663cd586491851ffe6549327e80ad57fc60c7c0a2e2677c0e1fab375c", func := "trireme/triremelaw19.WireWrites", spec := "wireWrites", unfollowed := true, recurses := true, named := ["trireme/sha.start", "trireme/sha.rounds"], apart := false, laid := [("trireme/sha.rounds", laid_trireme_sha_rounds), ("trireme/sha.start", laid_trireme_sha_start)], narrowed := true }
def WireWritesUptoSaid : Prop := wireWritesUptoRow.holds Tryd.pinned (OpenSpec.upto wireWritesSpec)

/-- 'triremelaw24.NetPlays', WHERE WHAT IT READS IS OF BULK AT MOST 1048576: true; the input reads as it did. -/
def netPlaysUptoRow : OpenClaim := { program := "ytdjgdcafmfheoaadoor", sum := "a313f76663cd586491851ffe6549327e80ad57fc60c7c0a2e2677c0e1fab375c", func := "trireme/triremelaw24.NetPlays", spec := "netPlays", unfollowed := true, recurses := true, named := ["trireme/sha.start", "trireme/sha.rounds"], apart := false, laid := [("trireme/sha.rounds", laid_trireme_sha_rounds), ("trireme/sha.start", laid_trireme_sha_start)], narrowed := true }
def NetPlaysUptoSaid : Prop := netPlaysUptoRow.holds Tryd.pinned (OpenSpec.upto netPlaysSpec)

/-- 'triremelaw24.NetWhole', WHERE WHAT IT READS IS OF BULK AT MOST 1048576: true; the input reads as it did. -/
def netWholeUptoRow : OpenClaim := { program := "ytdjgdcafmfheoaadoor", sum := "a313f76663cd586491851ffe6549327e80ad57fc60c7c0a2e2677c0e1fab375c", func := "trireme/triremelaw24.NetWhole", spec := "netWhole", unfollowed := true, recurses := true, named := ["trireme/sha.start", "trireme/sha.rounds"], apart := false, laid := [("trireme/sha.rounds", laid_trireme_sha_rounds), ("trireme/sha.start", laid_trireme_sha_start)], narrowed := true }
def NetWholeUptoSaid : Prop := netWholeUptoRow.holds Tryd.pinned (OpenSpec.upto netWholeSpec)

/-- 'triremelaw24.NetFirst', WHERE WHAT IT READS IS OF BULK AT MOST 1048576: true; the input reads as it did. -/
def netFirstUptoRow : OpenClaim := { program := "ytdjgdcafmfheoaadoor", sum := "a313f76663cd586491851ffe6549327e80ad57fc60c7c0a2e2677c0e1fab375c", func := "trireme/triremelaw24.NetFirst", spec := "netFirst", unfollowed := true, recurses := true, named := ["trireme/sha.start", "trireme/sha.rounds"], apart := false, laid := [("trireme/sha.rounds", laid_trireme_sha_rounds), ("trireme/sha.start", laid_trireme_sha_start)], narrowed := true }
def NetFirstUptoSaid : Prop := netFirstUptoRow.holds Tryd.pinned (OpenSpec.upto netFirstSpec)

/-- 'triremelaw25.ClientPlays', WHERE WHAT IT READS IS OF BULK AT MOST 1048576: true; the input reads as it did. -/
def clientPlaysUptoRow : OpenClaim := { program := "ytdjgdcafmfheoaadoor", sum := "a313f76663cd586491851ffe6549327e80ad57fc60c7c0a2e2677c0e1fab375c", func := "trireme/triremelaw25.ClientPlays", spec := "clientPlays", unfollowed := true, recurses := true, named := ["trireme/sha.start", "trireme/sha.rounds"], apart := false, laid := [("trireme/sha.rounds", laid_trireme_sha_rounds), ("trireme/sha.start", laid_trireme_sha_start)], narrowed := true }
def ClientPlaysUptoSaid : Prop := clientPlaysUptoRow.holds Tryd.pinned (OpenSpec.upto clientPlaysSpec)

/-- 'triremelaw25.ClientOnce', WHERE WHAT IT READS IS OF BULK AT MOST 1048576: true; the input reads as it did. -/
def clientOnceUptoRow : OpenClaim := { program := "ytdjgdcafmfheoaadoor", sum := "a313f76663cd586491851ffe6549327e80ad57fc60c7c0a2e2677c0e1fab375c", func := "trireme/triremelaw25.ClientOnce", spec := "clientOnce", unfollowed := true, recurses := true, named := ["trireme/sha.start", "trireme/sha.rounds"], apart := false, laid := [("trireme/sha.rounds", laid_trireme_sha_rounds), ("trireme/sha.start", laid_trireme_sha_start)], narrowed := true }
def ClientOnceUptoSaid : Prop := clientOnceUptoRow.holds Tryd.pinned (OpenSpec.upto clientOnceSpec)

/-- 'triremelaw25.ClientAgain', WHERE WHAT IT READS IS OF BULK AT MOST 1048576: true; the input reads as it did. -/
def clientAgainUptoRow : OpenClaim := { program := "ytdjgdcafmfheoaadoor", sum := "a313f76663cd586491851ffe6549327e80ad57fc60c7c0a2e2677c0e1fab375c", func := "trireme/triremelaw25.ClientAgain", spec := "clientAgain", unfollowed := true, recurses := true, named := ["trireme/sha.start", "trireme/sha.rounds"], apart := false, laid := [("trireme/sha.rounds", laid_trireme_sha_rounds), ("trireme/sha.start", laid_trireme_sha_start)], narrowed := true }
def ClientAgainUptoSaid : Prop := clientAgainUptoRow.holds Tryd.pinned (OpenSpec.upto clientAgainSpec)

end Rows
end Go.Proofs.YtdjgdcafmfheoaaDoor
