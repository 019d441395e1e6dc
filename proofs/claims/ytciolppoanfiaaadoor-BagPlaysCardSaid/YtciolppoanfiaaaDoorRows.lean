/-
  NARROWER THAN 'FOR EVERY INPUT', by the rows' own cells (each row's printed sentence says how): CheckSums: laid · CheckMixed: laid · CheckTakes: laid · CheckBack: laid · WireEncodes: laid · WireUnpacks: laid · BagCut: laid · BagPlays: laid · BagSent: laid.
  DERIVED. THE GIVEN ROWS OF THIS SEAT. 9 by the template 'for every input the law returns true; each argument reads behind the call as it read before'; 0 by the template 'total and deterministic' (their statements: YtciolppoanfiaaaDoorTotals.lean).
  GIVEN WITH THE SEED: the statements are not yours to turn. If you find one false, say at which input.
  Laid BY PROGRAM, IN A SANDBOX (cutbox-rows.mjs): the forced cells as the released guide's own fill.sh prints them over the translation ec7b460b881fc3dc… (all of the seat's roots in one cut). By AI agents, Wed Nov 11 2026. No macro, syntax, notation, axiom, sorry.
-/
import Derived.Test.YtciolppoanfiaaaDoorChecked
import GoSem.Claim
import GoSem.ClaimJoined
import GoSem.ClaimMapViews
import Derived.JoinedTies
import Derived.KernelRfl
namespace Go.Proofs.YtciolppoanfiaaaDoor
/- THE CELL 'sum', in the pinned program and in every row, IS THE sha256 OF THE DUMP (.gsa) THAT YtciolppoanfiaaaDoorProg.lean LOADS. Nothing in Lean hashes anything: it is a label: what it is worth is what the hold of that sum in a sandbox is worth. -/
noncomputable def Tryd.pinned : Pinned := { name := "ytciolppoanfiaaadoor", sum := "ec7b460b881fc3dccf1ef935dc4ba0d1001b125e08a460fa43415b0fa4f27b01", checked := Tryd.checked }
namespace Rows
def none {H : Type} : Left H := { results := [], args := [] }

/- WHAT THE LISTED PACKAGE-LEVEL VARIABLES READ AS WHEN THE CALL BEGINS. Each datum BY PROGRAM (the guide's laid-datum.mjs) off the statement by which the dump's own 'gosem.cut.vars' lays the variable. In a bare row this is a premise. The card (YtciolppoanfiaaaDoorCards.lean) ties it to the program's text. -/
def laid_pursuivant_check_table {H : Type} : DataW H := .agg [.lit (.int .u32 0), .lit (.int .u32 498536548), .lit (.int .u32 997073096), .lit (.int .u32 651767980), .lit (.int .u32 1994146192), .lit (.int .u32 1802195444), .lit (.int .u32 1303535960), .lit (.int .u32 1342533948), .lit (.int .u32 3988292384), .lit (.int .u32 4027552580), .lit (.int .u32 3604390888), .lit (.int .u32 3412177804), .lit (.int .u32 2607071920), .lit (.int .u32 2262029012), .lit (.int .u32 2685067896), .lit (.int .u32 3183342108)]

/-- 'pursuivantlaw02.CheckSums': WHATEVER THE INPUT: true; the input reads as it did. -/
def checkSumsSpec : ChangeSpec := { name := "checkSums", fn := fun _ => fun
  | [d] => { results := [.lit (.bool true)], args := [d] }
  | _ => none }
def checkSumsRow : OpenClaim := { program := "ytciolppoanfiaaadoor", sum := "ec7b460b881fc3dccf1ef935dc4ba0d1001b125e08a460fa43415b0fa4f27b01", func := "pursuivant/pursuivantlaw02.CheckSums", spec := "checkSums", named := ["pursuivant/check.table"], plainKeys := false, apart := false, laid := [("pursuivant/check.table", laid_pursuivant_check_table)] }
def CheckSumsSaid : Prop := checkSumsRow.holds Tryd.pinned (OpenSpec.ofChange checkSumsSpec)

/-- ITS FALSE NEIGHBOUR: 'it returns false'. Refute it at one input. -/
def checkSumsWrong : ChangeSpec := { name := "checkSums", fn := fun _ => fun
  | [d] => { results := [.lit (.bool false)], args := [d] }
  | _ => none }
def CheckSumsWrongFalsely : Prop := checkSumsRow.holds Tryd.pinned (OpenSpec.ofChange checkSumsWrong)

/-- 'pursuivantlaw02.CheckMixed': WHATEVER THE INPUT: true; the input reads as it did. -/
def checkMixedSpec : ChangeSpec := { name := "checkMixed", fn := fun _ => fun
  | [d1, d2, d3] => { results := [.lit (.bool true)], args := [d1, d2, d3] }
  | _ => none }
def checkMixedRow : OpenClaim := { program := "ytciolppoanfiaaadoor", sum := "ec7b460b881fc3dccf1ef935dc4ba0d1001b125e08a460fa43415b0fa4f27b01", func := "pursuivant/pursuivantlaw02.CheckMixed", spec := "checkMixed", named := ["pursuivant/check.table"], plainKeys := false, apart := false, laid := [("pursuivant/check.table", laid_pursuivant_check_table)] }
def CheckMixedSaid : Prop := checkMixedRow.holds Tryd.pinned (OpenSpec.ofChange checkMixedSpec)

/-- ITS FALSE NEIGHBOUR: 'it returns false'. Refute it at one input. -/
def checkMixedWrong : ChangeSpec := { name := "checkMixed", fn := fun _ => fun
  | [d1, d2, d3] => { results := [.lit (.bool false)], args := [d1, d2, d3] }
  | _ => none }
def CheckMixedWrongFalsely : Prop := checkMixedRow.holds Tryd.pinned (OpenSpec.ofChange checkMixedWrong)

/-- 'pursuivantlaw02.CheckTakes': WHATEVER THE INPUT: true; the input reads as it did. -/
def checkTakesSpec : ChangeSpec := { name := "checkTakes", fn := fun _ => fun
  | [d] => { results := [.lit (.bool true)], args := [d] }
  | _ => none }
def checkTakesRow : OpenClaim := { program := "ytciolppoanfiaaadoor", sum := "ec7b460b881fc3dccf1ef935dc4ba0d1001b125e08a460fa43415b0fa4f27b01", func := "pursuivant/pursuivantlaw02.CheckTakes", spec := "checkTakes", named := ["pursuivant/check.table"], plainKeys := false, apart := false, laid := [("pursuivant/check.table", laid_pursuivant_check_table)] }
def CheckTakesSaid : Prop := checkTakesRow.holds Tryd.pinned (OpenSpec.ofChange checkTakesSpec)

/-- ITS FALSE NEIGHBOUR: 'it returns false'. Refute it at one input. -/
def checkTakesWrong : ChangeSpec := { name := "checkTakes", fn := fun _ => fun
  | [d] => { results := [.lit (.bool false)], args := [d] }
  | _ => none }
def CheckTakesWrongFalsely : Prop := checkTakesRow.holds Tryd.pinned (OpenSpec.ofChange checkTakesWrong)

/-- 'pursuivantlaw02.CheckBack': WHATEVER THE INPUT: true; the input reads as it did. -/
def checkBackSpec : ChangeSpec := { name := "checkBack", fn := fun _ => fun
  | [d1, d2] => { results := [.lit (.bool true)], args := [d1, d2] }
  | _ => none }
def checkBackRow : OpenClaim := { program := "ytciolppoanfiaaadoor", sum := "ec7b460b881fc3dccf1ef935dc4ba0d1001b125e08a460fa43415b0fa4f27b01", func := "pursuivant/pursuivantlaw02.CheckBack", spec := "checkBack", named := ["pursuivant/check.table"], plainKeys := false, apart := false, laid := [("pursuivant/check.table", laid_pursuivant_check_table)] }
def CheckBackSaid : Prop := checkBackRow.holds Tryd.pinned (OpenSpec.ofChange checkBackSpec)

/-- ITS FALSE NEIGHBOUR: 'it returns false'. Refute it at one input. -/
def checkBackWrong : ChangeSpec := { name := "checkBack", fn := fun _ => fun
  | [d1, d2] => { results := [.lit (.bool false)], args := [d1, d2] }
  | _ => none }
def CheckBackWrongFalsely : Prop := checkBackRow.holds Tryd.pinned (OpenSpec.ofChange checkBackWrong)

/-- 'pursuivantlaw03.WireEncodes': WHATEVER THE INPUT: true; the input reads as it did. -/
def wireEncodesSpec : ChangeSpec := { name := "wireEncodes", fn := fun _ => fun
  | [d] => { results := [.lit (.bool true)], args := [d] }
  | _ => none }
def wireEncodesRow : OpenClaim := { program := "ytciolppoanfiaaadoor", sum := "ec7b460b881fc3dccf1ef935dc4ba0d1001b125e08a460fa43415b0fa4f27b01", func := "pursuivant/pursuivantlaw03.WireEncodes", spec := "wireEncodes", unfollowed := true, recurses := true, named := ["pursuivant/check.table"], plainKeys := false, apart := false, laid := [("pursuivant/check.table", laid_pursuivant_check_table)] }
def WireEncodesSaid : Prop := wireEncodesRow.holds Tryd.pinned (OpenSpec.ofChange wireEncodesSpec)

/-- ITS FALSE NEIGHBOUR: 'it returns false'. Refute it at one input. -/
def wireEncodesWrong : ChangeSpec := { name := "wireEncodes", fn := fun _ => fun
  | [d] => { results := [.lit (.bool false)], args := [d] }
  | _ => none }
def WireEncodesWrongFalsely : Prop := wireEncodesRow.holds Tryd.pinned (OpenSpec.ofChange wireEncodesWrong)

/-- 'pursuivantlaw03.WireUnpacks': WHATEVER THE INPUT: true; the input reads as it did. -/
def wireUnpacksSpec : ChangeSpec := { name := "wireUnpacks", fn := fun _ => fun
  | [d] => { results := [.lit (.bool true)], args := [d] }
  | _ => none }
def wireUnpacksRow : OpenClaim := { program := "ytciolppoanfiaaadoor", sum := "ec7b460b881fc3dccf1ef935dc4ba0d1001b125e08a460fa43415b0fa4f27b01", func := "pursuivant/pursuivantlaw03.WireUnpacks", spec := "wireUnpacks", unfollowed := true, recurses := true, named := ["pursuivant/check.table"], plainKeys := false, apart := false, laid := [("pursuivant/check.table", laid_pursuivant_check_table)] }
def WireUnpacksSaid : Prop := wireUnpacksRow.holds Tryd.pinned (OpenSpec.ofChange wireUnpacksSpec)

/-- ITS FALSE NEIGHBOUR: 'it returns false'. Refute it at one input. -/
def wireUnpacksWrong : ChangeSpec := { name := "wireUnpacks", fn := fun _ => fun
  | [d] => { results := [.lit (.bool false)], args := [d] }
  | _ => none }
def WireUnpacksWrongFalsely : Prop := wireUnpacksRow.holds Tryd.pinned (OpenSpec.ofChange wireUnpacksWrong)

/-- 'pursuivantlaw07.BagCut': WHATEVER THE INPUT: true; the input reads as it did. -/
def bagCutSpec : ChangeSpec := { name := "bagCut", fn := fun _ => fun
  | [d1, d2, d3, d4] => { results := [.lit (.bool true)], args := [d1, d2, d3, d4] }
  | _ => none }
def bagCutRow : OpenClaim := { program := "ytciolppoanfiaaadoor", sum := "ec7b460b881fc3dccf1ef935dc4ba0d1001b125e08a460fa43415b0fa4f27b01", func := "pursuivant/pursuivantlaw07.BagCut", spec := "bagCut", unfollowed := true, recurses := true, named := ["pursuivant/check.table"], plainKeys := false, apart := false, laid := [("pursuivant/check.table", laid_pursuivant_check_table)] }
def BagCutSaid : Prop := bagCutRow.holds Tryd.pinned (OpenSpec.ofChange bagCutSpec)

/-- ITS FALSE NEIGHBOUR: 'it returns false'. Refute it at one input. -/
def bagCutWrong : ChangeSpec := { name := "bagCut", fn := fun _ => fun
  | [d1, d2, d3, d4] => { results := [.lit (.bool false)], args := [d1, d2, d3, d4] }
  | _ => none }
def BagCutWrongFalsely : Prop := bagCutRow.holds Tryd.pinned (OpenSpec.ofChange bagCutWrong)

/-- 'pursuivantlaw07.BagPlays': WHATEVER THE INPUT: true; the input reads as it did. -/
def bagPlaysSpec : ChangeSpec := { name := "bagPlays", fn := fun _ => fun
  | [d] => { results := [.lit (.bool true)], args := [d] }
  | _ => none }
def bagPlaysRow : OpenClaim := { program := "ytciolppoanfiaaadoor", sum := "ec7b460b881fc3dccf1ef935dc4ba0d1001b125e08a460fa43415b0fa4f27b01", func := "pursuivant/pursuivantlaw07.BagPlays", spec := "bagPlays", unfollowed := true, recurses := true, named := ["pursuivant/check.table"], plainKeys := false, apart := false, laid := [("pursuivant/check.table", laid_pursuivant_check_table)] }
def BagPlaysSaid : Prop := bagPlaysRow.holds Tryd.pinned (OpenSpec.ofChange bagPlaysSpec)

/-- ITS FALSE NEIGHBOUR: 'it returns false'. Refute it at one input. -/
def bagPlaysWrong : ChangeSpec := { name := "bagPlays", fn := fun _ => fun
  | [d] => { results := [.lit (.bool false)], args := [d] }
  | _ => none }
def BagPlaysWrongFalsely : Prop := bagPlaysRow.holds Tryd.pinned (OpenSpec.ofChange bagPlaysWrong)

/-- 'pursuivantlaw07.BagSent': WHATEVER THE INPUT: true; the input reads as it did. -/
def bagSentSpec : ChangeSpec := { name := "bagSent", fn := fun _ => fun
  | [d1, d2, d3, d4] => { results := [.lit (.bool true)], args := [d1, d2, d3, d4] }
  | _ => none }
def bagSentRow : OpenClaim := { program := "ytciolppoanfiaaadoor", sum := "ec7b460b881fc3dccf1ef935dc4ba0d1001b125e08a460fa43415b0fa4f27b01", func := "pursuivant/pursuivantlaw07.BagSent", spec := "bagSent", unfollowed := true, recurses := true, named := ["pursuivant/check.table"], plainKeys := false, apart := false, laid := [("pursuivant/check.table", laid_pursuivant_check_table)] }
def BagSentSaid : Prop := bagSentRow.holds Tryd.pinned (OpenSpec.ofChange bagSentSpec)

/-- ITS FALSE NEIGHBOUR: 'it returns false'. Refute it at one input. -/
def bagSentWrong : ChangeSpec := { name := "bagSent", fn := fun _ => fun
  | [d1, d2, d3, d4] => { results := [.lit (.bool false)], args := [d1, d2, d3, d4] }
  | _ => none }
def BagSentWrongFalsely : Prop := bagSentRow.holds Tryd.pinned (OpenSpec.ofChange bagSentWrong)

/- THE SECOND FORM. 'bulk': how many values and letters a reading holds, each counted each time it is reached (what is shared counts as often as it is met; a slice's spare places count too). A statement '..UptoSaid' is the law's where the arguments, and the package variables that the reading takes, are together of bulk at most 1048576: NARROWER than '..Said'. Prove '..Said' where nothing that the law and all that it calls make is longer than what came in: it says more and counts as full. Else prove '..UptoSaid'. A law counts once. -/
mutual
def uptoBulk {H : Type} : DataW H → Nat
  | .lit (.string bytes) => bytes.length + 1
  | .lit _ => 1
  | .nil => 1
  | .ptr d => uptoBulk d + 1
  | .slice elems spare => uptoBulkAll elems + uptoBulkAll spare + 1
  | .agg parts => uptoBulkAll parts + 1
  | .iface _ d => uptoBulk d + 1
  | .map entries => uptoBulkEntries entries + 1
  | .held _ => 1
def uptoBulkAll {H : Type} : List (DataW H) → Nat
  | [] => 0
  | d :: r => uptoBulk d + uptoBulkAll r
def uptoBulkEntries {H : Type} : List (Lit × DataW H) → Nat
  | [] => 0
  | x :: r => uptoBulkEntry x + uptoBulkEntries r
def uptoBulkEntry {H : Type} : Lit × DataW H → Nat
  | (.string bytes, d) => bytes.length + uptoBulk d + 1
  | (_, d) => uptoBulk d + 1
 end
def uptoSmall : (H : Type) → List (DataW H) → Bool := fun _ ds => decide (uptoBulkAll ds ≤ 1048576)
def OpenSpec.upto (s : _root_.Go.ChangeSpec) : _root_.Go.OpenSpec := { _root_.Go.OpenSpec.ofChange s with cond := some uptoSmall }

/-- 'pursuivantlaw02.CheckSums', WHERE WHAT IT READS IS OF BULK AT MOST 1048576: true; the input reads as it did. -/
def checkSumsUptoRow : OpenClaim := { program := "ytciolppoanfiaaadoor", sum := "ec7b460b881fc3dccf1ef935dc4ba0d1001b125e08a460fa43415b0fa4f27b01", func := "pursuivant/pursuivantlaw02.CheckSums", spec := "checkSums", named := ["pursuivant/check.table"], plainKeys := false, apart := false, laid := [("pursuivant/check.table", laid_pursuivant_check_table)], narrowed := true }
def CheckSumsUptoSaid : Prop := checkSumsUptoRow.holds Tryd.pinned (OpenSpec.upto checkSumsSpec)

/-- 'pursuivantlaw02.CheckMixed', WHERE WHAT IT READS IS OF BULK AT MOST 1048576: true; the input reads as it did. -/
def checkMixedUptoRow : OpenClaim := { program := "ytciolppoanfiaaadoor", sum := "ec7b460b881fc3dccf1ef935dc4ba0d1001b125e08a460fa43415b0fa4f27b01", func := "pursuivant/pursuivantlaw02.CheckMixed", spec := "checkMixed", named := ["pursuivant/check.table"], plainKeys := false, apart := false, laid := [("pursuivant/check.table", laid_pursuivant_check_table)], narrowed := true }
def CheckMixedUptoSaid : Prop := checkMixedUptoRow.holds Tryd.pinned (OpenSpec.upto checkMixedSpec)

/-- 'pursuivantlaw02.CheckTakes', WHERE WHAT IT READS IS OF BULK AT MOST 1048576: true; the input reads as it did. -/
def checkTakesUptoRow : OpenClaim := { program := "ytciolppoanfiaaadoor", sum := "ec7b460b881fc3dccf1ef935dc4ba0d1001b125e08a460fa43415b0fa4f27b01", func := "pursuivant/pursuivantlaw02.CheckTakes", spec := "checkTakes", named := ["pursuivant/check.table"], plainKeys := false, apart := false, laid := [("pursuivant/check.table", laid_pursuivant_check_table)], narrowed := true }
def CheckTakesUptoSaid : Prop := checkTakesUptoRow.holds Tryd.pinned (OpenSpec.upto checkTakesSpec)

/-- 'pursuivantlaw02.CheckBack', WHERE WHAT IT READS IS OF BULK AT MOST 1048576: true; the input reads as it did. -/
def checkBackUptoRow : OpenClaim := { program := "ytciolppoanfiaaadoor", sum := "ec7b460b881fc3dccf1ef935dc4ba0d1001b125e08a460fa43415b0fa4f27b01", func := "pursuivant/pursuivantlaw02.CheckBack", spec := "checkBack", named := ["pursuivant/check.table"], plainKeys := false, apart := false, laid := [("pursuivant/check.table", laid_pursuivant_check_table)], narrowed := true }
def CheckBackUptoSaid : Prop := checkBackUptoRow.holds Tryd.pinned (OpenSpec.upto checkBackSpec)

/-- 'pursuivantlaw03.WireEncodes', WHERE WHAT IT READS IS OF BULK AT MOST 1048576: true; the input reads as it did. -/
def wireEncodesUptoRow : OpenClaim := { program := "ytciolppoanfiaaadoor", sum := "ec7b460b881fc3dccf1ef935dc4ba0d1001b125e08a460fa43415b0fa4f27b01", func := "pursuivant/pursuivantlaw03.WireEncodes", spec := "wireEncodes", unfollowed := true, recurses := true, named := ["pursuivant/check.table"], plainKeys := false, apart := false, laid := [("pursuivant/check.table", laid_pursuivant_check_table)], narrowed := true }
def WireEncodesUptoSaid : Prop := wireEncodesUptoRow.holds Tryd.pinned (OpenSpec.upto wireEncodesSpec)

/-- 'pursuivantlaw03.WireUnpacks', WHERE WHAT IT READS IS OF BULK AT MOST 1048576: true; the input reads as it did. -/
def wireUnpacksUptoRow : OpenClaim := { program := "ytciolppoanfiaaadoor", sum := "ec7b460b881fc3dccf1ef935dc4ba0d1001b125e08a460fa43415b0fa4f27b01", func := "pursuivant/pursuivantlaw03.WireUnpacks", spec := "wireUnpacks", unfollowed := true, recurses := true, named := ["pursuivant/check.table"], plainKeys := false, apart := false, laid := [("pursuivant/check.table", laid_pursuivant_check_table)], narrowed := true }
def WireUnpacksUptoSaid : Prop := wireUnpacksUptoRow.holds Tryd.pinned (OpenSpec.upto wireUnpacksSpec)

/-- 'pursuivantlaw07.BagCut', WHERE WHAT IT READS IS OF BULK AT MOST 1048576: true; the input reads as it did. -/
def bagCutUptoRow : OpenClaim := { program := "ytciolppoanfiaaadoor", sum := "ec7b460b881fc3dccf1ef935dc4ba0d1001b125e08a460fa43415b0fa4f27b01", func := "pursuivant/pursuivantlaw07.BagCut", spec := "bagCut", unfollowed := true, recurses := true, named := ["pursuivant/check.table"], plainKeys := false, apart := false, laid := [("pursuivant/check.table", laid_pursuivant_check_table)], narrowed := true }
def BagCutUptoSaid : Prop := bagCutUptoRow.holds Tryd.pinned (OpenSpec.upto bagCutSpec)

/-- 'pursuivantlaw07.BagPlays', WHERE WHAT IT READS IS OF BULK AT MOST 1048576: true; the input reads as it did. -/
def bagPlaysUptoRow : OpenClaim := { program := "ytciolppoanfiaaadoor", sum := "ec7b460b881fc3dccf1ef935dc4ba0d1001b125e08a460fa43415b0fa4f27b01", func := "pursuivant/pursuivantlaw07.BagPlays", spec := "bagPlays", unfollowed := true, recurses := true, named := ["pursuivant/check.table"], plainKeys := false, apart := false, laid := [("pursuivant/check.table", laid_pursuivant_check_table)], narrowed := true }
def BagPlaysUptoSaid : Prop := bagPlaysUptoRow.holds Tryd.pinned (OpenSpec.upto bagPlaysSpec)

/-- 'pursuivantlaw07.BagSent', WHERE WHAT IT READS IS OF BULK AT MOST 1048576: true; the input reads as it did. -/
def bagSentUptoRow : OpenClaim := { program := "ytciolppoanfiaaadoor", sum := "ec7b460b881fc3dccf1ef935dc4ba0d1001b125e08a460fa43415b0fa4f27b01", func := "pursuivant/pursuivantlaw07.BagSent", spec := "bagSent", unfollowed := true, recurses := true, named := ["pursuivant/check.table"], plainKeys := false, apart := false, laid := [("pursuivant/check.table", laid_pursuivant_check_table)], narrowed := true }
def BagSentUptoSaid : Prop := bagSentUptoRow.holds Tryd.pinned (OpenSpec.upto bagSentSpec)

end Rows
end Go.Proofs.YtciolppoanfiaaaDoor
