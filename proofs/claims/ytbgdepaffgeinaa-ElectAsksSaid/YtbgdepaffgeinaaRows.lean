/-
  No cell of these rows narrows 'for every input' (looked for: loops, veiled, ifaces, maps, wideKeys, modest, calm, conditions, laid).
  DERIVED. THE GIVEN ROWS OF THIS SEAT. 9 by the template 'for every input the law returns true; each argument reads behind the call as it read before'; 0 by the template 'total and deterministic' (their statements: YtbgdepaffgeinaaTotals.lean).
  GIVEN WITH THE SEED: the statements are not yours to turn. If you find one false, say at which input.
  Laid BY PROGRAM, IN A SANDBOX (cutbox-rows.mjs): the forced cells as the released guide's own fill.sh prints them over the translation 9274cb9143e5e88b… (all of the seat's roots in one cut). By AI agents, Wed Nov 11 2026. No macro, syntax, notation, axiom, sorry.
-/
import Derived.Test.YtbgdepaffgeinaaChecked
import GoSem.Claim
import GoSem.ClaimJoined
import GoSem.ClaimMapViews
import Derived.JoinedTies
import Derived.KernelRfl
namespace Go.Proofs.Ytbgdepaffgeinaa
/- THE CELL 'sum', in the pinned program and in every row, IS THE sha256 OF THE DUMP (.gsa) THAT YtbgdepaffgeinaaProg.lean LOADS. Nothing in Lean hashes anything: it is a label: what it is worth is what the hold of that sum in a sandbox is worth. -/
noncomputable def Try.pinned : Pinned := { name := "ytbgdepaffgeinaa", sum := "9274cb9143e5e88ba9a435b7785c6294bcc3225907748d81d916e18b8d8c7b71", checked := Try.checked }
namespace Rows
def none {H : Type} : Left H := { results := [], args := [] }

/-- 'pursuivantlaw09.TermsTells': WHATEVER THE INPUT: true; the input reads as it did. -/
def termsTellsSpec : ChangeSpec := { name := "termsTells", fn := fun _ => fun
  | [d1, d2, d3, d4] => { results := [.lit (.bool true)], args := [d1, d2, d3, d4] }
  | _ => none }
def termsTellsRow : OpenClaim := { program := "ytbgdepaffgeinaa", sum := "9274cb9143e5e88ba9a435b7785c6294bcc3225907748d81d916e18b8d8c7b71", func := "pursuivant/pursuivantlaw09.TermsTells", spec := "termsTells", unfollowed := true, recurses := true, apart := false }
def TermsTellsSaid : Prop := termsTellsRow.holds Try.pinned (OpenSpec.ofChange termsTellsSpec)

/-- ITS FALSE NEIGHBOUR: 'it returns false'. Refute it at one input. -/
def termsTellsWrong : ChangeSpec := { name := "termsTells", fn := fun _ => fun
  | [d1, d2, d3, d4] => { results := [.lit (.bool false)], args := [d1, d2, d3, d4] }
  | _ => none }
def TermsTellsWrongFalsely : Prop := termsTellsRow.holds Try.pinned (OpenSpec.ofChange termsTellsWrong)

/-- 'pursuivantlaw09.TermsAppends': WHATEVER THE INPUT: true; the input reads as it did. -/
def termsAppendsSpec : ChangeSpec := { name := "termsAppends", fn := fun _ => fun
  | [d1, d2, d3, d4] => { results := [.lit (.bool true)], args := [d1, d2, d3, d4] }
  | _ => none }
def termsAppendsRow : OpenClaim := { program := "ytbgdepaffgeinaa", sum := "9274cb9143e5e88ba9a435b7785c6294bcc3225907748d81d916e18b8d8c7b71", func := "pursuivant/pursuivantlaw09.TermsAppends", spec := "termsAppends", unfollowed := true, recurses := true, apart := false }
def TermsAppendsSaid : Prop := termsAppendsRow.holds Try.pinned (OpenSpec.ofChange termsAppendsSpec)

/-- ITS FALSE NEIGHBOUR: 'it returns false'. Refute it at one input. -/
def termsAppendsWrong : ChangeSpec := { name := "termsAppends", fn := fun _ => fun
  | [d1, d2, d3, d4] => { results := [.lit (.bool false)], args := [d1, d2, d3, d4] }
  | _ => none }
def TermsAppendsWrongFalsely : Prop := termsAppendsRow.holds Try.pinned (OpenSpec.ofChange termsAppendsWrong)

/-- 'pursuivantlaw09.TermsHeld': WHATEVER THE INPUT: true; the input reads as it did. -/
def termsHeldSpec : ChangeSpec := { name := "termsHeld", fn := fun _ => fun
  | [d1, d2, d3, d4] => { results := [.lit (.bool true)], args := [d1, d2, d3, d4] }
  | _ => none }
def termsHeldRow : OpenClaim := { program := "ytbgdepaffgeinaa", sum := "9274cb9143e5e88ba9a435b7785c6294bcc3225907748d81d916e18b8d8c7b71", func := "pursuivant/pursuivantlaw09.TermsHeld", spec := "termsHeld", unfollowed := true, recurses := true, apart := false }
def TermsHeldSaid : Prop := termsHeldRow.holds Try.pinned (OpenSpec.ofChange termsHeldSpec)

/-- ITS FALSE NEIGHBOUR: 'it returns false'. Refute it at one input. -/
def termsHeldWrong : ChangeSpec := { name := "termsHeld", fn := fun _ => fun
  | [d1, d2, d3, d4] => { results := [.lit (.bool false)], args := [d1, d2, d3, d4] }
  | _ => none }
def TermsHeldWrongFalsely : Prop := termsHeldRow.holds Try.pinned (OpenSpec.ofChange termsHeldWrong)

/-- 'pursuivantlaw09.TermsTwice': WHATEVER THE INPUT: true; the input reads as it did. -/
def termsTwiceSpec : ChangeSpec := { name := "termsTwice", fn := fun _ => fun
  | [d1, d2, d3, d4, d5] => { results := [.lit (.bool true)], args := [d1, d2, d3, d4, d5] }
  | _ => none }
def termsTwiceRow : OpenClaim := { program := "ytbgdepaffgeinaa", sum := "9274cb9143e5e88ba9a435b7785c6294bcc3225907748d81d916e18b8d8c7b71", func := "pursuivant/pursuivantlaw09.TermsTwice", spec := "termsTwice", unfollowed := true, recurses := true, apart := false }
def TermsTwiceSaid : Prop := termsTwiceRow.holds Try.pinned (OpenSpec.ofChange termsTwiceSpec)

/-- ITS FALSE NEIGHBOUR: 'it returns false'. Refute it at one input. -/
def termsTwiceWrong : ChangeSpec := { name := "termsTwice", fn := fun _ => fun
  | [d1, d2, d3, d4, d5] => { results := [.lit (.bool false)], args := [d1, d2, d3, d4, d5] }
  | _ => none }
def TermsTwiceWrongFalsely : Prop := termsTwiceRow.holds Try.pinned (OpenSpec.ofChange termsTwiceWrong)

/-- 'pursuivantlaw09.TermsHints': WHATEVER THE INPUT: true; the input reads as it did. -/
def termsHintsSpec : ChangeSpec := { name := "termsHints", fn := fun _ => fun
  | [d1, d2] => { results := [.lit (.bool true)], args := [d1, d2] }
  | _ => none }
def termsHintsRow : OpenClaim := { program := "ytbgdepaffgeinaa", sum := "9274cb9143e5e88ba9a435b7785c6294bcc3225907748d81d916e18b8d8c7b71", func := "pursuivant/pursuivantlaw09.TermsHints", spec := "termsHints", unfollowed := true, recurses := true, apart := false }
def TermsHintsSaid : Prop := termsHintsRow.holds Try.pinned (OpenSpec.ofChange termsHintsSpec)

/-- ITS FALSE NEIGHBOUR: 'it returns false'. Refute it at one input. -/
def termsHintsWrong : ChangeSpec := { name := "termsHints", fn := fun _ => fun
  | [d1, d2] => { results := [.lit (.bool false)], args := [d1, d2] }
  | _ => none }
def TermsHintsWrongFalsely : Prop := termsHintsRow.holds Try.pinned (OpenSpec.ofChange termsHintsWrong)

/-- 'pursuivantlaw11.ElectAsks': WHATEVER THE INPUT: true; the input reads as it did. -/
def electAsksSpec : ChangeSpec := { name := "electAsks", fn := fun _ => fun
  | [d1, d2, d3, d4, d5, d6, d7, d8, d9] => { results := [.lit (.bool true)], args := [d1, d2, d3, d4, d5, d6, d7, d8, d9] }
  | _ => none }
def electAsksRow : OpenClaim := { program := "ytbgdepaffgeinaa", sum := "9274cb9143e5e88ba9a435b7785c6294bcc3225907748d81d916e18b8d8c7b71", func := "pursuivant/pursuivantlaw11.ElectAsks", spec := "electAsks", unfollowed := true, recurses := true, apart := false }
def ElectAsksSaid : Prop := electAsksRow.holds Try.pinned (OpenSpec.ofChange electAsksSpec)

/-- ITS FALSE NEIGHBOUR: 'it returns false'. Refute it at one input. -/
def electAsksWrong : ChangeSpec := { name := "electAsks", fn := fun _ => fun
  | [d1, d2, d3, d4, d5, d6, d7, d8, d9] => { results := [.lit (.bool false)], args := [d1, d2, d3, d4, d5, d6, d7, d8, d9] }
  | _ => none }
def ElectAsksWrongFalsely : Prop := electAsksRow.holds Try.pinned (OpenSpec.ofChange electAsksWrong)

/-- 'pursuivantlaw11.ElectTerms': WHATEVER THE INPUT: true; the input reads as it did. -/
def electTermsSpec : ChangeSpec := { name := "electTerms", fn := fun _ => fun
  | [d1, d2, d3] => { results := [.lit (.bool true)], args := [d1, d2, d3] }
  | _ => none }
def electTermsRow : OpenClaim := { program := "ytbgdepaffgeinaa", sum := "9274cb9143e5e88ba9a435b7785c6294bcc3225907748d81d916e18b8d8c7b71", func := "pursuivant/pursuivantlaw11.ElectTerms", spec := "electTerms", unfollowed := true, recurses := true, apart := false }
def ElectTermsSaid : Prop := electTermsRow.holds Try.pinned (OpenSpec.ofChange electTermsSpec)

/-- ITS FALSE NEIGHBOUR: 'it returns false'. Refute it at one input. -/
def electTermsWrong : ChangeSpec := { name := "electTerms", fn := fun _ => fun
  | [d1, d2, d3] => { results := [.lit (.bool false)], args := [d1, d2, d3] }
  | _ => none }
def ElectTermsWrongFalsely : Prop := electTermsRow.holds Try.pinned (OpenSpec.ofChange electTermsWrong)

/-- 'pursuivantlaw11.ElectVotes': WHATEVER THE INPUT: true; the input reads as it did. -/
def electVotesSpec : ChangeSpec := { name := "electVotes", fn := fun _ => fun
  | [d1, d2, d3] => { results := [.lit (.bool true)], args := [d1, d2, d3] }
  | _ => none }
def electVotesRow : OpenClaim := { program := "ytbgdepaffgeinaa", sum := "9274cb9143e5e88ba9a435b7785c6294bcc3225907748d81d916e18b8d8c7b71", func := "pursuivant/pursuivantlaw11.ElectVotes", spec := "electVotes", unfollowed := true, recurses := true, apart := false }
def ElectVotesSaid : Prop := electVotesRow.holds Try.pinned (OpenSpec.ofChange electVotesSpec)

/-- ITS FALSE NEIGHBOUR: 'it returns false'. Refute it at one input. -/
def electVotesWrong : ChangeSpec := { name := "electVotes", fn := fun _ => fun
  | [d1, d2, d3] => { results := [.lit (.bool false)], args := [d1, d2, d3] }
  | _ => none }
def ElectVotesWrongFalsely : Prop := electVotesRow.holds Try.pinned (OpenSpec.ofChange electVotesWrong)

/-- 'pursuivantlaw11.ElectQuiet': WHATEVER THE INPUT: true; the input reads as it did. -/
def electQuietSpec : ChangeSpec := { name := "electQuiet", fn := fun _ => fun
  | [d1, d2, d3, d4, d5, d6, d7] => { results := [.lit (.bool true)], args := [d1, d2, d3, d4, d5, d6, d7] }
  | _ => none }
def electQuietRow : OpenClaim := { program := "ytbgdepaffgeinaa", sum := "9274cb9143e5e88ba9a435b7785c6294bcc3225907748d81d916e18b8d8c7b71", func := "pursuivant/pursuivantlaw11.ElectQuiet", spec := "electQuiet", unfollowed := true, recurses := true, apart := false }
def ElectQuietSaid : Prop := electQuietRow.holds Try.pinned (OpenSpec.ofChange electQuietSpec)

/-- ITS FALSE NEIGHBOUR: 'it returns false'. Refute it at one input. -/
def electQuietWrong : ChangeSpec := { name := "electQuiet", fn := fun _ => fun
  | [d1, d2, d3, d4, d5, d6, d7] => { results := [.lit (.bool false)], args := [d1, d2, d3, d4, d5, d6, d7] }
  | _ => none }
def ElectQuietWrongFalsely : Prop := electQuietRow.holds Try.pinned (OpenSpec.ofChange electQuietWrong)

/- THE SECOND FORM. 'bulk': how many values and letters a reading holds, each counted each time it is reached (what is shared counts as often as it is met; a slice's spare places count too). A statement '..UptoSaid' is the law's where the arguments, and the package variables that the reading takes, are together of bulk at most 1048576: NARROWER than '..Said'. Prove '..Said' where nothing that the law and all that it calls make is longer than what came in: it says more and counts as full. Else prove '..UptoSaid'. A law counts once. -/
mutual
def uptoBulk {H : Type} : DataW H → Nat
  | .lit (.string bytes) => bytes.length + 1
  | .lit _ => 1
  | .nil => 1
  | .ptr d => uptoBulk d + 1
  | .slice elems spare => uptoBulkAll elems + uptoBulkAll spare + 1
  | .agg parts => uptoBulkAll parts + 1
  | .iface _ d => uptoBulk d + 1
  | .map entries => uptoBulkEntries entries + 1
  | .held _ => 1
def uptoBulkAll {H : Type} : List (DataW H) → Nat
  | [] => 0
  | d :: r => uptoBulk d + uptoBulkAll r
def uptoBulkEntries {H : Type} : List (Lit × DataW H) → Nat
  | [] => 0
  | x :: r => uptoBulkEntry x + uptoBulkEntries r
def uptoBulkEntry {H : Type} : Lit × DataW H → Nat
  | (.string bytes, d) => bytes.length + uptoBulk d + 1
  | (_, d) => uptoBulk d + 1
 end
def uptoSmall : (H : Type) → List (DataW H) → Bool := fun _ ds => decide (uptoBulkAll ds ≤ 1048576)
def OpenSpec.upto (s : _root_.Go.ChangeSpec) : _root_.Go.OpenSpec := { _root_.Go.OpenSpec.ofChange s with cond := some uptoSmall }

/-- 'pursuivantlaw09.TermsTells', WHERE WHAT IT READS IS OF BULK AT MOST 1048576: true; the input reads as it did. -/
def termsTellsUptoRow : OpenClaim := { program := "ytbgdepaffgeinaa", sum := "9274cb9143e5e88ba9a435b7785c6294bcc3225907748d81d916e18b8d8c7b71", func := "pursuivant/pursuivantlaw09.TermsTells", spec := "termsTells", unfollowed := true, recurses := true, apart := false, narrowed := true }
def TermsTellsUptoSaid : Prop := termsTellsUptoRow.holds Try.pinned (OpenSpec.upto termsTellsSpec)

/-- 'pursuivantlaw09.TermsAppends', WHERE WHAT IT READS IS OF BULK AT MOST 1048576: true; the input reads as it did. -/
def termsAppendsUptoRow : OpenClaim := { program := "ytbgdepaffgeinaa", sum := "9274cb9143e5e88ba9a435b7785c6294bcc3225907748d81d916e18b8d8c7b71", func := "pursuivant/pursuivantlaw09.TermsAppends", spec := "termsAppends", unfollowed := true, recurses := true, apart := false, narrowed := true }
def TermsAppendsUptoSaid : Prop := termsAppendsUptoRow.holds Try.pinned (OpenSpec.upto termsAppendsSpec)

/-- 'pursuivantlaw09.TermsHeld', WHERE WHAT IT READS IS OF BULK AT MOST 1048576: true; the input reads as it did. -/
def termsHeldUptoRow : OpenClaim := { program := "ytbgdepaffgeinaa", sum := "9274cb9143e5e88ba9a435b7785c6294bcc3225907748d81d916e18b8d8c7b71", func := "pursuivant/pursuivantlaw09.TermsHeld", spec := "termsHeld", unfollowed := true, recurses := true, apart := false, narrowed := true }
def TermsHeldUptoSaid : Prop := termsHeldUptoRow.holds Try.pinned (OpenSpec.upto termsHeldSpec)

/-- 'pursuivantlaw09.TermsTwice', WHERE WHAT IT READS IS OF BULK AT MOST 1048576: true; the input reads as it did. -/
def termsTwiceUptoRow : OpenClaim := { program := "ytbgdepaffgeinaa", sum := "9274cb9143e5e88ba9a435b7785c6294bcc3225907748d81d916e18b8d8c7b71", func := "pursuivant/pursuivantlaw09.TermsTwice", spec := "termsTwice", unfollowed := true, recurses := true, apart := false, narrowed := true }
def TermsTwiceUptoSaid : Prop := termsTwiceUptoRow.holds Try.pinned (OpenSpec.upto termsTwiceSpec)

/-- 'pursuivantlaw09.TermsHints', WHERE WHAT IT READS IS OF BULK AT MOST 1048576: true; the input reads as it did. -/
def termsHintsUptoRow : OpenClaim := { program := "ytbgdepaffgeinaa", sum := "9274cb9143e5e88ba9a435b7785c6294bcc3225907748d81d916e18b8d8c7b71", func := "pursuivant/pursuivantlaw09.TermsHints", spec := "termsHints", unfollowed := true, recurses := true, apart := false, narrowed := true }
def TermsHintsUptoSaid : Prop := termsHintsUptoRow.holds Try.pinned (OpenSpec.upto termsHintsSpec)

/-- 'pursuivantlaw11.ElectAsks', WHERE WHAT IT READS IS OF BULK AT MOST 1048576: true; the input reads as it did. -/
def electAsksUptoRow : OpenClaim := { program := "ytbgdepaffgeinaa", sum := "9274cb9143e5e88ba9a435b7785c6294bcc3225907748d81d916e18b8d8c7b71", func := "pursuivant/pursuivantlaw11.ElectAsks", spec := "electAsks", unfollowed := true, recurses := true, apart := false, narrowed := true }
def ElectAsksUptoSaid : Prop := electAsksUptoRow.holds Try.pinned (OpenSpec.upto electAsksSpec)

/-- 'pursuivantlaw11.ElectTerms', WHERE WHAT IT READS IS OF BULK AT MOST 1048576: true; the input reads as it did. -/
def electTermsUptoRow : OpenClaim := { program := "ytbgdepaffgeinaa", sum := "9274cb9143e5e88ba9a435b7785c6294bcc3225907748d81d916e18b8d8c7b71", func := "pursuivant/pursuivantlaw11.ElectTerms", spec := "electTerms", unfollowed := true, recurses := true, apart := false, narrowed := true }
def ElectTermsUptoSaid : Prop := electTermsUptoRow.holds Try.pinned (OpenSpec.upto electTermsSpec)

/-- 'pursuivantlaw11.ElectVotes', WHERE WHAT IT READS IS OF BULK AT MOST 1048576: true; the input reads as it did. -/
def electVotesUptoRow : OpenClaim := { program := "ytbgdepaffgeinaa", sum := "9274cb9143e5e88ba9a435b7785c6294bcc3225907748d81d916e18b8d8c7b71", func := "pursuivant/pursuivantlaw11.ElectVotes", spec := "electVotes", unfollowed := true, recurses := true, apart := false, narrowed := true }
def ElectVotesUptoSaid : Prop := electVotesUptoRow.holds Try.pinned (OpenSpec.upto electVotesSpec)

/-- 'pursuivantlaw11.ElectQuiet', WHERE WHAT IT READS IS OF BULK AT MOST 1048576: true; the input reads as it did. -/
def electQuietUptoRow : OpenClaim := { program := "ytbgdepaffgeinaa", sum := "9274cb9143e5e88ba9a435b7785c6294bcc3225907748d81d916e18b8d8c7b71", func := "pursuivant/pursuivantlaw11.ElectQuiet", spec := "electQuiet", unfollowed := true, recurses := true, apart := false, narrowed := true }
def ElectQuietUptoSaid : Prop := electQuietUptoRow.holds Try.pinned (OpenSpec.upto electQuietSpec)

end Rows
end Go.Proofs.Ytbgdepaffgeinaa
