/-
  NARROWER THAN 'FOR EVERY INPUT', by the rows' own cells (each row's printed sentence says how): WordLow: laid · WordBack: laid · WordCount: laid · WordNth: laid · WordFirst: laid · BitmapParts: laid · BitmapNext: laid · BitmapTurn: laid · BitmapOwn: laid · BitmapRuns: laid.
  DERIVED. THE GIVEN ROWS OF THIS SEAT. 10 by the template 'for every input the law returns true; each argument reads behind the call as it read before'; 0 by the template 'total and deterministic' (their statements: YtjgadfeplaiclaaDoorTotals.lean).
  GIVEN WITH THE SEED: the statements are not yours to turn. If you find one false, say at which input.
  Laid BY PROGRAM, IN A SANDBOX (cutbox-rows.mjs): the forced cells as the released guide's own fill.sh prints them over the translation 13b56dec909c31c6… (all of the seat's roots in one cut). By AI agents, Wed Nov 11 2026. No macro, syntax, notation, axiom, sorry.
-/
import Derived.Test.YtjgadfeplaiclaaDoorChecked
import GoSem.Claim
import GoSem.ClaimJoined
import GoSem.ClaimMapViews
import Derived.JoinedTies
import Derived.KernelRfl
namespace Go.Proofs.YtjgadfeplaiclaaDoor
/- THE CELL 'sum', in the pinned program and in every row, IS THE sha256 OF THE DUMP (.gsa) THAT YtjgadfeplaiclaaDoorProg.lean LOADS. Nothing in Lean hashes anything: it is a label: what it is worth is what the hold of that sum in a sandbox is worth. -/
noncomputable def Tryd.pinned : Pinned := { name := "ytjgadfeplaiclaadoor", sum := "13b56dec909c31c62e3d8cbc5104b83339e7bdb98c9d009b98024fc1500261ba", checked := Tryd.checked }
namespace Rows
def none {H : Type} : Left H := { results := [], args := [] }

/- WHAT THE LISTED PACKAGE-LEVEL VARIABLES READ AS WHEN THE CALL BEGINS. Each datum BY PROGRAM (the guide's laid-datum.mjs) off the statement by which the dump's own 'gosem.cut.vars' lays the variable. In a bare row this is a premise. The card (YtjgadfeplaiclaaDoorCards.lean) ties it to the program's text. -/
def laid_math_bits_deBruijn64tab {H : Type} : DataW H := .agg [.lit (.int .u8 0), .lit (.int .u8 1), .lit (.int .u8 56), .lit (.int .u8 2), .lit (.int .u8 57), .lit (.int .u8 49), .lit (.int .u8 28), .lit (.int .u8 3), .lit (.int .u8 61), .lit (.int .u8 58), .lit (.int .u8 42), .lit (.int .u8 50), .lit (.int .u8 38), .lit (.int .u8 29), .lit (.int .u8 17), .lit (.int .u8 4), .lit (.int .u8 62), .lit (.int .u8 47), .lit (.int .u8 59), .lit (.int .u8 36), .lit (.int .u8 45), .lit (.int .u8 43), .lit (.int .u8 51), .lit (.int .u8 22), .lit (.int .u8 53), .lit (.int .u8 39), .lit (.int .u8 33), .lit (.int .u8 30), .lit (.int .u8 24), .lit (.int .u8 18), .lit (.int .u8 12), .lit (.int .u8 5), .lit (.int .u8 63), .lit (.int .u8 55), .lit (.int .u8 48), .lit (.int .u8 27), .lit (.int .u8 60), .lit (.int .u8 41), .lit (.int .u8 37), .lit (.int .u8 16), .lit (.int .u8 46), .lit (.int .u8 35), .lit (.int .u8 44), .lit (.int .u8 21), .lit (.int .u8 52), .lit (.int .u8 32), .lit (.int .u8 23), .lit (.int .u8 11), .lit (.int .u8 54), .lit (.int .u8 26), .lit (.int .u8 40), .lit (.int .u8 15), .lit (.int .u8 34), .lit (.int .u8 20), .lit (.int .u8 31), .lit (.int .u8 10), .lit (.int .u8 25), .lit (.int .u8 14), .lit (.int .u8 19), .lit (.int .u8 9), .lit (.int .u8 13), .lit (.int .u8 8), .lit (.int .u8 7), .lit (.int .u8 6)]

/-- 'dustpanlaw1.WordLow': WHATEVER THE INPUT: true; the input reads as it did. -/
def wordLowSpec : ChangeSpec := { name := "wordLow", fn := fun _ => fun
  | [d1, d2] => { results := [.lit (.bool true)], args := [d1, d2] }
  | _ => none }
def wordLowRow : OpenClaim := { program := "ytjgadfeplaiclaadoor", sum := "13b56dec909c31c62e3d8cbc5104b83339e7bdb98c9d009b98024fc1500261ba", func := "dustpan/dustpanlaw1.WordLow", spec := "wordLow", unfollowed := true, recurses := true, named := ["math/bits.deBruijn64tab"], apart := false, laid := [("math/bits.deBruijn64tab", laid_math_bits_deBruijn64tab)] }
def WordLowSaid : Prop := wordLowRow.holds Tryd.pinned (OpenSpec.ofChange wordLowSpec)

/-- ITS FALSE NEIGHBOUR: 'it returns false'. Refute it at one input. -/
def wordLowWrong : ChangeSpec := { name := "wordLow", fn := fun _ => fun
  | [d1, d2] => { results := [.lit (.bool false)], args := [d1, d2] }
  | _ => none }
def WordLowWrongFalsely : Prop := wordLowRow.holds Tryd.pinned (OpenSpec.ofChange wordLowWrong)

/-- 'dustpanlaw1.WordBack': WHATEVER THE INPUT: true; the input reads as it did. -/
def wordBackSpec : ChangeSpec := { name := "wordBack", fn := fun _ => fun
  | [d1, d2, d3, d4] => { results := [.lit (.bool true)], args := [d1, d2, d3, d4] }
  | _ => none }
def wordBackRow : OpenClaim := { program := "ytjgadfeplaiclaadoor", sum := "13b56dec909c31c62e3d8cbc5104b83339e7bdb98c9d009b98024fc1500261ba", func := "dustpan/dustpanlaw1.WordBack", spec := "wordBack", unfollowed := true, recurses := true, named := ["math/bits.deBruijn64tab"], apart := false, laid := [("math/bits.deBruijn64tab", laid_math_bits_deBruijn64tab)] }
def WordBackSaid : Prop := wordBackRow.holds Tryd.pinned (OpenSpec.ofChange wordBackSpec)

/-- ITS FALSE NEIGHBOUR: 'it returns false'. Refute it at one input. -/
def wordBackWrong : ChangeSpec := { name := "wordBack", fn := fun _ => fun
  | [d1, d2, d3, d4] => { results := [.lit (.bool false)], args := [d1, d2, d3, d4] }
  | _ => none }
def WordBackWrongFalsely : Prop := wordBackRow.holds Tryd.pinned (OpenSpec.ofChange wordBackWrong)

/-- 'dustpanlaw1.WordCount': WHATEVER THE INPUT: true; the input reads as it did. -/
def wordCountSpec : ChangeSpec := { name := "wordCount", fn := fun _ => fun
  | [d1, d2] => { results := [.lit (.bool true)], args := [d1, d2] }
  | _ => none }
def wordCountRow : OpenClaim := { program := "ytjgadfeplaiclaadoor", sum := "13b56dec909c31c62e3d8cbc5104b83339e7bdb98c9d009b98024fc1500261ba", func := "dustpan/dustpanlaw1.WordCount", spec := "wordCount", unfollowed := true, recurses := true, named := ["math/bits.deBruijn64tab"], apart := false, laid := [("math/bits.deBruijn64tab", laid_math_bits_deBruijn64tab)] }
def WordCountSaid : Prop := wordCountRow.holds Tryd.pinned (OpenSpec.ofChange wordCountSpec)

/-- ITS FALSE NEIGHBOUR: 'it returns false'. Refute it at one input. -/
def wordCountWrong : ChangeSpec := { name := "wordCount", fn := fun _ => fun
  | [d1, d2] => { results := [.lit (.bool false)], args := [d1, d2] }
  | _ => none }
def WordCountWrongFalsely : Prop := wordCountRow.holds Tryd.pinned (OpenSpec.ofChange wordCountWrong)

/-- 'dustpanlaw1.WordNth': WHATEVER THE INPUT: true; the input reads as it did. -/
def wordNthSpec : ChangeSpec := { name := "wordNth", fn := fun _ => fun
  | [d] => { results := [.lit (.bool true)], args := [d] }
  | _ => none }
def wordNthRow : OpenClaim := { program := "ytjgadfeplaiclaadoor", sum := "13b56dec909c31c62e3d8cbc5104b83339e7bdb98c9d009b98024fc1500261ba", func := "dustpan/dustpanlaw1.WordNth", spec := "wordNth", unfollowed := true, recurses := true, named := ["math/bits.deBruijn64tab"], apart := false, laid := [("math/bits.deBruijn64tab", laid_math_bits_deBruijn64tab)] }
def WordNthSaid : Prop := wordNthRow.holds Tryd.pinned (OpenSpec.ofChange wordNthSpec)

/-- ITS FALSE NEIGHBOUR: 'it returns false'. Refute it at one input. -/
def wordNthWrong : ChangeSpec := { name := "wordNth", fn := fun _ => fun
  | [d] => { results := [.lit (.bool false)], args := [d] }
  | _ => none }
def WordNthWrongFalsely : Prop := wordNthRow.holds Tryd.pinned (OpenSpec.ofChange wordNthWrong)

/-- 'dustpanlaw1.WordFirst': WHATEVER THE INPUT: true; the input reads as it did. -/
def wordFirstSpec : ChangeSpec := { name := "wordFirst", fn := fun _ => fun
  | [d1, d2] => { results := [.lit (.bool true)], args := [d1, d2] }
  | _ => none }
def wordFirstRow : OpenClaim := { program := "ytjgadfeplaiclaadoor", sum := "13b56dec909c31c62e3d8cbc5104b83339e7bdb98c9d009b98024fc1500261ba", func := "dustpan/dustpanlaw1.WordFirst", spec := "wordFirst", unfollowed := true, recurses := true, named := ["math/bits.deBruijn64tab"], apart := false, laid := [("math/bits.deBruijn64tab", laid_math_bits_deBruijn64tab)] }
def WordFirstSaid : Prop := wordFirstRow.holds Tryd.pinned (OpenSpec.ofChange wordFirstSpec)

/-- ITS FALSE NEIGHBOUR: 'it returns false'. Refute it at one input. -/
def wordFirstWrong : ChangeSpec := { name := "wordFirst", fn := fun _ => fun
  | [d1, d2] => { results := [.lit (.bool false)], args := [d1, d2] }
  | _ => none }
def WordFirstWrongFalsely : Prop := wordFirstRow.holds Tryd.pinned (OpenSpec.ofChange wordFirstWrong)

/-- 'dustpanlaw3.BitmapParts': WHATEVER THE INPUT: true; the input reads as it did. -/
def bitmapPartsSpec : ChangeSpec := { name := "bitmapParts", fn := fun _ => fun
  | [d1, d2] => { results := [.lit (.bool true)], args := [d1, d2] }
  | _ => none }
def bitmapPartsRow : OpenClaim := { program := "ytjgadfeplaiclaadoor", sum := "13b56dec909c31c62e3d8cbc5104b83339e7bdb98c9d009b98024fc1500261ba", func := "dustpan/dustpanlaw3.BitmapParts", spec := "bitmapParts", unfollowed := true, recurses := true, named := ["math/bits.deBruijn64tab"], apart := false, laid := [("math/bits.deBruijn64tab", laid_math_bits_deBruijn64tab)] }
def BitmapPartsSaid : Prop := bitmapPartsRow.holds Tryd.pinned (OpenSpec.ofChange bitmapPartsSpec)

/-- ITS FALSE NEIGHBOUR: 'it returns false'. Refute it at one input. -/
def bitmapPartsWrong : ChangeSpec := { name := "bitmapParts", fn := fun _ => fun
  | [d1, d2] => { results := [.lit (.bool false)], args := [d1, d2] }
  | _ => none }
def BitmapPartsWrongFalsely : Prop := bitmapPartsRow.holds Tryd.pinned (OpenSpec.ofChange bitmapPartsWrong)

/-- 'dustpanlaw3.BitmapNext': WHATEVER THE INPUT: true; the input reads as it did. -/
def bitmapNextSpec : ChangeSpec := { name := "bitmapNext", fn := fun _ => fun
  | [d1, d2, d3] => { results := [.lit (.bool true)], args := [d1, d2, d3] }
  | _ => none }
def bitmapNextRow : OpenClaim := { program := "ytjgadfeplaiclaadoor", sum := "13b56dec909c31c62e3d8cbc5104b83339e7bdb98c9d009b98024fc1500261ba", func := "dustpan/dustpanlaw3.BitmapNext", spec := "bitmapNext", unfollowed := true, recurses := true, named := ["math/bits.deBruijn64tab"], apart := false, laid := [("math/bits.deBruijn64tab", laid_math_bits_deBruijn64tab)] }
def BitmapNextSaid : Prop := bitmapNextRow.holds Tryd.pinned (OpenSpec.ofChange bitmapNextSpec)

/-- ITS FALSE NEIGHBOUR: 'it returns false'. Refute it at one input. -/
def bitmapNextWrong : ChangeSpec := { name := "bitmapNext", fn := fun _ => fun
  | [d1, d2, d3] => { results := [.lit (.bool false)], args := [d1, d2, d3] }
  | _ => none }
def BitmapNextWrongFalsely : Prop := bitmapNextRow.holds Tryd.pinned (OpenSpec.ofChange bitmapNextWrong)

/-- 'dustpanlaw3.BitmapTurn': WHATEVER THE INPUT: true; the input reads as it did. -/
def bitmapTurnSpec : ChangeSpec := { name := "bitmapTurn", fn := fun _ => fun
  | [d1, d2, d3, d4] => { results := [.lit (.bool true)], args := [d1, d2, d3, d4] }
  | _ => none }
def bitmapTurnRow : OpenClaim := { program := "ytjgadfeplaiclaadoor", sum := "13b56dec909c31c62e3d8cbc5104b83339e7bdb98c9d009b98024fc1500261ba", func := "dustpan/dustpanlaw3.BitmapTurn", spec := "bitmapTurn", unfollowed := true, recurses := true, named := ["math/bits.deBruijn64tab"], apart := false, laid := [("math/bits.deBruijn64tab", laid_math_bits_deBruijn64tab)] }
def BitmapTurnSaid : Prop := bitmapTurnRow.holds Tryd.pinned (OpenSpec.ofChange bitmapTurnSpec)

/-- ITS FALSE NEIGHBOUR: 'it returns false'. Refute it at one input. -/
def bitmapTurnWrong : ChangeSpec := { name := "bitmapTurn", fn := fun _ => fun
  | [d1, d2, d3, d4] => { results := [.lit (.bool false)], args := [d1, d2, d3, d4] }
  | _ => none }
def BitmapTurnWrongFalsely : Prop := bitmapTurnRow.holds Tryd.pinned (OpenSpec.ofChange bitmapTurnWrong)

/-- 'dustpanlaw3.BitmapOwn': WHATEVER THE INPUT: true; the input reads as it did. -/
def bitmapOwnSpec : ChangeSpec := { name := "bitmapOwn", fn := fun _ => fun
  | [d1, d2, d3, d4] => { results := [.lit (.bool true)], args := [d1, d2, d3, d4] }
  | _ => none }
def bitmapOwnRow : OpenClaim := { program := "ytjgadfeplaiclaadoor", sum := "13b56dec909c31c62e3d8cbc5104b83339e7bdb98c9d009b98024fc1500261ba", func := "dustpan/dustpanlaw3.BitmapOwn", spec := "bitmapOwn", unfollowed := true, recurses := true, named := ["math/bits.deBruijn64tab"], apart := false, laid := [("math/bits.deBruijn64tab", laid_math_bits_deBruijn64tab)] }
def BitmapOwnSaid : Prop := bitmapOwnRow.holds Tryd.pinned (OpenSpec.ofChange bitmapOwnSpec)

/-- ITS FALSE NEIGHBOUR: 'it returns false'. Refute it at one input. -/
def bitmapOwnWrong : ChangeSpec := { name := "bitmapOwn", fn := fun _ => fun
  | [d1, d2, d3, d4] => { results := [.lit (.bool false)], args := [d1, d2, d3, d4] }
  | _ => none }
def BitmapOwnWrongFalsely : Prop := bitmapOwnRow.holds Tryd.pinned (OpenSpec.ofChange bitmapOwnWrong)

/-- 'dustpanlaw3.BitmapRuns': WHATEVER THE INPUT: true; the input reads as it did. -/
def bitmapRunsSpec : ChangeSpec := { name := "bitmapRuns", fn := fun _ => fun
  | [d1, d2] => { results := [.lit (.bool true)], args := [d1, d2] }
  | _ => none }
def bitmapRunsRow : OpenClaim := { program := "ytjgadfeplaiclaadoor", sum := "13b56dec909c31c62e3d8cbc5104b83339e7bdb98c9d009b98024fc1500261ba", func := "dustpan/dustpanlaw3.BitmapRuns", spec := "bitmapRuns", unfollowed := true, recurses := true, named := ["math/bits.deBruijn64tab"], apart := false, laid := [("math/bits.deBruijn64tab", laid_math_bits_deBruijn64tab)] }
def BitmapRunsSaid : Prop := bitmapRunsRow.holds Tryd.pinned (OpenSpec.ofChange bitmapRunsSpec)

/-- ITS FALSE NEIGHBOUR: 'it returns false'. Refute it at one input. -/
def bitmapRunsWrong : ChangeSpec := { name := "bitmapRuns", fn := fun _ => fun
  | [d1, d2] => { results := [.lit (.bool false)], args := [d1, d2] }
  | _ => none }
def BitmapRunsWrongFalsely : Prop := bitmapRunsRow.holds Tryd.pinned (OpenSpec.ofChange bitmapRunsWrong)

/- THE SECOND FORM. 'bulk': how many values and letters a reading holds, each counted each time it is reached (what is shared counts as often as it is met; a slice's spare places count too). A statement '..UptoSaid' is the law's where the arguments, and the package variables that the reading takes, are together of bulk at most 1048576: NARROWER than '..Said'. Prove '..Said' where nothing that the law and all that it calls make is longer than what came in: it says more and counts as full. Else prove '..UptoSaid'. A law counts once. -/
mutual
def uptoBulk {H : Type} : DataW H → Nat
  | .lit (.string bytes) => bytes.length + 1
  | .lit _ => 1
  | .nil => 1
  | .ptr d => uptoBulk d + 1
  | .slice elems spare => uptoBulkAll elems + uptoBulkAll spare + 1
  | .agg parts => uptoBulkAll parts + 1
  | .iface _ d => uptoBulk d + 1
  | .map entries => uptoBulkEntries entries + 1
  | .held _ => 1
def uptoBulkAll {H : Type} : List (DataW H) → Nat
  | [] => 0
  | d :: r => uptoBulk d + uptoBulkAll r
def uptoBulkEntries {H : Type} : List (Lit × DataW H) → Nat
  | [] => 0
  | x :: r => uptoBulkEntry x + uptoBulkEntries r
def uptoBulkEntry {H : Type} : Lit × DataW H → Nat
  | (.string bytes, d) => bytes.length + uptoBulk d + 1
  | (_, d) => uptoBulk d + 1
 end
def uptoSmall : (H : Type) → List (DataW H) → Bool := fun _ ds => decide (uptoBulkAll ds ≤ 1048576)
def OpenSpec.upto (s : _root_.Go.ChangeSpec) : _root_.Go.OpenSpec := { _root_.Go.OpenSpec.ofChange s with cond := some uptoSmall }

/-- 'dustpanlaw1.WordLow', WHERE WHAT IT READS IS OF BULK AT MOST 1048576: true; the input reads as it did. -/
def wordLowUptoRow : OpenClaim := { program := "ytjgadfeplaiclaadoor", sum := "13b56dec909c31c62e3d8cbc5104b83339e7bdb98c9d009b98024fc1500261ba", func := "dustpan/dustpanlaw1.WordLow", spec := "wordLow", unfollowed := true, recurses := true, named := ["math/bits.deBruijn64tab"], apart := false, laid := [("math/bits.deBruijn64tab", laid_math_bits_deBruijn64tab)], narrowed := true }
def WordLowUptoSaid : Prop := wordLowUptoRow.holds Tryd.pinned (OpenSpec.upto wordLowSpec)

/-- 'dustpanlaw1.WordBack', WHERE WHAT IT READS IS OF BULK AT MOST 1048576: true; the input reads as it did. -/
def wordBackUptoRow : OpenClaim := { program := "ytjgadfeplaiclaadoor", sum := "13b56dec909c31c62e3d8cbc5104b83339e7bdb98c9d009b98024fc1500261ba", func := "dustpan/dustpanlaw1.WordBack", spec := "wordBack", unfollowed := true, recurses := true, named := ["math/bits.deBruijn64tab"], apart := false, laid := [("math/bits.deBruijn64tab", laid_math_bits_deBruijn64tab)], narrowed := true }
def WordBackUptoSaid : Prop := wordBackUptoRow.holds Tryd.pinned (OpenSpec.upto wordBackSpec)

/-- 'dustpanlaw1.WordCount', WHERE WHAT IT READS IS OF BULK AT MOST 1048576: true; the input reads as it did. -/
def wordCountUptoRow : OpenClaim := { program := "ytjgadfeplaiclaadoor", sum := "13b56dec909c31c62e3d8cbc5104b83339e7bdb98c9d009b98024fc1500261ba", func := "dustpan/dustpanlaw1.WordCount", spec := "wordCount", unfollowed := true, recurses := true, named := ["math/bits.deBruijn64tab"], apart := false, laid := [("math/bits.deBruijn64tab", laid_math_bits_deBruijn64tab)], narrowed := true }
def WordCountUptoSaid : Prop := wordCountUptoRow.holds Tryd.pinned (OpenSpec.upto wordCountSpec)

/-- 'dustpanlaw1.WordNth', WHERE WHAT IT READS IS OF BULK AT MOST 1048576: true; the input reads as it did. -/
def wordNthUptoRow : OpenClaim := { program := "ytjgadfeplaiclaadoor", sum := "13b56dec909c31c62e3d8cbc5104b83339e7bdb98c9d009b98024fc1500261ba", func := "dustpan/dustpanlaw1.WordNth", spec := "wordNth", unfollowed := true, recurses := true, named := ["math/bits.deBruijn64tab"], apart := false, laid := [("math/bits.deBruijn64tab", laid_math_bits_deBruijn64tab)], narrowed := true }
def WordNthUptoSaid : Prop := wordNthUptoRow.holds Tryd.pinned (OpenSpec.upto wordNthSpec)

/-- 'dustpanlaw1.WordFirst', WHERE WHAT IT READS IS OF BULK AT MOST 1048576: true; the input reads as it did. -/
def wordFirstUptoRow : OpenClaim := { program := "ytjgadfeplaiclaadoor", sum := "13b56dec909c31c62e3d8cbc5104b83339e7bdb98c9d009b98024fc1500261ba", func := "dustpan/dustpanlaw1.WordFirst", spec := "wordFirst", unfollowed := true, recurses := true, named := ["math/bits.deBruijn64tab"], apart := false, laid := [("math/bits.deBruijn64tab", laid_math_bits_deBruijn64tab)], narrowed := true }
def WordFirstUptoSaid : Prop := wordFirstUptoRow.holds Tryd.pinned (OpenSpec.upto wordFirstSpec)

/-- 'dustpanlaw3.BitmapParts', WHERE WHAT IT READS IS OF BULK AT MOST 1048576: true; the input reads as it did. -/
def bitmapPartsUptoRow : OpenClaim := { program := "ytjgadfeplaiclaadoor", sum := "13b56dec909c31c62e3d8cbc5104b83339e7bdb98c9d009b98024fc1500261ba", func := "dustpan/dustpanlaw3.BitmapParts", spec := "bitmapParts", unfollowed := true, recurses := true, named := ["math/bits.deBruijn64tab"], apart := false, laid := [("math/bits.deBruijn64tab", laid_math_bits_deBruijn64tab)], narrowed := true }
def BitmapPartsUptoSaid : Prop := bitmapPartsUptoRow.holds Tryd.pinned (OpenSpec.upto bitmapPartsSpec)

/-- 'dustpanlaw3.BitmapNext', WHERE WHAT IT READS IS OF BULK AT MOST 1048576: true; the input reads as it did. -/
def bitmapNextUptoRow : OpenClaim := { program := "ytjgadfeplaiclaadoor", sum := "13b56dec909c31c62e3d8cbc5104b83339e7bdb98c9d009b98024fc1500261ba", func := "dustpan/dustpanlaw3.BitmapNext", spec := "bitmapNext", unfollowed := true, recurses := true, named := ["math/bits.deBruijn64tab"], apart := false, laid := [("math/bits.deBruijn64tab", laid_math_bits_deBruijn64tab)], narrowed := true }
def BitmapNextUptoSaid : Prop := bitmapNextUptoRow.holds Tryd.pinned (OpenSpec.upto bitmapNextSpec)

/-- 'dustpanlaw3.BitmapTurn', WHERE WHAT IT READS IS OF BULK AT MOST 1048576: true; the input reads as it did. -/
def bitmapTurnUptoRow : OpenClaim := { program := "ytjgadfeplaiclaadoor", sum := "13b56dec909c31c62e3d8cbc5104b83339e7bdb98c9d009b98024fc1500261ba", func := "dustpan/dustpanlaw3.BitmapTurn", spec := "bitmapTurn", unfollowed := true, recurses := true, named := ["math/bits.deBruijn64tab"], apart := false, laid := [("math/bits.deBruijn64tab", laid_math_bits_deBruijn64tab)], narrowed := true }
def BitmapTurnUptoSaid : Prop := bitmapTurnUptoRow.holds Tryd.pinned (OpenSpec.upto bitmapTurnSpec)

/-- 'dustpanlaw3.BitmapOwn', WHERE WHAT IT READS IS OF BULK AT MOST 1048576: true; the input reads as it did. -/
def bitmapOwnUptoRow : OpenClaim := { program := "ytjgadfeplaiclaadoor", sum := "13b56dec909c31c62e3d8cbc5104b83339e7bdb98c9d009b98024fc1500261ba", func := "dustpan/dustpanlaw3.BitmapOwn", spec := "bitmapOwn", unfollowed := true, recurses := true, named := ["math/bits.deBruijn64tab"], apart := false, laid := [("math/bits.deBruijn64tab", laid_math_bits_deBruijn64tab)], narrowed := true }
def BitmapOwnUptoSaid : Prop := bitmapOwnUptoRow.holds Tryd.pinned (OpenSpec.upto bitmapOwnSpec)

/-- 'dustpanlaw3.BitmapRuns', WHERE WHAT IT READS IS OF BULK AT MOST 1048576: true; the input reads as it did. -/
def bitmapRunsUptoRow : OpenClaim := { program := "ytjgadfeplaiclaadoor", sum := "13b56dec909c31c62e3d8cbc5104b83339e7bdb98c9d009b98024fc1500261ba", func := "dustpan/dustpanlaw3.BitmapRuns", spec := "bitmapRuns", unfollowed := true, recurses := true, named := ["math/bits.deBruijn64tab"], apart := false, laid := [("math/bits.deBruijn64tab", laid_math_bits_deBruijn64tab)], narrowed := true }
def BitmapRunsUptoSaid : Prop := bitmapRunsUptoRow.holds Tryd.pinned (OpenSpec.upto bitmapRunsSpec)

end Rows
end Go.Proofs.YtjgadfeplaiclaaDoor
