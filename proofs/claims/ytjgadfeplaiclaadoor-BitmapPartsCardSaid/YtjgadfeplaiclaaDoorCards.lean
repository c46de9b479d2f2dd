/-
  DERIVED. GIVEN WITH THE SEED: THE CARDS: each row of YtjgadfeplaiclaaDoorRows.lean that lists a variable, with what it lists TIED to the program's text (the seventh form; the later family's looks); each row that meets fmt, with fmt's text TOLD by the authors' own Lean function (tested against real Go, not proved from fmt's source: count such statements apart). THE CARD IS WHAT COUNTS. Prove the row's statement (the work); the ties are given (YtjgadfeplaiclaaDoorTie.lean); close each card by the builder's one call (the guide's Derived/Test/ToyasCard.lean, 'card_holds'). Laid BY PROGRAM, IN A SANDBOX (cutbox-door.mjs). By AI agents, Wed Nov 11 2026. No macro, syntax, notation, axiom, sorry.
-/
import Derived.Test.YtjgadfeplaiclaaDoorRows
import GoSem.ClaimSeven
namespace Go.Proofs.YtjgadfeplaiclaaDoor
namespace Rows

/-- THE TIED CARD OF 'dustpanlaw1.WordLow'. -/
def wordLowCard : Claim7 := { stood := { row := wordLowRow, standIns := [], harness := (true, "81a74bd291959cb48c3960f8fb0a596bbf5b72858edab707acc84389fcdc1131"), looks := false }, kinds := [], alts := [], laidByText := true, laidKinds := [.data], laidTests := true, laidLooks := .later }
def WordLowCardSaid : Prop := Claim7.holds Tryd.pinned (.plain (OpenSpec.ofChange wordLowSpec)) wordLowCard

/-- THE TIED CARD OF 'dustpanlaw1.WordBack'. -/
def wordBackCard : Claim7 := { stood := { row := wordBackRow, standIns := [], harness := (true, "81a74bd291959cb48c3960f8fb0a596bbf5b72858edab707acc84389fcdc1131"), looks := false }, kinds := [], alts := [], laidByText := true, laidKinds := [.data], laidTests := true, laidLooks := .later }
def WordBackCardSaid : Prop := Claim7.holds Tryd.pinned (.plain (OpenSpec.ofChange wordBackSpec)) wordBackCard

/-- THE TIED CARD OF 'dustpanlaw1.WordCount'. -/
def wordCountCard : Claim7 := { stood := { row := wordCountRow, standIns := [], harness := (true, "81a74bd291959cb48c3960f8fb0a596bbf5b72858edab707acc84389fcdc1131"), looks := false }, kinds := [], alts := [], laidByText := true, laidKinds := [.data], laidTests := true, laidLooks := .later }
def WordCountCardSaid : Prop := Claim7.holds Tryd.pinned (.plain (OpenSpec.ofChange wordCountSpec)) wordCountCard

/-- THE TIED CARD OF 'dustpanlaw1.WordNth'. -/
def wordNthCard : Claim7 := { stood := { row := wordNthRow, standIns := [], harness := (true, "81a74bd291959cb48c3960f8fb0a596bbf5b72858edab707acc84389fcdc1131"), looks := false }, kinds := [], alts := [], laidByText := true, laidKinds := [.data], laidTests := true, laidLooks := .later }
def WordNthCardSaid : Prop := Claim7.holds Tryd.pinned (.plain (OpenSpec.ofChange wordNthSpec)) wordNthCard

/-- THE TIED CARD OF 'dustpanlaw1.WordFirst'. -/
def wordFirstCard : Claim7 := { stood := { row := wordFirstRow, standIns := [], harness := (true, "81a74bd291959cb48c3960f8fb0a596bbf5b72858edab707acc84389fcdc1131"), looks := false }, kinds := [], alts := [], laidByText := true, laidKinds := [.data], laidTests := true, laidLooks := .later }
def WordFirstCardSaid : Prop := Claim7.holds Tryd.pinned (.plain (OpenSpec.ofChange wordFirstSpec)) wordFirstCard

/-- THE TIED CARD OF 'dustpanlaw3.BitmapParts'. -/
def bitmapPartsCard : Claim7 := { stood := { row := bitmapPartsRow, standIns := [], harness := (true, "81a74bd291959cb48c3960f8fb0a596bbf5b72858edab707acc84389fcdc1131"), looks := false }, kinds := [], alts := [], laidByText := true, laidKinds := [.data], laidTests := true, laidLooks := .later }
def BitmapPartsCardSaid : Prop := Claim7.holds Tryd.pinned (.plain (OpenSpec.ofChange bitmapPartsSpec)) bitmapPartsCard

/-- THE TIED CARD OF 'dustpanlaw3.BitmapNext'. -/
def bitmapNextCard : Claim7 := { stood := { row := bitmapNextRow, standIns := [], harness := (true, "81a74bd291959cb48c3960f8fb0a596bbf5b72858edab707acc84389fcdc1131"), looks := false }, kinds := [], alts := [], laidByText := true, laidKinds := [.data], laidTests := true, laidLooks := .later }
def BitmapNextCardSaid : Prop := Claim7.holds Tryd.pinned (.plain (OpenSpec.ofChange bitmapNextSpec)) bitmapNextCard

/-- THE TIED CARD OF 'dustpanlaw3.BitmapTurn'. -/
def bitmapTurnCard : Claim7 := { stood := { row := bitmapTurnRow, standIns := [], harness := (true, "81a74bd291959cb48c3960f8fb0a596bbf5b72858edab707acc84389fcdc1131"), looks := false }, kinds := [], alts := [], laidByText := true, laidKinds := [.data], laidTests := true, laidLooks := .later }
def BitmapTurnCardSaid : Prop := Claim7.holds Tryd.pinned (.plain (OpenSpec.ofChange bitmapTurnSpec)) bitmapTurnCard

/-- THE TIED CARD OF 'dustpanlaw3.BitmapOwn'. -/
def bitmapOwnCard : Claim7 := { stood := { row := bitmapOwnRow, standIns := [], harness := (true, "81a74bd291959cb48c3960f8fb0a596bbf5b72858edab707acc84389fcdc1131"), looks := false }, kinds := [], alts := [], laidByText := true, laidKinds := [.data], laidTests := true, laidLooks := .later }
def BitmapOwnCardSaid : Prop := Claim7.holds Tryd.pinned (.plain (OpenSpec.ofChange bitmapOwnSpec)) bitmapOwnCard

/-- THE TIED CARD OF 'dustpanlaw3.BitmapRuns'. -/
def bitmapRunsCard : Claim7 := { stood := { row := bitmapRunsRow, standIns := [], harness := (true, "81a74bd291959cb48c3960f8fb0a596bbf5b72858edab707acc84389fcdc1131"), looks := false }, kinds := [], alts := [], laidByText := true, laidKinds := [.data], laidTests := true, laidLooks := .later }
def BitmapRunsCardSaid : Prop := Claim7.holds Tryd.pinned (.plain (OpenSpec.ofChange bitmapRunsSpec)) bitmapRunsCard

/-- THE SECOND FORM's CARD OF 'dustpanlaw1.WordLow'. -/
def wordLowUptoCard : Claim7 := { stood := { row := wordLowUptoRow, standIns := [], harness := (true, "81a74bd291959cb48c3960f8fb0a596bbf5b72858edab707acc84389fcdc1131"), looks := false }, kinds := [], alts := [], laidByText := true, laidKinds := [.data], laidTests := true, laidLooks := .later }
def WordLowUptoCardSaid : Prop := Claim7.holds Tryd.pinned (.plain (OpenSpec.upto wordLowSpec)) wordLowUptoCard

/-- THE SECOND FORM's CARD OF 'dustpanlaw1.WordBack'. -/
def wordBackUptoCard : Claim7 := { stood := { row := wordBackUptoRow, standIns := [], harness := (true, "81a74bd291959cb48c3960f8fb0a596bbf5b72858edab707acc84389fcdc1131"), looks := false }, kinds := [], alts := [], laidByText := true, laidKinds := [.data], laidTests := true, laidLooks := .later }
def WordBackUptoCardSaid : Prop := Claim7.holds Tryd.pinned (.plain (OpenSpec.upto wordBackSpec)) wordBackUptoCard

/-- THE SECOND FORM's CARD OF 'dustpanlaw1.WordCount'. -/
def wordCountUptoCard : Claim7 := { stood := { row := wordCountUptoRow, standIns := [], harness := (true, "81a74bd291959cb48c3960f8fb0a596bbf5b72858edab707acc84389fcdc1131"), looks := false }, kinds := [], alts := [], laidByText := true, laidKinds := [.data], laidTests := true, laidLooks := .later }
def WordCountUptoCardSaid : Prop := Claim7.holds Tryd.pinned (.plain (OpenSpec.upto wordCountSpec)) wordCountUptoCard

/-- THE SECOND FORM's CARD OF 'dustpanlaw1.WordNth'. -/
def wordNthUptoCard : Claim7 := { stood := { row := wordNthUptoRow, standIns := [], harness := (true, "81a74bd291959cb48c3960f8fb0a596bbf5b72858edab707acc84389fcdc1131"), looks := false }, kinds := [], alts := [], laidByText := true, laidKinds := [.data], laidTests := true, laidLooks := .later }
def WordNthUptoCardSaid : Prop := Claim7.holds Tryd.pinned (.plain (OpenSpec.upto wordNthSpec)) wordNthUptoCard

/-- THE SECOND FORM's CARD OF 'dustpanlaw1.WordFirst'. -/
def wordFirstUptoCard : Claim7 := { stood := { row := wordFirstUptoRow, standIns := [], harness := (true, "81a74bd291959cb48c3960f8fb0a596bbf5b72858edab707acc84389fcdc1131"), looks := false }, kinds := [], alts := [], laidByText := true, laidKinds := [.data], laidTests := true, laidLooks := .later }
def WordFirstUptoCardSaid : Prop := Claim7.holds Tryd.pinned (.plain (OpenSpec.upto wordFirstSpec)) wordFirstUptoCard

/-- THE SECOND FORM's CARD OF 'dustpanlaw3.BitmapParts'. -/
def bitmapPartsUptoCard : Claim7 := { stood := { row := bitmapPartsUptoRow, standIns := [], harness := (true, "81a74bd291959cb48c3960f8fb0a596bbf5b72858edab707acc84389fcdc1131"), looks := false }, kinds := [], alts := [], laidByText := true, laidKinds := [.data], laidTests := true, laidLooks := .later }
def BitmapPartsUptoCardSaid : Prop := Claim7.holds Tryd.pinned (.plain (OpenSpec.upto bitmapPartsSpec)) bitmapPartsUptoCard

/-- THE SECOND FORM's CARD OF 'dustpanlaw3.BitmapNext'. -/
def bitmapNextUptoCard : Claim7 := { stood := { row := bitmapNextUptoRow, standIns := [], harness := (true, "81a74bd291959cb48c3960f8fb0a596bbf5b72858edab707acc84389fcdc1131"), looks := false }, kinds := [], alts := [], laidByText := true, laidKinds := [.data], laidTests := true, laidLooks := .later }
def BitmapNextUptoCardSaid : Prop := Claim7.holds Tryd.pinned (.plain (OpenSpec.upto bitmapNextSpec)) bitmapNextUptoCard

/-- THE SECOND FORM's CARD OF 'dustpanlaw3.BitmapTurn'. -/
def bitmapTurnUptoCard : Claim7 := { stood := { row := bitmapTurnUptoRow, standIns := [], harness := (true, "81a74bd291959cb48c3960f8fb0a596bbf5b72858edab707acc84389fcdc1131"), looks := false }, kinds := [], alts := [], laidByText := true, laidKinds := [.data], laidTests := true, laidLooks := .later }
def BitmapTurnUptoCardSaid : Prop := Claim7.holds Tryd.pinned (.plain (OpenSpec.upto bitmapTurnSpec)) bitmapTurnUptoCard

/-- THE SECOND FORM's CARD OF 'dustpanlaw3.BitmapOwn'. -/
def bitmapOwnUptoCard : Claim7 := { stood := { row := bitmapOwnUptoRow, standIns := [], harness := (true, "81a74bd291959cb48c3960f8fb0a596bbf5b72858edab707acc84389fcdc1131"), looks := false }, kinds := [], alts := [], laidByText := true, laidKinds := [.data], laidTests := true, laidLooks := .later }
def BitmapOwnUptoCardSaid : Prop := Claim7.holds Tryd.pinned (.plain (OpenSpec.upto bitmapOwnSpec)) bitmapOwnUptoCard

/-- THE SECOND FORM's CARD OF 'dustpanlaw3.BitmapRuns'. -/
def bitmapRunsUptoCard : Claim7 := { stood := { row := bitmapRunsUptoRow, standIns := [], harness := (true, "81a74bd291959cb48c3960f8fb0a596bbf5b72858edab707acc84389fcdc1131"), looks := false }, kinds := [], alts := [], laidByText := true, laidKinds := [.data], laidTests := true, laidLooks := .later }
def BitmapRunsUptoCardSaid : Prop := Claim7.holds Tryd.pinned (.plain (OpenSpec.upto bitmapRunsSpec)) bitmapRunsUptoCard
end Rows
end Go.Proofs.YtjgadfeplaiclaaDoor
