/-
  DERIVED. GIVEN WITH THE SEED: THE CARDS: each row of YtkdigojjeiidmaaDoorRows.lean that lists a variable, with what it lists TIED to the program's text (the seventh form; the later family's looks); each row that meets fmt, with fmt's text TOLD by the authors' own Lean function (tested against real Go, not proved from fmt's source: count such statements apart). THE CARD IS WHAT COUNTS. Prove the row's statement (the work); the ties are given (YtkdigojjeiidmaaDoorTie.lean); close each card by the builder's one call (the guide's Derived/Test/ToyasCard.lean, 'card_holds'). Laid BY PROGRAM, IN A SANDBOX (cutbox-door.mjs). By AI agents, Wed Nov 11 2026. No macro, syntax, notation, axiom, sorry.
-/
import Derived.Test.YtkdigojjeiidmaaDoorRows
import GoSem.ClaimSeven
namespace Go.Proofs.YtkdigojjeiidmaaDoor
namespace Rows

/-- THE TIED CARD OF 'dustpanlaw26.ScriptEnd'. -/
def scriptEndCard : Claim7 := { stood := { row := scriptEndRow, standIns := [], harness := (true, "c8189b3c942e9f8e8c2fcbc87afff7e32201f17f8ca2ab50eb0f154ee11c8ca7"), looks := true }, kinds := [], alts := [], laidByText := true, laidKinds := [.data, .data, .data], laidTests := true, laidLooks := .later }
def ScriptEndCardSaid : Prop := Claim7.holds Tryd.pinned (.plain (OpenSpec.ofChange scriptEndSpec)) scriptEndCard

/-- THE TIED CARD OF 'dustpanlaw26.ScriptOwn'. -/
def scriptOwnCard : Claim7 := { stood := { row := scriptOwnRow, standIns := [], harness := (true, "c8189b3c942e9f8e8c2fcbc87afff7e32201f17f8ca2ab50eb0f154ee11c8ca7"), looks := true }, kinds := [], alts := [], laidByText := true, laidKinds := [.data, .data, .data], laidTests := true, laidLooks := .later }
def ScriptOwnCardSaid : Prop := Claim7.holds Tryd.pinned (.plain (OpenSpec.ofChange scriptOwnSpec)) scriptOwnCard

/-- THE TIED CARD OF 'dustpanlaw26.ScriptMay'. -/
def scriptMayCard : Claim7 := { stood := { row := scriptMayRow, standIns := [], harness := (true, "c8189b3c942e9f8e8c2fcbc87afff7e32201f17f8ca2ab50eb0f154ee11c8ca7"), looks := true }, kinds := [], alts := [], laidByText := true, laidKinds := [.data, .data, .data], laidTests := true, laidLooks := .later }
def ScriptMayCardSaid : Prop := Claim7.holds Tryd.pinned (.plain (OpenSpec.ofChange scriptMaySpec)) scriptMayCard

/-- THE TIED CARD OF 'dustpanlaw26.ScriptDecode'. -/
def scriptDecodeCard : Claim7 := { stood := { row := scriptDecodeRow, standIns := [], harness := (true, "c8189b3c942e9f8e8c2fcbc87afff7e32201f17f8ca2ab50eb0f154ee11c8ca7"), looks := true }, kinds := [], alts := [], laidByText := true, laidKinds := [.data, .data, .data], laidTests := true, laidLooks := .later }
def ScriptDecodeCardSaid : Prop := Claim7.holds Tryd.pinned (.plain (OpenSpec.ofChange scriptDecodeSpec)) scriptDecodeCard

/-- THE TIED CARD OF 'dustpanlaw26.ScriptRead'. -/
def scriptReadCard : Claim7 := { stood := { row := scriptReadRow, standIns := [], harness := (true, "c8189b3c942e9f8e8c2fcbc87afff7e32201f17f8ca2ab50eb0f154ee11c8ca7"), looks := true }, kinds := [], alts := [], laidByText := true, laidKinds := [.data, .data, .data, .data, .sentinel, .sentinel, .pinned], laidTests := true, laidLooks := .later }
def ScriptReadCardSaid : Prop := Claim7.holds Tryd.pinned (.plain (OpenSpec.ofChange scriptReadSpec)) scriptReadCard

/-- THE TIED CARD OF 'dustpanlaw26.ScriptBack'. -/
def scriptBackCard : Claim7 := { stood := { row := scriptBackRow, standIns := [], harness := (true, "c8189b3c942e9f8e8c2fcbc87afff7e32201f17f8ca2ab50eb0f154ee11c8ca7"), looks := true }, kinds := [], alts := [], laidByText := true, laidKinds := [.data, .data, .data, .data, .sentinel, .sentinel, .pinned], laidTests := true, laidLooks := .later }
def ScriptBackCardSaid : Prop := Claim7.holds Tryd.pinned (.plain (OpenSpec.ofChange scriptBackSpec)) scriptBackCard

/-- THE TIED CARD OF 'dustpanlaw26.ScriptOne'. -/
def scriptOneCard : Claim7 := { stood := { row := scriptOneRow, standIns := [], harness := (true, "c8189b3c942e9f8e8c2fcbc87afff7e32201f17f8ca2ab50eb0f154ee11c8ca7"), looks := true }, kinds := [], alts := [], laidByText := true, laidKinds := [.data, .data, .data, .data, .sentinel, .sentinel, .pinned], laidTests := true, laidLooks := .later }
def ScriptOneCardSaid : Prop := Claim7.holds Tryd.pinned (.plain (OpenSpec.ofChange scriptOneSpec)) scriptOneCard

/-- THE SECOND FORM's CARD OF 'dustpanlaw26.ScriptEnd'. -/
def scriptEndUptoCard : Claim7 := { stood := { row := scriptEndUptoRow, standIns := [], harness := (true, "c8189b3c942e9f8e8c2fcbc87afff7e32201f17f8ca2ab50eb0f154ee11c8ca7"), looks := true }, kinds := [], alts := [], laidByText := true, laidKinds := [.data, .data, .data], laidTests := true, laidLooks := .later }
def ScriptEndUptoCardSaid : Prop := Claim7.holds Tryd.pinned (.plain (OpenSpec.upto scriptEndSpec)) scriptEndUptoCard

/-- THE SECOND FORM's CARD OF 'dustpanlaw26.ScriptOwn'. -/
def scriptOwnUptoCard : Claim7 := { stood := { row := scriptOwnUptoRow, standIns := [], harness := (true, "c8189b3c942e9f8e8c2fcbc87afff7e32201f17f8ca2ab50eb0f154ee11c8ca7"), looks := true }, kinds := [], alts := [], laidByText := true, laidKinds := [.data, .data, .data], laidTests := true, laidLooks := .later }
def ScriptOwnUptoCardSaid : Prop := Claim7.holds Tryd.pinned (.plain (OpenSpec.upto scriptOwnSpec)) scriptOwnUptoCard

/-- THE SECOND FORM's CARD OF 'dustpanlaw26.ScriptMay'. -/
def scriptMayUptoCard : Claim7 := { stood := { row := scriptMayUptoRow, standIns := [], harness := (true, "c8189b3c942e9f8e8c2fcbc87afff7e32201f17f8ca2ab50eb0f154ee11c8ca7"), looks := true }, kinds := [], alts := [], laidByText := true, laidKinds := [.data, .data, .data], laidTests := true, laidLooks := .later }
def ScriptMayUptoCardSaid : Prop := Claim7.holds Tryd.pinned (.plain (OpenSpec.upto scriptMaySpec)) scriptMayUptoCard

/-- THE SECOND FORM's CARD OF 'dustpanlaw26.ScriptDecode'. -/
def scriptDecodeUptoCard : Claim7 := { stood := { row := scriptDecodeUptoRow, standIns := [], harness := (true, "c8189b3c942e9f8e8c2fcbc87afff7e32201f17f8ca2ab50eb0f154ee11c8ca7"), looks := true }, kinds := [], alts := [], laidByText := true, laidKinds := [.data, .data, .data], laidTests := true, laidLooks := .later }
def ScriptDecodeUptoCardSaid : Prop := Claim7.holds Tryd.pinned (.plain (OpenSpec.upto scriptDecodeSpec)) scriptDecodeUptoCard

/-- THE SECOND FORM's CARD OF 'dustpanlaw26.ScriptRead'. -/
def scriptReadUptoCard : Claim7 := { stood := { row := scriptReadUptoRow, standIns := [], harness := (true, "c8189b3c942e9f8e8c2fcbc87afff7e32201f17f8ca2ab50eb0f154ee11c8ca7"), looks := true }, kinds := [], alts := [], laidByText := true, laidKinds := [.data, .data, .data, .data, .sentinel, .sentinel, .pinned], laidTests := true, laidLooks := .later }
def ScriptReadUptoCardSaid : Prop := Claim7.holds Tryd.pinned (.plain (OpenSpec.upto scriptReadSpec)) scriptReadUptoCard

/-- THE SECOND FORM's CARD OF 'dustpanlaw26.ScriptBack'. -/
def scriptBackUptoCard : Claim7 := { stood := { row := scriptBackUptoRow, standIns := [], harness := (true, "c8189b3c942e9f8e8c2fcbc87afff7e32201f17f8ca2ab50eb0f154ee11c8ca7"), looks := true }, kinds := [], alts := [], laidByText := true, laidKinds := [.data, .data, .data, .data, .sentinel, .sentinel, .pinned], laidTests := true, laidLooks := .later }
def ScriptBackUptoCardSaid : Prop := Claim7.holds Tryd.pinned (.plain (OpenSpec.upto scriptBackSpec)) scriptBackUptoCard

/-- THE SECOND FORM's CARD OF 'dustpanlaw26.ScriptOne'. -/
def scriptOneUptoCard : Claim7 := { stood := { row := scriptOneUptoRow, standIns := [], harness := (true, "c8189b3c942e9f8e8c2fcbc87afff7e32201f17f8ca2ab50eb0f154ee11c8ca7"), looks := true }, kinds := [], alts := [], laidByText := true, laidKinds := [.data, .data, .data, .data, .sentinel, .sentinel, .pinned], laidTests := true, laidLooks := .later }
def ScriptOneUptoCardSaid : Prop := Claim7.holds Tryd.pinned (.plain (OpenSpec.upto scriptOneSpec)) scriptOneUptoCard
end Rows
end Go.Proofs.YtkdigojjeiidmaaDoor
