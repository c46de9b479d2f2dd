/-
  DERIVED. GIVEN WITH THE SEED: THE CARDS: each row of YtomheapokfphiaaDoorRows.lean that lists a variable, with what it lists TIED to the program's text (the seventh form; the later family's looks); each row that meets fmt, with fmt's text TOLD by the authors' own Lean function (tested against real Go, not proved from fmt's source: count such statements apart). THE CARD IS WHAT COUNTS. Prove the row's statement (the work); the ties are given (YtomheapokfphiaaDoorTie.lean); close each card by the builder's one call (the guide's Derived/Test/ToyasCard.lean, 'card_holds'). Laid BY PROGRAM, IN A SANDBOX (cutbox-door.mjs). By AI agents, Wed Nov 11 2026. No macro, syntax, notation, axiom, sorry.
-/
import Derived.Test.YtomheapokfphiaaDoorRows
import GoSem.ClaimSeven
namespace Go.Proofs.YtomheapokfphiaaDoor
namespace Rows

/-- THE TIED CARD OF 'dustpanlaw4.ClassFits'. -/
def classFitsCard : Claim7 := { stood := { row := classFitsRow, standIns := [], harness := (true, "83ff20b3452dd0d4f12dbc6af628f9b91c5c289804ea384645151b762db552bf"), looks := false }, kinds := [], alts := [], laidByText := true, laidKinds := [.data], laidTests := true, laidLooks := .later }
def ClassFitsCardSaid : Prop := Claim7.holds Tryd.pinned (.plain (OpenSpec.ofChange classFitsSpec)) classFitsCard

/-- THE TIED CARD OF 'dustpanlaw4.ClassAll'. -/
def classAllCard : Claim7 := { stood := { row := classAllRow, standIns := [], harness := (true, "83ff20b3452dd0d4f12dbc6af628f9b91c5c289804ea384645151b762db552bf"), looks := false }, kinds := [], alts := [], laidByText := true, laidKinds := [.data], laidTests := true, laidLooks := .later }
def ClassAllCardSaid : Prop := Claim7.holds Tryd.pinned (.plain (OpenSpec.ofChange classAllSpec)) classAllCard

/-- THE TIED CARD OF 'dustpanlaw4.ClassRows'. -/
def classRowsCard : Claim7 := { stood := { row := classRowsRow, standIns := [], harness := (true, "83ff20b3452dd0d4f12dbc6af628f9b91c5c289804ea384645151b762db552bf"), looks := false }, kinds := [], alts := [], laidByText := true, laidKinds := [.data], laidTests := true, laidLooks := .later }
def ClassRowsCardSaid : Prop := Claim7.holds Tryd.pinned (.plain (OpenSpec.ofChange classRowsSpec)) classRowsCard

/-- THE TIED CARD OF 'dustpanlaw4.ClassNone'. -/
def classNoneCard : Claim7 := { stood := { row := classNoneRow, standIns := [], harness := (true, "83ff20b3452dd0d4f12dbc6af628f9b91c5c289804ea384645151b762db552bf"), looks := false }, kinds := [], alts := [], laidByText := true, laidKinds := [.data], laidTests := true, laidLooks := .later }
def ClassNoneCardSaid : Prop := Claim7.holds Tryd.pinned (.plain (OpenSpec.ofChange classNoneSpec)) classNoneCard

/-- THE TIED CARD OF 'dustpanlaw5.SlotBytes'. -/
def slotBytesCard : Claim7 := { stood := { row := slotBytesRow, standIns := [], harness := (true, "83ff20b3452dd0d4f12dbc6af628f9b91c5c289804ea384645151b762db552bf"), looks := false }, kinds := [], alts := [], laidByText := true, laidKinds := [.data], laidTests := true, laidLooks := .later }
def SlotBytesCardSaid : Prop := Claim7.holds Tryd.pinned (.plain (OpenSpec.ofChange slotBytesSpec)) slotBytesCard

/-- THE TIED CARD OF 'dustpanlaw5.SlotBack'. -/
def slotBackCard : Claim7 := { stood := { row := slotBackRow, standIns := [], harness := (true, "83ff20b3452dd0d4f12dbc6af628f9b91c5c289804ea384645151b762db552bf"), looks := false }, kinds := [], alts := [], laidByText := true, laidKinds := [.data], laidTests := true, laidLooks := .later }
def SlotBackCardSaid : Prop := Claim7.holds Tryd.pinned (.plain (OpenSpec.ofChange slotBackSpec)) slotBackCard

/-- THE TIED CARD OF 'dustpanlaw5.SlotAll'. -/
def slotAllCard : Claim7 := { stood := { row := slotAllRow, standIns := [], harness := (true, "83ff20b3452dd0d4f12dbc6af628f9b91c5c289804ea384645151b762db552bf"), looks := false }, kinds := [], alts := [], laidByText := true, laidKinds := [.data], laidTests := true, laidLooks := .later }
def SlotAllCardSaid : Prop := Claim7.holds Tryd.pinned (.plain (OpenSpec.ofChange slotAllSpec)) slotAllCard

/-- THE TIED CARD OF 'dustpanlaw5.SlotApart'. -/
def slotApartCard : Claim7 := { stood := { row := slotApartRow, standIns := [], harness := (true, "83ff20b3452dd0d4f12dbc6af628f9b91c5c289804ea384645151b762db552bf"), looks := false }, kinds := [], alts := [], laidByText := true, laidKinds := [.data], laidTests := true, laidLooks := .later }
def SlotApartCardSaid : Prop := Claim7.holds Tryd.pinned (.plain (OpenSpec.ofChange slotApartSpec)) slotApartCard

/-- THE TIED CARD OF 'dustpanlaw29.LinAll'. -/
def linAllCard : Claim7 := { stood := { row := linAllRow, standIns := [], harness := (true, "83ff20b3452dd0d4f12dbc6af628f9b91c5c289804ea384645151b762db552bf"), looks := false }, kinds := [], alts := [], laidByText := true, laidKinds := [.data], laidTests := true, laidLooks := .later }
def LinAllCardSaid : Prop := Claim7.holds Tryd.pinned (.plain (OpenSpec.ofChange linAllSpec)) linAllCard

/-- THE TIED CARD OF 'dustpanlaw29.LinRaw'. -/
def linRawCard : Claim7 := { stood := { row := linRawRow, standIns := [], harness := (true, "83ff20b3452dd0d4f12dbc6af628f9b91c5c289804ea384645151b762db552bf"), looks := false }, kinds := [], alts := [], laidByText := true, laidKinds := [.data], laidTests := true, laidLooks := .later }
def LinRawCardSaid : Prop := Claim7.holds Tryd.pinned (.plain (OpenSpec.ofChange linRawSpec)) linRawCard

/-- THE TIED CARD OF 'dustpanlaw29.LinFirst'. -/
def linFirstCard : Claim7 := { stood := { row := linFirstRow, standIns := [], harness := (true, "83ff20b3452dd0d4f12dbc6af628f9b91c5c289804ea384645151b762db552bf"), looks := false }, kinds := [], alts := [], laidByText := true, laidKinds := [.data], laidTests := true, laidLooks := .later }
def LinFirstCardSaid : Prop := Claim7.holds Tryd.pinned (.plain (OpenSpec.ofChange linFirstSpec)) linFirstCard

/-- THE TIED CARD OF 'dustpanlaw29.LinRow'. -/
def linRowCard : Claim7 := { stood := { row := linRowRow, standIns := [], harness := (true, "83ff20b3452dd0d4f12dbc6af628f9b91c5c289804ea384645151b762db552bf"), looks := false }, kinds := [], alts := [], laidByText := true, laidKinds := [.data], laidTests := true, laidLooks := .later }
def LinRowCardSaid : Prop := Claim7.holds Tryd.pinned (.plain (OpenSpec.ofChange linRowSpec)) linRowCard

/-- THE TIED CARD OF 'dustpanlaw29.LinTimes'. -/
def linTimesCard : Claim7 := { stood := { row := linTimesRow, standIns := [], harness := (true, "83ff20b3452dd0d4f12dbc6af628f9b91c5c289804ea384645151b762db552bf"), looks := false }, kinds := [], alts := [], laidByText := true, laidKinds := [.data], laidTests := true, laidLooks := .later }
def LinTimesCardSaid : Prop := Claim7.holds Tryd.pinned (.plain (OpenSpec.ofChange linTimesSpec)) linTimesCard

/-- THE SECOND FORM's CARD OF 'dustpanlaw4.ClassFits'. -/
def classFitsUptoCard : Claim7 := { stood := { row := classFitsUptoRow, standIns := [], harness := (true, "83ff20b3452dd0d4f12dbc6af628f9b91c5c289804ea384645151b762db552bf"), looks := false }, kinds := [], alts := [], laidByText := true, laidKinds := [.data], laidTests := true, laidLooks := .later }
def ClassFitsUptoCardSaid : Prop := Claim7.holds Tryd.pinned (.plain (OpenSpec.upto classFitsSpec)) classFitsUptoCard

/-- THE SECOND FORM's CARD OF 'dustpanlaw4.ClassAll'. -/
def classAllUptoCard : Claim7 := { stood := { row := classAllUptoRow, standIns := [], harness := (true, "83ff20b3452dd0d4f12dbc6af628f9b91c5c289804ea384645151b762db552bf"), looks := false }, kinds := [], alts := [], laidByText := true, laidKinds := [.data], laidTests := true, laidLooks := .later }
def ClassAllUptoCardSaid : Prop := Claim7.holds Tryd.pinned (.plain (OpenSpec.upto classAllSpec)) classAllUptoCard

/-- THE SECOND FORM's CARD OF 'dustpanlaw4.ClassRows'. -/
def classRowsUptoCard : Claim7 := { stood := { row := classRowsUptoRow, standIns := [], harness := (true, "83ff20b3452dd0d4f12dbc6af628f9b91c5c289804ea384645151b762db552bf"), looks := false }, kinds := [], alts := [], laidByText := true, laidKinds := [.data], laidTests := true, laidLooks := .later }
def ClassRowsUptoCardSaid : Prop := Claim7.holds Tryd.pinned (.plain (OpenSpec.upto classRowsSpec)) classRowsUptoCard

/-- THE SECOND FORM's CARD OF 'dustpanlaw4.ClassNone'. -/
def classNoneUptoCard : Claim7 := { stood := { row := classNoneUptoRow, standIns := [], harness := (true, "83ff20b3452dd0d4f12dbc6af628f9b91c5c289804ea384645151b762db552bf"), looks := false }, kinds := [], alts := [], laidByText := true, laidKinds := [.data], laidTests := true, laidLooks := .later }
def ClassNoneUptoCardSaid : Prop := Claim7.holds Tryd.pinned (.plain (OpenSpec.upto classNoneSpec)) classNoneUptoCard

/-- THE SECOND FORM's CARD OF 'dustpanlaw5.SlotBytes'. -/
def slotBytesUptoCard : Claim7 := { stood := { row := slotBytesUptoRow, standIns := [], harness := (true, "83ff20b3452dd0d4f12dbc6af628f9b91c5c289804ea384645151b762db552bf"), looks := false }, kinds := [], alts := [], laidByText := true, laidKinds := [.data], laidTests := true, laidLooks := .later }
def SlotBytesUptoCardSaid : Prop := Claim7.holds Tryd.pinned (.plain (OpenSpec.upto slotBytesSpec)) slotBytesUptoCard

/-- THE SECOND FORM's CARD OF 'dustpanlaw5.SlotBack'. -/
def slotBackUptoCard : Claim7 := { stood := { row := slotBackUptoRow, standIns := [], harness := (true, "83ff20b3452dd0d4f12dbc6af628f9b91c5c289804ea384645151b762db552bf"), looks := false }, kinds := [], alts := [], laidByText := true, laidKinds := [.data], laidTests := true, laidLooks := .later }
def SlotBackUptoCardSaid : Prop := Claim7.holds Tryd.pinned (.plain (OpenSpec.upto slotBackSpec)) slotBackUptoCard

/-- THE SECOND FORM's CARD OF 'dustpanlaw5.SlotAll'. -/
def slotAllUptoCard : Claim7 := { stood := { row := slotAllUptoRow, standIns := [], harness := (true, "83ff20b3452dd0d4f12dbc6af628f9b91c5c289804ea384645151b762db552bf"), looks := false }, kinds := [], alts := [], laidByText := true, laidKinds := [.data], laidTests := true, laidLooks := .later }
def SlotAllUptoCardSaid : Prop := Claim7.holds Tryd.pinned (.plain (OpenSpec.upto slotAllSpec)) slotAllUptoCard

/-- THE SECOND FORM's CARD OF 'dustpanlaw5.SlotApart'. -/
def slotApartUptoCard : Claim7 := { stood := { row := slotApartUptoRow, standIns := [], harness := (true, "83ff20b3452dd0d4f12dbc6af628f9b91c5c289804ea384645151b762db552bf"), looks := false }, kinds := [], alts := [], laidByText := true, laidKinds := [.data], laidTests := true, laidLooks := .later }
def SlotApartUptoCardSaid : Prop := Claim7.holds Tryd.pinned (.plain (OpenSpec.upto slotApartSpec)) slotApartUptoCard

/-- THE SECOND FORM's CARD OF 'dustpanlaw29.LinAll'. -/
def linAllUptoCard : Claim7 := { stood := { row := linAllUptoRow, standIns := [], harness := (true, "83ff20b3452dd0d4f12dbc6af628f9b91c5c289804ea384645151b762db552bf"), looks := false }, kinds := [], alts := [], laidByText := true, laidKinds := [.data], laidTests := true, laidLooks := .later }
def LinAllUptoCardSaid : Prop := Claim7.holds Tryd.pinned (.plain (OpenSpec.upto linAllSpec)) linAllUptoCard

/-- THE SECOND FORM's CARD OF 'dustpanlaw29.LinRaw'. -/
def linRawUptoCard : Claim7 := { stood := { row := linRawUptoRow, standIns := [], harness := (true, "83ff20b3452dd0d4f12dbc6af628f9b91c5c289804ea384645151b762db552bf"), looks := false }, kinds := [], alts := [], laidByText := true, laidKinds := [.data], laidTests := true, laidLooks := .later }
def LinRawUptoCardSaid : Prop := Claim7.holds Tryd.pinned (.plain (OpenSpec.upto linRawSpec)) linRawUptoCard

/-- THE SECOND FORM's CARD OF 'dustpanlaw29.LinFirst'. -/
def linFirstUptoCard : Claim7 := { stood := { row := linFirstUptoRow, standIns := [], harness := (true, "83ff20b3452dd0d4f12dbc6af628f9b91c5c289804ea384645151b762db552bf"), looks := false }, kinds := [], alts := [], laidByText := true, laidKinds := [.data], laidTests := true, laidLooks := .later }
def LinFirstUptoCardSaid : Prop := Claim7.holds Tryd.pinned (.plain (OpenSpec.upto linFirstSpec)) linFirstUptoCard

/-- THE SECOND FORM's CARD OF 'dustpanlaw29.LinRow'. -/
def linRowUptoCard : Claim7 := { stood := { row := linRowUptoRow, standIns := [], harness := (true, "83ff20b3452dd0d4f12dbc6af628f9b91c5c289804ea384645151b762db552bf"), looks := false }, kinds := [], alts := [], laidByText := true, laidKinds := [.data], laidTests := true, laidLooks := .later }
def LinRowUptoCardSaid : Prop := Claim7.holds Tryd.pinned (.plain (OpenSpec.upto linRowSpec)) linRowUptoCard

/-- THE SECOND FORM's CARD OF 'dustpanlaw29.LinTimes'. -/
def linTimesUptoCard : Claim7 := { stood := { row := linTimesUptoRow, standIns := [], harness := (true, "83ff20b3452dd0d4f12dbc6af628f9b91c5c289804ea384645151b762db552bf"), looks := false }, kinds := [], alts := [], laidByText := true, laidKinds := [.data], laidTests := true, laidLooks := .later }
def LinTimesUptoCardSaid : Prop := Claim7.holds Tryd.pinned (.plain (OpenSpec.upto linTimesSpec)) linTimesUptoCard
end Rows
end Go.Proofs.YtomheapokfphiaaDoor
