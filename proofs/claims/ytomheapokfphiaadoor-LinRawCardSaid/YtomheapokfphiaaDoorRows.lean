/-
  NARROWER THAN 'FOR EVERY INPUT', by the rows' own cells (each row's printed sentence says how): ClassFits: laid · ClassAll: laid · ClassRows: laid · ClassNone: laid · SlotBytes: laid · SlotBack: laid · SlotAll: laid · SlotApart: laid · LinAll: laid · LinRaw: laid · LinFirst: laid · LinRow: laid · LinTimes: laid.
  DERIVED. THE GIVEN ROWS OF THIS SEAT. 13 by the template 'for every input the law returns true; each argument reads behind the call as it read before'; 0 by the template 'total and deterministic' (their statements: YtomheapokfphiaaDoorTotals.lean).
  GIVEN WITH THE SEED: the statements are not yours to turn. If you find one false, say at which input.
  Laid BY PROGRAM, IN A SANDBOX (cutbox-rows.mjs): the forced cells as the released guide's own fill.sh prints them over the translation 09ac55e2bbbb0d30… (all of the seat's roots in one cut). By AI agents, Wed Nov 11 2026. No macro, syntax, notation, axiom, sorry.
-/
import Derived.Test.YtomheapokfphiaaDoorChecked
import GoSem.Claim
import GoSem.ClaimJoined
import GoSem.ClaimMapViews
import Derived.JoinedTies
import Derived.KernelRfl
namespace Go.Proofs.YtomheapokfphiaaDoor
/- THE CELL 'sum', in the pinned program and in every row, IS THE sha256 OF THE DUMP (.gsa) THAT YtomheapokfphiaaDoorProg.lean LOADS. Nothing in Lean hashes anything: it is a label: what it is worth is what the hold of that sum in a sandbox is worth. -/
noncomputable def Tryd.pinned : Pinned := { name := "ytomheapokfphiaadoor", sum := "09ac55e2bbbb0d30bd6b8e495591c0cb0263be275920c37a27a90b64ce45ef87", checked := Tryd.checked }
namespace Rows
def none {H : Type} : Left H := { results := [], args := [] }

/- WHAT THE LISTED PACKAGE-LEVEL VARIABLES READ AS WHEN THE CALL BEGINS. Each datum BY PROGRAM (the guide's laid-datum.mjs) off the statement by which the dump's own 'gosem.cut.vars' lays the variable. In a bare row this is a premise. The card (YtomheapokfphiaaDoorCards.lean) ties it to the program's text. -/
def laid_dustpan_class_table {H : Type} : DataW H := .agg [.agg [.lit (.int .i64 128), .lit (.int .i64 1)], .agg [.lit (.int .i64 192), .lit (.int .i64 1)], .agg [.lit (.int .i64 256), .lit (.int .i64 1)], .agg [.lit (.int .i64 384), .lit (.int .i64 1)], .agg [.lit (.int .i64 512), .lit (.int .i64 1)], .agg [.lit (.int .i64 768), .lit (.int .i64 1)], .agg [.lit (.int .i64 1024), .lit (.int .i64 1)], .agg [.lit (.int .i64 1536), .lit (.int .i64 3)], .agg [.lit (.int .i64 2048), .lit (.int .i64 1)], .agg [.lit (.int .i64 3072), .lit (.int .i64 3)], .agg [.lit (.int .i64 4096), .lit (.int .i64 1)], .agg [.lit (.int .i64 6144), .lit (.int .i64 3)], .agg [.lit (.int .i64 8192), .lit (.int .i64 2)], .agg [.lit (.int .i64 12288), .lit (.int .i64 3)]]

/-- 'dustpanlaw4.ClassFits': WHATEVER THE INPUT: true; the input reads as it did. -/
def classFitsSpec : ChangeSpec := { name := "classFits", fn := fun _ => fun
  | [d] => { results := [.lit (.bool true)], args := [d] }
  | _ => none }
def classFitsRow : OpenClaim := { program := "ytomheapokfphiaadoor", sum := "09ac55e2bbbb0d30bd6b8e495591c0cb0263be275920c37a27a90b64ce45ef87", func := "dustpan/dustpanlaw4.ClassFits", spec := "classFits", named := ["dustpan/class.table"], apart := false, laid := [("dustpan/class.table", laid_dustpan_class_table)] }
def ClassFitsSaid : Prop := classFitsRow.holds Tryd.pinned (OpenSpec.ofChange classFitsSpec)

/-- ITS FALSE NEIGHBOUR: 'it returns false'. Refute it at one input. -/
def classFitsWrong : ChangeSpec := { name := "classFits", fn := fun _ => fun
  | [d] => { results := [.lit (.bool false)], args := [d] }
  | _ => none }
def ClassFitsWrongFalsely : Prop := classFitsRow.holds Tryd.pinned (OpenSpec.ofChange classFitsWrong)

/-- 'dustpanlaw4.ClassAll': WHATEVER THE INPUT: true; the input reads as it did. -/
def classAllSpec : ChangeSpec := { name := "classAll", fn := fun _ => fun
  | [d1, d2] => { results := [.lit (.bool true)], args := [d1, d2] }
  | _ => none }
def classAllRow : OpenClaim := { program := "ytomheapokfphiaadoor", sum := "09ac55e2bbbb0d30bd6b8e495591c0cb0263be275920c37a27a90b64ce45ef87", func := "dustpan/dustpanlaw4.ClassAll", spec := "classAll", named := ["dustpan/class.table"], apart := false, laid := [("dustpan/class.table", laid_dustpan_class_table)] }
def ClassAllSaid : Prop := classAllRow.holds Tryd.pinned (OpenSpec.ofChange classAllSpec)

/-- ITS FALSE NEIGHBOUR: 'it returns false'. Refute it at one input. -/
def classAllWrong : ChangeSpec := { name := "classAll", fn := fun _ => fun
  | [d1, d2] => { results := [.lit (.bool false)], args := [d1, d2] }
  | _ => none }
def ClassAllWrongFalsely : Prop := classAllRow.holds Tryd.pinned (OpenSpec.ofChange classAllWrong)

/-- 'dustpanlaw4.ClassRows': WHATEVER THE INPUT: true; the input reads as it did. -/
def classRowsSpec : ChangeSpec := { name := "classRows", fn := fun _ => fun
  | [d] => { results := [.lit (.bool true)], args := [d] }
  | _ => none }
def classRowsRow : OpenClaim := { program := "ytomheapokfphiaadoor", sum := "09ac55e2bbbb0d30bd6b8e495591c0cb0263be275920c37a27a90b64ce45ef87", func := "dustpan/dustpanlaw4.ClassRows", spec := "classRows", named := ["dustpan/class.table"], apart := false, laid := [("dustpan/class.table", laid_dustpan_class_table)] }
def ClassRowsSaid : Prop := classRowsRow.holds Tryd.pinned (OpenSpec.ofChange classRowsSpec)

/-- ITS FALSE NEIGHBOUR: 'it returns false'. Refute it at one input. -/
def classRowsWrong : ChangeSpec := { name := "classRows", fn := fun _ => fun
  | [d] => { results := [.lit (.bool false)], args := [d] }
  | _ => none }
def ClassRowsWrongFalsely : Prop := classRowsRow.holds Tryd.pinned (OpenSpec.ofChange classRowsWrong)

/-- 'dustpanlaw4.ClassNone': WHATEVER THE INPUT: true; the input reads as it did. -/
def classNoneSpec : ChangeSpec := { name := "classNone", fn := fun _ => fun
  | [d] => { results := [.lit (.bool true)], args := [d] }
  | _ => none }
def classNoneRow : OpenClaim := { program := "ytomheapokfphiaadoor", sum := "09ac55e2bbbb0d30bd6b8e495591c0cb0263be275920c37a27a90b64ce45ef87", func := "dustpan/dustpanlaw4.ClassNone", spec := "classNone", named := ["dustpan/class.table"], apart := false, laid := [("dustpan/class.table", laid_dustpan_class_table)] }
def ClassNoneSaid : Prop := classNoneRow.holds Tryd.pinned (OpenSpec.ofChange classNoneSpec)

/-- ITS FALSE NEIGHBOUR: 'it returns false'. Refute it at one input. -/
def classNoneWrong : ChangeSpec := { name := "classNone", fn := fun _ => fun
  | [d] => { results := [.lit (.bool false)], args := [d] }
  | _ => none }
def ClassNoneWrongFalsely : Prop := classNoneRow.holds Tryd.pinned (OpenSpec.ofChange classNoneWrong)

/-- 'dustpanlaw5.SlotBytes': WHATEVER THE INPUT: true; the input reads as it did. -/
def slotBytesSpec : ChangeSpec := { name := "slotBytes", fn := fun _ => fun
  | [d1, d2, d3, d4] => { results := [.lit (.bool true)], args := [d1, d2, d3, d4] }
  | _ => none }
def slotBytesRow : OpenClaim := { program := "ytomheapokfphiaadoor", sum := "09ac55e2bbbb0d30bd6b8e495591c0cb0263be275920c37a27a90b64ce45ef87", func := "dustpan/dustpanlaw5.SlotBytes", spec := "slotBytes", named := ["dustpan/class.table"], apart := false, laid := [("dustpan/class.table", laid_dustpan_class_table)] }
def SlotBytesSaid : Prop := slotBytesRow.holds Tryd.pinned (OpenSpec.ofChange slotBytesSpec)

/-- ITS FALSE NEIGHBOUR: 'it returns false'. Refute it at one input. -/
def slotBytesWrong : ChangeSpec := { name := "slotBytes", fn := fun _ => fun
  | [d1, d2, d3, d4] => { results := [.lit (.bool false)], args := [d1, d2, d3, d4] }
  | _ => none }
def SlotBytesWrongFalsely : Prop := slotBytesRow.holds Tryd.pinned (OpenSpec.ofChange slotBytesWrong)

/-- 'dustpanlaw5.SlotBack': WHATEVER THE INPUT: true; the input reads as it did. -/
def slotBackSpec : ChangeSpec := { name := "slotBack", fn := fun _ => fun
  | [d1, d2, d3, d4] => { results := [.lit (.bool true)], args := [d1, d2, d3, d4] }
  | _ => none }
def slotBackRow : OpenClaim := { program := "ytomheapokfphiaadoor", sum := "09ac55e2bbbb0d30bd6b8e495591c0cb0263be275920c37a27a90b64ce45ef87", func := "dustpan/dustpanlaw5.SlotBack", spec := "slotBack", named := ["dustpan/class.table"], apart := false, laid := [("dustpan/class.table", laid_dustpan_class_table)] }
def SlotBackSaid : Prop := slotBackRow.holds Tryd.pinned (OpenSpec.ofChange slotBackSpec)

/-- ITS FALSE NEIGHBOUR: 'it returns false'. Refute it at one input. -/
def slotBackWrong : ChangeSpec := { name := "slotBack", fn := fun _ => fun
  | [d1, d2, d3, d4] => { results := [.lit (.bool false)], args := [d1, d2, d3, d4] }
  | _ => none }
def SlotBackWrongFalsely : Prop := slotBackRow.holds Tryd.pinned (OpenSpec.ofChange slotBackWrong)

/-- 'dustpanlaw5.SlotAll': WHATEVER THE INPUT: true; the input reads as it did. -/
def slotAllSpec : ChangeSpec := { name := "slotAll", fn := fun _ => fun
  | [d1, d2, d3, d4, d5, d6, d7] => { results := [.lit (.bool true)], args := [d1, d2, d3, d4, d5, d6, d7] }
  | _ => none }
def slotAllRow : OpenClaim := { program := "ytomheapokfphiaadoor", sum := "09ac55e2bbbb0d30bd6b8e495591c0cb0263be275920c37a27a90b64ce45ef87", func := "dustpan/dustpanlaw5.SlotAll", spec := "slotAll", named := ["dustpan/class.table"], apart := false, laid := [("dustpan/class.table", laid_dustpan_class_table)] }
def SlotAllSaid : Prop := slotAllRow.holds Tryd.pinned (OpenSpec.ofChange slotAllSpec)

/-- ITS FALSE NEIGHBOUR: 'it returns false'. Refute it at one input. -/
def slotAllWrong : ChangeSpec := { name := "slotAll", fn := fun _ => fun
  | [d1, d2, d3, d4, d5, d6, d7] => { results := [.lit (.bool false)], args := [d1, d2, d3, d4, d5, d6, d7] }
  | _ => none }
def SlotAllWrongFalsely : Prop := slotAllRow.holds Tryd.pinned (OpenSpec.ofChange slotAllWrong)

/-- 'dustpanlaw5.SlotApart': WHATEVER THE INPUT: true; the input reads as it did. -/
def slotApartSpec : ChangeSpec := { name := "slotApart", fn := fun _ => fun
  | [d1, d2, d3, d4] => { results := [.lit (.bool true)], args := [d1, d2, d3, d4] }
  | _ => none }
def slotApartRow : OpenClaim := { program := "ytomheapokfphiaadoor", sum := "09ac55e2bbbb0d30bd6b8e495591c0cb0263be275920c37a27a90b64ce45ef87", func := "dustpan/dustpanlaw5.SlotApart", spec := "slotApart", named := ["dustpan/class.table"], apart := false, laid := [("dustpan/class.table", laid_dustpan_class_table)] }
def SlotApartSaid : Prop := slotApartRow.holds Tryd.pinned (OpenSpec.ofChange slotApartSpec)

/-- ITS FALSE NEIGHBOUR: 'it returns false'. Refute it at one input. -/
def slotApartWrong : ChangeSpec := { name := "slotApart", fn := fun _ => fun
  | [d1, d2, d3, d4] => { results := [.lit (.bool false)], args := [d1, d2, d3, d4] }
  | _ => none }
def SlotApartWrongFalsely : Prop := slotApartRow.holds Tryd.pinned (OpenSpec.ofChange slotApartWrong)

/-- 'dustpanlaw29.LinAll': WHATEVER THE INPUT: true; the input reads as it did. -/
def linAllSpec : ChangeSpec := { name := "linAll", fn := fun _ => fun
  | [d1, d2, d3] => { results := [.lit (.bool true)], args := [d1, d2, d3] }
  | _ => none }
def linAllRow : OpenClaim := { program := "ytomheapokfphiaadoor", sum := "09ac55e2bbbb0d30bd6b8e495591c0cb0263be275920c37a27a90b64ce45ef87", func := "dustpan/dustpanlaw29.LinAll", spec := "linAll", unfollowed := true, recurses := true, named := ["dustpan/class.table"], apart := false, laid := [("dustpan/class.table", laid_dustpan_class_table)] }
def LinAllSaid : Prop := linAllRow.holds Tryd.pinned (OpenSpec.ofChange linAllSpec)

/-- ITS FALSE NEIGHBOUR: 'it returns false'. Refute it at one input. -/
def linAllWrong : ChangeSpec := { name := "linAll", fn := fun _ => fun
  | [d1, d2, d3] => { results := [.lit (.bool false)], args := [d1, d2, d3] }
  | _ => none }
def LinAllWrongFalsely : Prop := linAllRow.holds Tryd.pinned (OpenSpec.ofChange linAllWrong)

/-- 'dustpanlaw29.LinRaw': WHATEVER THE INPUT: true; the input reads as it did. -/
def linRawSpec : ChangeSpec := { name := "linRaw", fn := fun _ => fun
  | [d1, d2, d3] => { results := [.lit (.bool true)], args := [d1, d2, d3] }
  | _ => none }
def linRawRow : OpenClaim := { program := "ytomheapokfphiaadoor", sum := "09ac55e2bbbb0d30bd6b8e495591c0cb0263be275920c37a27a90b64ce45ef87", func := "dustpan/dustpanlaw29.LinRaw", spec := "linRaw", unfollowed := true, recurses := true, named := ["dustpan/class.table"], apart := false, laid := [("dustpan/class.table", laid_dustpan_class_table)] }
def LinRawSaid : Prop := linRawRow.holds Tryd.pinned (OpenSpec.ofChange linRawSpec)

/-- ITS FALSE NEIGHBOUR: 'it returns false'. Refute it at one input. -/
def linRawWrong : ChangeSpec := { name := "linRaw", fn := fun _ => fun
  | [d1, d2, d3] => { results := [.lit (.bool false)], args := [d1, d2, d3] }
  | _ => none }
def LinRawWrongFalsely : Prop := linRawRow.holds Tryd.pinned (OpenSpec.ofChange linRawWrong)

/-- 'dustpanlaw29.LinFirst': WHATEVER THE INPUT: true; the input reads as it did. -/
def linFirstSpec : ChangeSpec := { name := "linFirst", fn := fun _ => fun
  | [d1, d2, d3] => { results := [.lit (.bool true)], args := [d1, d2, d3] }
  | _ => none }
def linFirstRow : OpenClaim := { program := "ytomheapokfphiaadoor", sum := "09ac55e2bbbb0d30bd6b8e495591c0cb0263be275920c37a27a90b64ce45ef87", func := "dustpan/dustpanlaw29.LinFirst", spec := "linFirst", unfollowed := true, recurses := true, named := ["dustpan/class.table"], apart := false, laid := [("dustpan/class.table", laid_dustpan_class_table)] }
def LinFirstSaid : Prop := linFirstRow.holds Tryd.pinned (OpenSpec.ofChange linFirstSpec)

/-- ITS FALSE NEIGHBOUR: 'it returns false'. Refute it at one input. -/
def linFirstWrong : ChangeSpec := { name := "linFirst", fn := fun _ => fun
  | [d1, d2, d3] => { results := [.lit (.bool false)], args := [d1, d2, d3] }
  | _ => none }
def LinFirstWrongFalsely : Prop := linFirstRow.holds Tryd.pinned (OpenSpec.ofChange linFirstWrong)

/-- 'dustpanlaw29.LinRow': WHATEVER THE INPUT: true; the input reads as it did. -/
def linRowSpec : ChangeSpec := { name := "linRow", fn := fun _ => fun
  | [d1, d2] => { results := [.lit (.bool true)], args := [d1, d2] }
  | _ => none }
def linRowRow : OpenClaim := { program := "ytomheapokfphiaadoor", sum := "09ac55e2bbbb0d30bd6b8e495591c0cb0263be275920c37a27a90b64ce45ef87", func := "dustpan/dustpanlaw29.LinRow", spec := "linRow", unfollowed := true, recurses := true, named := ["dustpan/class.table"], apart := false, laid := [("dustpan/class.table", laid_dustpan_class_table)] }
def LinRowSaid : Prop := linRowRow.holds Tryd.pinned (OpenSpec.ofChange linRowSpec)

/-- ITS FALSE NEIGHBOUR: 'it returns false'. Refute it at one input. -/
def linRowWrong : ChangeSpec := { name := "linRow", fn := fun _ => fun
  | [d1, d2] => { results := [.lit (.bool false)], args := [d1, d2] }
  | _ => none }
def LinRowWrongFalsely : Prop := linRowRow.holds Tryd.pinned (OpenSpec.ofChange linRowWrong)

/-- 'dustpanlaw29.LinTimes': WHATEVER THE INPUT: true; the input reads as it did. -/
def linTimesSpec : ChangeSpec := { name := "linTimes", fn := fun _ => fun
  | [d1, d2, d3] => { results := [.lit (.bool true)], args := [d1, d2, d3] }
  | _ => none }
def linTimesRow : OpenClaim := { program := "ytomheapokfphiaadoor", sum := "09ac55e2bbbb0d30bd6b8e495591c0cb0263be275920c37a27a90b64ce45ef87", func := "dustpan/dustpanlaw29.LinTimes", spec := "linTimes", unfollowed := true, recurses := true, named := ["dustpan/class.table"], apart := false, laid := [("dustpan/class.table", laid_dustpan_class_table)] }
def LinTimesSaid : Prop := linTimesRow.holds Tryd.pinned (OpenSpec.ofChange linTimesSpec)

/-- ITS FALSE NEIGHBOUR: 'it returns false'. Refute it at one input. -/
def linTimesWrong : ChangeSpec := { name := "linTimes", fn := fun _ => fun
  | [d1, d2, d3] => { results := [.lit (.bool false)], args := [d1, d2, d3] }
  | _ => none }
def LinTimesWrongFalsely : Prop := linTimesRow.holds Tryd.pinned (OpenSpec.ofChange linTimesWrong)

/- THE SECOND FORM. 'bulk': how many values and letters a reading holds, each counted each time it is reached (what is shared counts as often as it is met; a slice's spare places count too). A statement '..UptoSaid' is the law's where the arguments, and the package variables that the reading takes, are together of bulk at most 1048576: NARROWER than '..Said'. Prove '..Said' where nothing that the law and all that it calls make is longer than what came in: it says more and counts as full. Else prove '..UptoSaid'. A law counts once. -/
mutual
def uptoBulk {H : Type} : DataW H → Nat
  | .lit (.string bytes) => bytes.length + 1
  | .lit _ => 1
  | .nil => 1
  | .ptr d => uptoBulk d + 1
  | .slice elems spare => uptoBulkAll elems + uptoBulkAll spare + 1
  | .agg parts => uptoBulkAll parts + 1
  | .iface _ d => uptoBulk d + 1
  | .map entries => uptoBulkEntries entries + 1
  | .held _ => 1
def uptoBulkAll {H : Type} : List (DataW H) → Nat
  | [] => 0
  | d :: r => uptoBulk d + uptoBulkAll r
def uptoBulkEntries {H : Type} : List (Lit × DataW H) → Nat
  | [] => 0
  | x :: r => uptoBulkEntry x + uptoBulkEntries r
def uptoBulkEntry {H : Type} : Lit × DataW H → Nat
  | (.string bytes, d) => bytes.length + uptoBulk d + 1
  | (_, d) => uptoBulk d + 1
 end
def uptoSmall : (H : Type) → List (DataW H) → Bool := fun _ ds => decide (uptoBulkAll ds ≤ 1048576)
def OpenSpec.upto (s : _root_.Go.ChangeSpec) : _root_.Go.OpenSpec := { _root_.Go.OpenSpec.ofChange s with cond := some uptoSmall }

/-- 'dustpanlaw4.ClassFits', WHERE WHAT IT READS IS OF BULK AT MOST 1048576: true; the input reads as it did. -/
def classFitsUptoRow : OpenClaim := { program := "ytomheapokfphiaadoor", sum := "09ac55e2bbbb0d30bd6b8e495591c0cb0263be275920c37a27a90b64ce45ef87", func := "dustpan/dustpanlaw4.ClassFits", spec := "classFits", named := ["dustpan/class.table"], apart := false, laid := [("dustpan/class.table", laid_dustpan_class_table)], narrowed := true }
def ClassFitsUptoSaid : Prop := classFitsUptoRow.holds Tryd.pinned (OpenSpec.upto classFitsSpec)

/-- 'dustpanlaw4.ClassAll', WHERE WHAT IT READS IS OF BULK AT MOST 1048576: true; the input reads as it did. -/
def classAllUptoRow : OpenClaim := { program := "ytomheapokfphiaadoor", sum := "09ac55e2bbbb0d30bd6b8e495591c0cb0263be275920c37a27a90b64ce45ef87", func := "dustpan/dustpanlaw4.ClassAll", spec := "classAll", named := ["dustpan/class.table"], apart := false, laid := [("dustpan/class.table", laid_dustpan_class_table)], narrowed := true }
def ClassAllUptoSaid : Prop := classAllUptoRow.holds Tryd.pinned (OpenSpec.upto classAllSpec)

/-- 'dustpanlaw4.ClassRows', WHERE WHAT IT READS IS OF BULK AT MOST 1048576: true; the input reads as it did. -/
def classRowsUptoRow : OpenClaim := { program := "ytomheapokfphiaadoor", sum := "09ac55e2bbbb0d30bd6b8e495591c0cb0263be275920c37a27a90b64ce45ef87", func := "dustpan/dustpanlaw4.ClassRows", spec := "classRows", named := ["dustpan/class.table"], apart := false, laid := [("dustpan/class.table", laid_dustpan_class_table)], narrowed := true }
def ClassRowsUptoSaid : Prop := classRowsUptoRow.holds Tryd.pinned (OpenSpec.upto classRowsSpec)

/-- 'dustpanlaw4.ClassNone', WHERE WHAT IT READS IS OF BULK AT MOST 1048576: true; the input reads as it did. -/
def classNoneUptoRow : OpenClaim := { program := "ytomheapokfphiaadoor", sum := "09ac55e2bbbb0d30bd6b8e495591c0cb0263be275920c37a27a90b64ce45ef87", func := "dustpan/dustpanlaw4.ClassNone", spec := "classNone", named := ["dustpan/class.table"], apart := false, laid := [("dustpan/class.table", laid_dustpan_class_table)], narrowed := true }
def ClassNoneUptoSaid : Prop := classNoneUptoRow.holds Tryd.pinned (OpenSpec.upto classNoneSpec)

/-- 'dustpanlaw5.SlotBytes', WHERE WHAT IT READS IS OF BULK AT MOST 1048576: true; the input reads as it did. -/
def slotBytesUptoRow : OpenClaim := { program := "ytomheapokfphiaadoor", sum := "09ac55e2bbbb0d30bd6b8e495591c0cb0263be275920c37a27a90b64ce45ef87", func := "dustpan/dustpanlaw5.SlotBytes", spec := "slotBytes", named := ["dustpan/class.table"], apart := false, laid := [("dustpan/class.table", laid_dustpan_class_table)], narrowed := true }
def SlotBytesUptoSaid : Prop := slotBytesUptoRow.holds Tryd.pinned (OpenSpec.upto slotBytesSpec)

/-- 'dustpanlaw5.SlotBack', WHERE WHAT IT READS IS OF BULK AT MOST 1048576: true; the input reads as it did. -/
def slotBackUptoRow : OpenClaim := { program := "ytomheapokfphiaadoor", sum := "09ac55e2bbbb0d30bd6b8e495591c0cb0263be275920c37a27a90b64ce45ef87", func := "dustpan/dustpanlaw5.SlotBack", spec := "slotBack", named := ["dustpan/class.table"], apart := false, laid := [("dustpan/class.table", laid_dustpan_class_table)], narrowed := true }
def SlotBackUptoSaid : Prop := slotBackUptoRow.holds Tryd.pinned (OpenSpec.upto slotBackSpec)

/-- 'dustpanlaw5.SlotAll', WHERE WHAT IT READS IS OF BULK AT MOST 1048576: true; the input reads as it did. -/
def slotAllUptoRow : OpenClaim := { program := "ytomheapokfphiaadoor", sum := "09ac55e2bbbb0d30bd6b8e495591c0cb0263be275920c37a27a90b64ce45ef87", func := "dustpan/dustpanlaw5.SlotAll", spec := "slotAll", named := ["dustpan/class.table"], apart := false, laid := [("dustpan/class.table", laid_dustpan_class_table)], narrowed := true }
def SlotAllUptoSaid : Prop := slotAllUptoRow.holds Tryd.pinned (OpenSpec.upto slotAllSpec)

/-- 'dustpanlaw5.SlotApart', WHERE WHAT IT READS IS OF BULK AT MOST 1048576: true; the input reads as it did. -/
def slotApartUptoRow : OpenClaim := { program := "ytomheapokfphiaadoor", sum := "09ac55e2bbbb0d30bd6b8e495591c0cb0263be275920c37a27a90b64ce45ef87", func := "dustpan/dustpanlaw5.SlotApart", spec := "slotApart", named := ["dustpan/class.table"], apart := false, laid := [("dustpan/class.table", laid_dustpan_class_table)], narrowed := true }
def SlotApartUptoSaid : Prop := slotApartUptoRow.holds Tryd.pinned (OpenSpec.upto slotApartSpec)

/-- 'dustpanlaw29.LinAll', WHERE WHAT IT READS IS OF BULK AT MOST 1048576: true; the input reads as it did. -/
def linAllUptoRow : OpenClaim := { program := "ytomheapokfphiaadoor", sum := "09ac55e2bbbb0d30bd6b8e495591c0cb0263be275920c37a27a90b64ce45ef87", func := "dustpan/dustpanlaw29.LinAll", spec := "linAll", unfollowed := true, recurses := true, named := ["dustpan/class.table"], apart := false, laid := [("dustpan/class.table", laid_dustpan_class_table)], narrowed := true }
def LinAllUptoSaid : Prop := linAllUptoRow.holds Tryd.pinned (OpenSpec.upto linAllSpec)

/-- 'dustpanlaw29.LinRaw', WHERE WHAT IT READS IS OF BULK AT MOST 1048576: true; the input reads as it did. -/
def linRawUptoRow : OpenClaim := { program := "ytomheapokfphiaadoor", sum := "09ac55e2bbbb0d30bd6b8e495591c0cb0263be275920c37a27a90b64ce45ef87", func := "dustpan/dustpanlaw29.LinRaw", spec := "linRaw", unfollowed := true, recurses := true, named := ["dustpan/class.table"], apart := false, laid := [("dustpan/class.table", laid_dustpan_class_table)], narrowed := true }
def LinRawUptoSaid : Prop := linRawUptoRow.holds Tryd.pinned (OpenSpec.upto linRawSpec)

/-- 'dustpanlaw29.LinFirst', WHERE WHAT IT READS IS OF BULK AT MOST 1048576: true; the input reads as it did. -/
def linFirstUptoRow : OpenClaim := { program := "ytomheapokfphiaadoor", sum := "09ac55e2bbbb0d30bd6b8e495591c0cb0263be275920c37a27a90b64ce45ef87", func := "dustpan/dustpanlaw29.LinFirst", spec := "linFirst", unfollowed := true, recurses := true, named := ["dustpan/class.table"], apart := false, laid := [("dustpan/class.table", laid_dustpan_class_table)], narrowed := true }
def LinFirstUptoSaid : Prop := linFirstUptoRow.holds Tryd.pinned (OpenSpec.upto linFirstSpec)

/-- 'dustpanlaw29.LinRow', WHERE WHAT IT READS IS OF BULK AT MOST 1048576: true; the input reads as it did. -/
def linRowUptoRow : OpenClaim := { program := "ytomheapokfphiaadoor", sum := "09ac55e2bbbb0d30bd6b8e495591c0cb0263be275920c37a27a90b64ce45ef87", func := "dustpan/dustpanlaw29.LinRow", spec := "linRow", unfollowed := true, recurses := true, named := ["dustpan/class.table"], apart := false, laid := [("dustpan/class.table", laid_dustpan_class_table)], narrowed := true }
def LinRowUptoSaid : Prop := linRowUptoRow.holds Tryd.pinned (OpenSpec.upto linRowSpec)

/-- 'dustpanlaw29.LinTimes', WHERE WHAT IT READS IS OF BULK AT MOST 1048576: true; the input reads as it did. -/
def linTimesUptoRow : OpenClaim := { program := "ytomheapokfphiaadoor", sum := "09ac55e2bbbb0d30bd6b8e495591c0cb0263be275920c37a27a90b64ce45ef87", func := "dustpan/dustpanlaw29.LinTimes", spec := "linTimes", unfollowed := true, recurses := true, named := ["dustpan/class.table"], apart := false, laid := [("dustpan/class.table", laid_dustpan_class_table)], narrowed := true }
def LinTimesUptoSaid : Prop := linTimesUptoRow.holds Tryd.pinned (OpenSpec.upto linTimesSpec)

end Rows
end Go.Proofs.YtomheapokfphiaaDoor
