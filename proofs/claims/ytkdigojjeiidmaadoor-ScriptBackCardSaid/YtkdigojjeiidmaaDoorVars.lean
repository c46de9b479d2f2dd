/-
  What the rows give of the listed variables: the errors, the library's bound, the table.
-/
import Derived.Test.YtkdigojjeiidmaaDoorLibs
import Derived.Test.YtkdigojjeiidmaaDoorFrame
import Derived.Stop.LaidErr
import Derived.Shelf.Vars
namespace Go.Proofs.YtkdigojjeiidmaaDoor
open Go Go.RowKit Go.ChangeShapes

abbrev laid7 : List (String × DataW Unit) := [("math/bits.deBruijn32tab", Rows.laid_math_bits_deBruijn32tab), ("math/bits.deBruijn64tab", Rows.laid_math_bits_deBruijn64tab), ("internal/strconv.uint64pow10", Rows.laid_internal_strconv_uint64pow10), ("unicode/utf8.acceptRanges", Rows.laid_unicode_utf8_acceptRanges), ("strconv.ErrRange", Rows.laid_strconv_ErrRange), ("strconv.ErrSyntax", Rows.laid_strconv_ErrSyntax), ("unicode/utf8.first", Rows.laid_unicode_utf8_first)]
theorem seven_plain : (laid7.all fun x => x.2.handleName?.isNone) = true := by kernel_rfl
theorem star_err : "*" ++ "errors.errorString" = "*errors.errorString" := by decide
theorem row_err (u : TypeId) (h : Tryd.prog.typeName? 3 u = some "*errors.errorString") : u = 115 :=
  typeName_ptr_named (nm := "errors.errorString") (by rw [star_err]; kernel_rfl) (by kernel_rfl) (by decide) u (by rw [star_err]; exact h)
theorem gSyn : Tryd.prog.globalNamed "strconv.ErrSyntax" = some 0 := by kernel_rfl
theorem gRan : Tryd.prog.globalNamed "strconv.ErrRange" = some 1 := by kernel_rfl
theorem gSynT : (Tryd.prog.globals[0]?).map (·.type) = some 72 := by kernel_rfl
theorem gRanT : (Tryd.prog.globals[1]?).map (·.type) = some 72 := by kernel_rfl
theorem vars_of {W : World} (hS : W.ShapedOpen Tryd.prog) (h : laidMetH Tryd.prog laid7 W) : Vars W := by
  have hp : Pow W := pow_of seven_plain (List.Mem.tail _ (List.Mem.tail _ (List.Mem.head _))) h
  rw [plain_met seven_plain] at h
  have h4 := h.tail.tail.tail.tail
  obtain ⟨a1, s1, hv1, _⟩ := laid_sentinel h4 gRan gRanT Tryd.underlying72 row_err Tryd.underlying115 Tryd.underlying117 rfl rfl Tryd.underlying9 (by kernel_rfl) (by kernel_rfl)
  obtain ⟨a0, s0, hv0, _⟩ := laid_sentinel h4.tail gSyn gSynT Tryd.underlying72 row_err Tryd.underlying115 Tryd.underlying117 rfl rfl Tryd.underlying9 (by kernel_rfl) (by kernel_rfl)
  have e0 : W.cell? ⟨0, 0, none⟩ = some (.iface 115 (.pointer (some a0))) := by simpa using World.var?_cell gSyn hv0 0
  have e1 : W.cell? ⟨1, 0, none⟩ = some (.iface 115 (.pointer (some a1))) := by simpa using World.var?_cell gRan hv1 0
  refine ⟨hp, ⟨_, _, e0⟩, ⟨_, _, e1⟩, ?_⟩
  exact cell_of_shapedOpen_int (P := Tryd.prog) (zero := #[.int .i64 0]) (t := 3) hS (of_decide_eq_true (by kernel_rfl)) (by kernel_rfl) rfl (by kernel_rfl) (by kernel_rfl) Tryd.underlying3
/-- A string within the bound. -/
theorem str_small {H : Type} {ds : List (DataW H)} (hk : Rows.uptoSmall H ds = true) {x : ByteArray} (hd : (.lit (.string x.data.toList) : DataW H) ∈ ds) : x.size ≤ 1048576 := by
  have h := bulk_of hk hd
  have e : Rows.uptoBulk (.lit (.string x.data.toList) : DataW H) = x.data.toList.length + 1 := rfl
  rw [e] at h
  have e2 : x.data.toList.length = x.size := rfl
  omega
end Go.Proofs.YtkdigojjeiidmaaDoor
