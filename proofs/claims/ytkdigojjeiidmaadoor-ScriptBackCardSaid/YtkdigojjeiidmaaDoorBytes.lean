/-
  A slice of bytes that came in, as a list, and its bound.
-/
import Derived.Test.YtkdigojjeiidmaaDoorFrame
namespace Go.Proofs.YtkdigojjeiidmaaDoor
open Go Go.RowKit Go.Shelf Go.ChangeShapes Go.WideShapes Go.ChangeAt

theorem bytes_nil (W : World) (a : Option Addr) : BytesAt W a [] := ⟨by decide, (fun n hn => by cases hn), .inl rfl⟩
theorem bytes_of {W : World} {x : Addr} {l c : Nat} {zs : List Int} (hl : l ≤ c) (hm : c ≤ maxLen) (hz : zs.length = c) (hcell : ∀ i, i < zs.length → W.cell? (x.add i) = some (.int .u8 (zs.getD i 0))) (hwz : ∀ n ∈ zs, 0 ≤ n ∧ n ≤ 255) :
    ∃ ns : List Nat, BytesAt W (some x) ns ∧ ns.length = l := by
  rcases Nat.eq_zero_or_pos l with rfl | hpos
  · exact ⟨[], bytes_nil _ _, rfl⟩
  have hlen : ((zs.take l).map Int.toNat).length = l := by simp; omega
  refine ⟨(zs.take l).map Int.toNat, ⟨by rw [hlen]; omega, fun n hn => ?_, .inr ?_⟩, hlen⟩
  · obtain ⟨z, hz', rfl⟩ := List.mem_map.1 hn
    have := hwz z (List.mem_of_mem_take hz')
    omega
  · have h0 := hcell 0 (by omega)
    obtain ⟨xb, xo, xs⟩ := x
    have hs : xs = none := by
      cases xs with
      | none => rfl
      | some s =>
        unfold Addr.add World.cell? at h0
        simp at h0
        split at h0 <;> simp at h0
    subst hs
    refine ⟨xb, xo, rfl, ?_, fun j n hj => ?_⟩
    · have : (⟨xb, xo, none⟩ : Addr).add 0 = ⟨xb, xo, none⟩ := rfl
      rw [this] at h0
      rcases Nat.lt_or_ge xb W.heap.size with h | h
      · exact h
      · simp [World.cell?, Array.getElem?_eq_none h] at h0
    · have hjl := (List.getElem?_eq_some_iff.1 hj).1
      rw [hlen] at hjl
      have := hcell j (by omega)
      have e : (⟨xb, xo, none⟩ : Addr).add j = ⟨xb, xo + j, none⟩ := by
        unfold Addr.add
        split
        · simp [*]
        · rfl
      rw [e] at this
      rw [this]
      rw [List.getElem?_map, List.getElem?_take_of_lt hjl, List.getElem?_eq_getElem (by omega)] at hj
      simp at hj
      subst hj
      have hb := hwz zs[j] (List.getElem_mem (by omega))
      rw [List.getD_eq_getElem?_getD, List.getElem?_eq_getElem (by omega), Option.getD_some, Int.toNat_of_nonneg hb.1]

/-- The three tables that the short rows list. -/
abbrev laid3 : List (String × DataW Unit) := [("math/bits.deBruijn32tab", Rows.laid_math_bits_deBruijn32tab), ("math/bits.deBruijn64tab", Rows.laid_math_bits_deBruijn64tab), ("internal/strconv.uint64pow10", Rows.laid_internal_strconv_uint64pow10)]
theorem three_plain : (laid3.all fun x => x.2.handleName?.isNone) = true := by kernel_rfl
theorem pow_of3 {W : World} (h : laidMetH Tryd.prog laid3 W) : Pow W := pow_of three_plain (List.Mem.tail _ (List.Mem.tail _ (List.Mem.head _))) h
/-- A slice of bytes that is an argument. -/
def BytesArg (W : World) (a : Option Addr) (l c : Nat) (ns : List Nat) : Prop := BytesAt W a ns ∧ ns.length = l ∧ l ≤ c ∧ l ≤ 1048576
theorem open_bytes {H : Type} {enc : TypeId × Value → H} {W : World} {a : Option Addr} {l c fuel : Nat} {d : DataW H} {p : List MemPlace} (h : DataW.trod enc Tryd.prog W 0 (fun _ => true) true fuel 22 (Value.slice a l c).cells.toList = some (d, p)) (hk : Rows.uptoBulk d ≤ 1048576) :
    ∃ ns : List Nat, BytesArg W a l c ns := by
  rcases open_ints Tryd.underlying22 Tryd.underlying5 (by kernel_rfl) h with ⟨hcs, _⟩ | ⟨x, l', c', zs, hcs, _, hl, hm, hz, hd, hcell, hwz⟩
  · simp [Value.cells] at hcs
    obtain ⟨rfl, rfl, rfl⟩ := hcs
    exact ⟨[], bytes_nil _ _, rfl, by omega, by omega⟩
  · simp [Value.cells] at hcs
    obtain ⟨rfl, rfl, rfl⟩ := hcs
    obtain ⟨ns, hb, hn⟩ := bytes_of hl hm (by simpa using hz) hcell (fun n hn => bounds_u8 (hwz n hn))
    refine ⟨ns, hb, hn, hl, ?_⟩
    injection hd with hd1
    subst hd1
    have := bulk_slice (H := H) (lits .u8 (zs.take l)) (lits .u8 (zs.drop l))
    have hll : (lits (H := H) .u8 (zs.take l)).length = l := by
      simp only [if_true] at hz
      simp [lits, hz]; omega
    omega
end Go.Proofs.YtkdigojjeiidmaaDoor
