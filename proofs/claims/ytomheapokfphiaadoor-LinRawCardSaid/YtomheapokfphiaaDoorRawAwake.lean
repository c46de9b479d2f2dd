/-
  The contract of the law's example.
-/
import Derived.Test.YtomheapokfphiaaDoorRawFits
import Derived.Test.YtomheapokfphiaaDoorRawSame
namespace Go.Proofs.YtomheapokfphiaaDoor
open Go Go.RowKit Go.Shelf

def awakeL : List OpP := [⟨1, 8192, 0, 0, [], 0, 0⟩, ⟨2, 0, 0, 0, [], 1, 1⟩, ⟨1, 8192, 0, 0, [], 2, 2⟩]
theorem awakeL_order : orderM 2 awakeL = some [0, 1, 2] := by decide
theorem awakeL_fits : fitsM 2 awakeL [1, 0, 2] = false := by decide
instance (x : Int) : Decidable (in64 x) := inferInstanceAs (Decidable (_ ∧ _))
theorem awakeL_fit : ∀ i, i < awakeL.length → (opAt awakeL i).fits ∧ 0 ≤ 0 := by
  intro i hi
  match i, hi with
  | 0, _ => exact ⟨⟨by decide, by decide, by decide, by decide, fun a ha => (by cases ha), by decide, by decide⟩, by decide⟩
  | 1, _ => exact ⟨⟨by decide, by decide, by decide, by decide, fun a ha => (by cases ha), by decide, by decide⟩, by decide⟩
  | 2, _ => exact ⟨⟨by decide, by decide, by decide, by decide, fun a ha => (by cases ha), by decide, by decide⟩, by decide⟩
def awakeO : Obj := .cells #[.int .i64 1, .int .i64 8192, .int .i64 0, .int .i64 0, .slice none 0 0, .int .i64 0, .int .i64 0, .int .i64 2, .int .i64 0, .int .i64 0, .int .i64 0, .slice none 0 0, .int .i64 1, .int .i64 1, .int .i64 1, .int .i64 8192, .int .i64 0, .int .i64 0, .slice none 0 0, .int .i64 2, .int .i64 2] 50
theorem awakeL_ops (w : World) : OpsAt (w.alloc awakeO) (.slice (some ⟨w.heap.size, 0, none⟩) 3 3) awakeL := by
  have h := World.alloc_heap_new w awakeO
  refine ⟨_, 3, rfl, .inr ⟨w.heap.size, 0, rfl, by simp, fun j o ho => ?_⟩⟩
  match j, ho with
  | 0, ho => obtain rfl := Option.some.inj ho; exact ⟨.slice none 0 0, intsAt_nil _, blk_cell h 0, blk_cell h 1, blk_cell h 2, blk_cell h 3, blk_cell h 4, blk_cell h 5, blk_cell h 6⟩
  | 1, ho => obtain rfl := Option.some.inj ho; exact ⟨.slice none 0 0, intsAt_nil _, blk_cell h 7, blk_cell h 8, blk_cell h 9, blk_cell h 10, blk_cell h 11, blk_cell h 12, blk_cell h 13⟩
  | 2, ho => obtain rfl := Option.some.inj ho; exact ⟨.slice none 0 0, intsAt_nil _, blk_cell h 14, blk_cell h 15, blk_cell h 16, blk_cell h 17, blk_cell h 18, blk_cell h 19, blk_cell h 20⟩
theorem three_ints (w : World) (x y z : Int) : IntsAt (w.alloc (.cells #[.int .i64 x, .int .i64 y, .int .i64 z] 3)) (.slice (some ⟨w.heap.size, 0, none⟩) 3 3) [x, y, z] := by
  have h := World.alloc_heap_new w (.cells #[.int .i64 x, .int .i64 y, .int .i64 z] 3)
  refine ⟨_, 3, rfl, .inr ⟨w.heap.size, 0, rfl, by simp, fun j n hn => ?_, by simp⟩⟩
  match j, hn with
  | 0, hn => obtain rfl := Option.some.inj hn; exact blk_cell h 0
  | 1, hn => obtain rfl := Option.some.inj hn; exact blk_cell h 1
  | 2, hn => obtain rfl := Option.some.inj hn; exact blk_cell h 2

set_option maxHeartbeats 1600000 in
theorem awake_any (w : World) (hT : Tab w) : Calls Tryd.prog 42 #[] w fun e w' => e = .returned (.bool true) ∧ Below w.heap.size w w' := by
  have H1 := order_any 2 awakeL (by decide) awakeL_fit _ _ (awakeL_ops w) (hT.below (new_below _))
  rw [awakeL_order] at H1
  unfold awakeO at H1
  have H1 := Lib.hid H1
  have HL := Lib.hid (awakeL_ops w)
  unfold awakeO at HL
  have HN := Lib.hid (new_below (w := w) awakeO)
  unfold awakeO at HN
  go_enter Tryd.func42, Tryd.ntmps42
  go_wp2_with fail
  refine H1.out.mono ?_
  rintro e w1 ⟨⟨u, rfl, hu⟩, hb1⟩
  have hs1 := hb1.size
  have hn1 : Below w.heap.size w w1 := HN.out.trans (hb1.mono (by simp))
  have H2 := Lib.hid (sameInts_any [0, 1, 2] [0, 1, 2] (by decide) u _ _ (hu.kept (CellsKept.of (new_below (.cells #[.int .i64 0, .int .i64 1, .int .i64 2] 3)))) (three_ints w1 0 1 2))
  have HL1 := Lib.hid (HL.out.kept (CellsKept.of hb1))
  have HN1 := Lib.hid hn1
  clear hu hb1 hn1
  go_wp2_with fail
  refine H2.out.mono ?_
  rintro e w2 ⟨rfl, hb2⟩
  have hn2 : Below w.heap.size w w2 := (HN1.out.alloc HN1.out.size _).trans (hb2.mono (by have := HN1.out.size; simp; omega))
  have hk2 : Below w1.heap.size w1 w2 := (new_below _).trans (hb2.mono (by simp))
  have hn3 : Below w.heap.size w (w2.alloc (.cells #[.int .i64 1, .int .i64 0, .int .i64 2] 3)) := hn2.alloc hn2.size _
  have H3 := fits_any 2 awakeL (by decide) awakeL_fit [1, 0, 2] (by decide) _ _ _ ((HL1.out.kept (CellsKept.of hk2)).kept (CellsKept.of (new_below (.cells #[.int .i64 1, .int .i64 0, .int .i64 2] 3)))) (three_ints w2 1 0 2) (hT.below hn3)
  rw [awakeL_fits] at H3
  have H3 := Lib.hid H3
  have HN3 := Lib.hid hn3
  clear hb2 hn2 hk2 hn3
  go_wp2_with fail
  refine H3.out.mono ?_
  rintro e w3 ⟨rfl, hb3⟩
  have HB3 := Lib.hid hb3
  clear hb3
  go_wp2
  go_ret
  exact ⟨rfl, HN3.out.trans (HB3.out.mono HN3.out.size)⟩
end Go.Proofs.YtomheapokfphiaaDoor
