/-
  The contract of awake.
-/
import Derived.Test.YtkdigojjeiidmaaDoorText
import Derived.Test.YtkdigojjeiidmaaDoorDecode
namespace Go.Proofs.YtkdigojjeiidmaaDoor
open Go Go.RowKit Go.Shelf

theorem bytesAt_nil (w : World) : BytesAt w none [] := ⟨Nat.zero_le _, fun _ h => by simp at h, .inl rfl⟩
theorem decode_nil : decodeM [] = ⟨1, 1, [0, 0, 0, 0, 0, 0, 0, 0], [[]], []⟩ := by kernel_rfl
theorem text_drop : textM ⟨4, 1, [0, 12]⟩ = [100, 114, 111, 112, 32, 48, 32, 49, 50] := by decide +kernel

set_option maxRecDepth 8000 in
set_option maxHeartbeats 1600000 in
theorem awake_any (w : World) (ht : Pow w) : Calls Tryd.prog 12 #[] w fun e w' => e = .returned (.bool true) ∧ Below w.heap.size w w' := by
  have hD := Lib.hid (decode_any none 0 [] w (bytesAt_nil w) (Nat.le_refl _) (by decide))
  have HT := Lib.hid ht
  clear ht
  go_enter Tryd.func12, Tryd.ntmps12
  go_wp2_with fail
  refine hD.out.mono ?_
  rintro e w1 ⟨⟨v, rfl, dv, cv, pv, rfl, hd, hc, hp⟩, hb⟩
  rw [decode_nil] at hd hc hp ⊢
  simp only at hd hc hp ⊢
  obtain ⟨da, dc, rfl⟩ : ∃ ad cap, dv = .slice ad 8 cap := own_slice hd
  obtain ⟨ca, cc, rfl⟩ : ∃ ad cap, cv = .slice ad 1 cap := hc.slice
  obtain ⟨pa, pc, rfl⟩ : ∃ ad cap, pv = .slice ad 0 cap := own_slice hp
  have HT1 := Lib.hid (HT.out.below hb)
  have HB := Lib.hid hb
  clear hd hc hp hb
  go_wp2_with fail
  obtain ⟨W2, hW2⟩ : ∃ W2, (w1.alloc (.cells #[.int .i64 1, .int .i64 1, .slice da 8 dc, .slice ca 1 cc, .slice pa 0 pc] 29)) = W2 := ⟨_, rfl⟩
  have hs : W2.heap.size = w1.heap.size + 1 := by rw [← hW2]; simp
  have hA := World.alloc_heap_new w1 (.cells #[.int .i64 1, .int .i64 1, .slice da 8 dc, .slice ca 1 cc, .slice pa 0 pc] 29)
  have hb2 := new_below (w := w1) (.cells #[.int .i64 1, .int .i64 1, .slice da 8 dc, .slice ca 1 cc, .slice pa 0 pc] 29)
  rw [hW2] at hA hb2 ⊢
  have hb3 := new_below (w := W2) (.cells #[.int .i64 0, .int .i64 12] 3)
  have hI : IntsAt (W2.alloc (.cells #[.int .i64 0, .int .i64 12] 3)) (.slice (some ⟨w1.heap.size + 1, 0, none⟩) 2 2) [0, 12] :=
    ints_of_owns (base := 0) (n := 2) ⟨rfl, .inr ⟨_, 2, #[.int .i64 0, .int .i64 12], rfl, Nat.zero_le _, by rw [← hs]; exact World.alloc_heap_new _ _, Nat.le_refl _, by decide, rfl, rfl⟩⟩
  have HP := (HT1.out.below hb2).below hb3
  have hC := text_any ⟨4, 1, [0, 12]⟩ _ _ hI (by decide) (by unfold i64ok; exact ⟨by decide, by decide⟩) (by intro n hn; simp at hn; unfold i64ok; rcases hn with rfl | rfl <;> omega) HP
  rw [text_drop] at hC
  unfold callV at hC
  refine hC.mono ?_
  rintro e w3 ⟨rfl, hb4⟩
  have hA3 := (hb4.block w1.heap.size (by simp [hs]; omega)).trans ((hb3.block w1.heap.size (by omega)).trans hA)
  have c0 := blk_cell hA3 0
  have c1 := blk_cell hA3 1
  have c2 := blk_cell hA3 2
  have c3 := blk_cell hA3 3
  simp at c0 c1 c2 c3
  have HB3 := Lib.hid (below_more HB.out (below_more hb2 (below_more hb3 hb4)))
  clear hA hA3 hb2 hb3 hb4 hC hI HP
  go_wp2
  go_ret
  exact ⟨rfl, HB3.out⟩
end Go.Proofs.YtkdigojjeiidmaaDoor
