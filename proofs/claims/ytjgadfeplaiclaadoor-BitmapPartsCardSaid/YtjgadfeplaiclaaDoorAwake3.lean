/-
  The document's examples of layer 3.
-/
import Derived.Test.YtjgadfeplaiclaaDoorSame
namespace Go.Proofs.YtjgadfeplaiclaaDoor
open Go Go.RowKit Go.Shelf

theorem parts_63 : wordsL 63 (63 + 2) = [(0, 9223372036854775808), (1, 1)] := by decide
theorem partsN_63 : wordsN 63 (63 + 2) = 2 := by decide
theorem runs_5 : runsAt [5] (heldN [5] 4) 0 = [(1, 1), (3, 1)] := by decide
theorem cells_new (w : World) (cs : Array Value) (t : TypeId) (n cap : Nat) : CellsAt (w.alloc (.cells cs t)) (.slice (some ⟨w.heap.size, 0, none⟩) n cap) n cs.toList := by
  refine ⟨_, _, rfl, .inr ⟨_, rfl, by simp, fun j u hu => ?_⟩⟩
  have hu2 : cs[j]? = some u := by simpa using hu
  simp [hu2]
theorem words_new (w : World) (x : Nat) (t : TypeId) (cap : Nat) : WordsAt (w.alloc (.cells #[.int .u64 x] t)) (.slice (some ⟨w.heap.size, 0, none⟩) 1 cap) [x] := by
  refine ⟨_, _, rfl, .inr ⟨_, rfl, by simp, fun j u hu => ?_⟩⟩
  match j, hu with
  | 0, hu => simp at hu; subst hu; simp

set_option maxHeartbeats 1600000 in
theorem awake3 (w : World) (hT : TabB w) (hp : 0 < w.heap.size) : Calls Tryd.prog 26 #[] w fun e w' => e = .returned (.bool true) ∧ Below w.heap.size w w' := by
  have hparts := Lib.hid (parts_yes 63 2 (by decide) (by decide) (by decide) w)
  rw [parts_63, partsN_63] at hparts
  go_enter Tryd.func26, Tryd.ntmps26
  go_wp2_with fail
  refine hparts.out.mono ?_
  rintro e w1 ⟨⟨v, rfl, ho⟩, hb1⟩
  have hc := cells_of_owns ho
  have Hc := Lib.hid hc
  have Hb1 := Lib.hid hb1
  clear ho hc hb1
  go_wp2_with fail
  have hb2 := (Below.refl w1.heap.size w1).alloc (Nat.le_refl _) (.cells #[.int .i64 0, .int .u64 9223372036854775808, .int .i64 1, .int .u64 1] 42)
  refine (sameParts_any [(0, 9223372036854775808), (1, 1)] (by decide) _ _ _ (Hc.out.kept hb2) (cells_new w1 _ 42 2 2)).mono ?_
  rintro e w2 ⟨rfl, hb3⟩
  have Hb3 := Lib.hid ((Hb1.out.trans (hb2.mono Hb1.out.size)).trans (hb3.mono (Nat.le_trans Hb1.out.size hb2.size)))
  clear hb2 hb3
  go_wp2_with fail
  have hb4 := Hb3.out.alloc Hb3.out.size (.cells #[.int .u64 5] 22)
  refine (runs_any [5] (fun x h => by simp at h; omega) (by decide) _ 4 (by decide) (by decide) _ (words_new w2 5 22 1) (hT.kept (hb4.block 0 hp)) (by simp)).mono ?_
  rw [runs_5]
  rintro e w3 ⟨⟨u, rfl, ho⟩, hb5⟩
  have hc := cells_of_owns ho
  have Hc2 := Lib.hid hc
  have Hb5 := Lib.hid (hb4.trans (hb5.mono (by simp; have := Hb3.out.size; omega)))
  clear ho hc hb5 hb4
  go_wp2_with fail
  have hb6 := (Below.refl w3.heap.size w3).alloc (Nat.le_refl _) (.cells #[.int .i64 1, .int .i64 1, .int .i64 3, .int .i64 1] 57)
  refine (sameRuns_any [(1, 1), (3, 1)] (by decide) _ _ _ (Hc2.out.kept hb6) (cells_new w3 _ 57 2 2)).mono ?_
  rintro e w4 ⟨rfl, hb7⟩
  have Hb7 := Lib.hid ((Hb5.out.trans (hb6.mono Hb5.out.size)).trans (hb7.mono (Nat.le_trans Hb5.out.size hb6.size)))
  clear hb6 hb7
  go_wp2
  go_ret
  exact ⟨rfl, Hb7.out⟩
end Go.Proofs.YtjgadfeplaiclaaDoor
