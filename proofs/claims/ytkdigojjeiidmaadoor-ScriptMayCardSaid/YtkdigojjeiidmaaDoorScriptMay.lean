/-
  ScriptMay's walk.
-/
import Derived.Test.YtkdigojjeiidmaaDoorRefText
import Derived.Test.YtkdigojjeiidmaaDoorRefRight
import Derived.Test.YtkdigojjeiidmaaDoorAwake
import Derived.Test.YtkdigojjeiidmaaDoorLater
import Derived.Test.YtkdigojjeiidmaaDoorArgs
namespace Go.Proofs.YtkdigojjeiidmaaDoor
open Go Go.RowKit Go.Shelf

set_option maxRecDepth 100000 in
set_option maxHeartbeats 4000000 in
theorem scriptMay_any (o : CallP) (lv : Value) (p t : Int) (da : Option Addr) (dn dc : Nat) (ls : List (List CallP)) (v : Value) (w : World) (hI : IntsAt w lv o.L) (ho : CallOk o) (h : ListsAt w v ls) (hl : ListsLen ls) (ht : Pow w) :
    Calls Tryd.prog 5 #[callV o lv, .agg #[.int .i64 p, .int .i64 t, .slice da dn dc], v] w fun e w' => e = .returned (.bool true) ∧ Below w.heap.size w w' := by
  obtain ⟨la, lc, rfl⟩ := intsAt_shape hI
  obtain ⟨ad, cap, rfl⟩ := h.shape
  obtain ⟨W0, eW⟩ : ∃ W0, (w.alloc (.cells #[.int .i64 o.kind, .int .i64 o.a, .slice la o.L.length lc] 36)).alloc (.cells #[.int .i64 p, .int .i64 t, .slice da dn dc] 25) = W0 := ⟨_, rfl⟩
  have hA0 : W0.heap[w.heap.size]? = some (.cells #[.int .i64 o.kind, .int .i64 o.a, .slice la o.L.length lc] 36 (0, 0)) := by rw [← eW]; exact (Below.heap_alloc _ _ _ (by simp)).trans (World.alloc_heap_new _ _)
  have hA1 : W0.heap[w.heap.size + 1]? = some (.cells #[.int .i64 p, .int .i64 t, .slice da dn dc] 25 (0, 0)) := by
    rw [← eW]
    have : (w.alloc (.cells #[.int .i64 o.kind, .int .i64 o.a, .slice la o.L.length lc] 36)).heap.size = w.heap.size + 1 := by simp
    rw [← this]
    exact World.alloc_heap_new _ _
  have hW0 : Below w.heap.size w W0 := by rw [← eW]; exact ((Below.refl _ w).alloc (Nat.le_refl _) _).alloc (by simp) _
  have kx : ∀ x : Later W0, CellsKept w x.to := fun x => CellsKept.of (hW0.trans (x.below.mono hW0.size))
  have H14 := Lib.hid (fun x : Later W0 => may_any o _ x.to (hI.kept (kx x)) ho.2.1)
  have H15 := Lib.hid (fun x : Later W0 => refmay_any o _ x.to (hI.kept (kx x)) ho.2.1)
  have H16 := Lib.hid (fun x : Later W0 => text_any o _ x.to (hI.kept (kx x)) ho.2.1 ho.1 ho.2.2 (ht.below (hW0.trans (x.below.mono hW0.size))))
  have H17 := Lib.hid (fun x : Later W0 => reftext_any o _ x.to (hI.kept (kx x)) ho.2.1 ho.1 ho.2.2 (ht.below (hW0.trans (x.below.mono hW0.size))))
  have H18 := Lib.hid (fun x : Later W0 => right_any p t (.slice da dn dc) ls _ x.to (h.kept (kx x)) hl)
  have H19 := Lib.hid (fun x : Later W0 => refright_any p t (.slice da dn dc) ls _ x.to (h.kept (kx x)) hl)
  have H12 := Lib.hid (fun x : Later W0 => awake_any x.to (ht.below (hW0.trans (x.below.mono hW0.size))))
  have L : ∀ (x : Later W0) (g : Nat) (cs : Array Value) (e : TypeId), W0.heap[g]? = some (.cells cs e (0, 0)) → ∀ j, x.to.cell? ⟨g, j, none⟩ = cs[j]? := fun x g cs e hg j => blk_cell ((x.below.block g (Array.getElem?_eq_some_iff.1 hg).1).trans hg) j
  have L0 : ∀ x : Later W0, x.to.cell? ⟨w.heap.size, 0, none⟩ = some (.int .i64 o.kind) := fun x => L x _ _ _ hA0 0
  have L1 : ∀ x : Later W0, x.to.cell? ⟨w.heap.size, 1, none⟩ = some (.int .i64 o.a) := fun x => L x _ _ _ hA0 1
  have L2 : ∀ x : Later W0, x.to.cell? ⟨w.heap.size, 2, none⟩ = some (.slice la o.L.length lc) := fun x => L x _ _ _ hA0 2
  have M0 : ∀ x : Later W0, x.to.cell? ⟨w.heap.size + 1, 0, none⟩ = some (.int .i64 p) := fun x => L x _ _ _ hA1 0
  have M1 : ∀ x : Later W0, x.to.cell? ⟨w.heap.size + 1, 1, none⟩ = some (.int .i64 t) := fun x => L x _ _ _ hA1 1
  have M2 : ∀ x : Later W0, x.to.cell? ⟨w.heap.size + 1, 2, none⟩ = some (.slice da dn dc) := fun x => L x _ _ _ hA1 2
  have HW0 := Lib.hid hW0
  have EW := Lib.hid eW
  unfold callV at *
  clear L hA0 hA1 hW0 kx hI h hl ht ho eW
  generalize mayM o = b at *
  generalize (⟨(textM o).toArray⟩ : ByteArray) = tx at *
  generalize rightM p t ls = r at *
  generalize ls.length = nl at *
  obtain ⟨k, a, L⟩ := o
  simp only at *
  generalize L.length = n at *
  go_enter Tryd.func5, Tryd.ntmps5
  go_upto_region 1 with (fail)
  try rw [EW.out]
  refine wp_region_later (by kernel_rfl) (by kernel_rfl) ?_
  repeat (first | go_big_quiet_skip | (go_big_quiet_want; go_big_quiet_op; first | go_big_quiet_on | (apply Exists.intro; refine ⟨fun _ => ?_, ?_⟩; (focus (first | (go_at_call 14; exact later_call (H14.out _)) | (go_at_call 15; exact later_call (H15.out _)) | (go_at_call 16; exact later_call (H16.out _)) | (go_at_call 17; exact later_call (H17.out _)) | (go_at_call 18; exact later_call (H18.out _)) | (go_at_call 19; exact later_call (H19.out _)) | (go_at_call 12; exact later_call (H12.out _)))); go_big_quiet_on)))
  refine wpQuiet_nil ?_
  rintro _ ⟨z, rfl⟩
  have HZ := Lib.hid (HW0.out.trans (z.below.mono HW0.out.size))
  go_wp2
  go_ret
  exact ⟨rfl, HZ.out⟩
theorem scriptMay_walk (o : CallP) (lv : Value) (p t : Int) (da : Option Addr) (dn dc : Nat) (ls : List (List CallP)) (v : Value) (w : World) (hI : IntsAt w lv o.L) (ho : CallOk o) (h : ListsAt w v ls) (hl : ListsLen ls) (ht : Pow w) :
    Calls Tryd.prog 5 #[.agg #[.int .i64 o.kind, .int .i64 o.a, lv], .agg #[.int .i64 p, .int .i64 t, .slice da dn dc], v] w fun e w' => e = .returned (.bool true) ∧ Below w.heap.size w w' := scriptMay_any o lv p t da dn dc ls v w hI ho h hl ht
end Go.Proofs.YtkdigojjeiidmaaDoor
