/-
  ScriptRead's walk.
-/
import Derived.Test.YtkdigojjeiidmaaDoorRefRead
import Derived.Test.YtkdigojjeiidmaaDoorAwake
namespace Go.Proofs.YtkdigojjeiidmaaDoor
open Go Go.RowKit Go.Shelf


set_option maxRecDepth 100000 in
set_option maxHeartbeats 4000000 in
theorem scriptRead_any (l : List UInt8) (hl : l.length ≤ 2097152) (w : World) (hv : Vars w) :
    Calls Tryd.prog 7 #[.string ⟨l.toArray⟩] w fun e w' => e = .returned (.bool true) ∧ Below w.heap.size w w' := by
  have HRd := Lib.hid (read_any l hl w hv)
  have Has := Lib.hid (read_as l)
  have HXok := Lib.hid (read_ok l hl)
  have HV := Lib.hid hv
  clear hv
  go_enter Tryd.func7, Tryd.ntmps7
  go_wp2_with fail
  refine HRd.out.mono ?_
  rintro e w1 ⟨⟨xv, rfl, hx⟩, hb1⟩
  obtain ⟨x, ex⟩ : ∃ x, (readM l).1 = x := ⟨_, rfl⟩
  obtain ⟨ok, eok⟩ : ∃ ok, (readM l).2 = ok := ⟨_, rfl⟩
  rw [ex] at hx HXok Has ⊢
  rw [eok] at Has ⊢
  clear ex eok HRd
  obtain ⟨xa, xc, rfl⟩ := intsAt_shape hx
  have hb2 := new_below (w := w1) (.cells #[.int .i64 x.kind, .int .i64 x.a, .slice xa x.L.length xc] 36)
  have hX2 := World.alloc_heap_new w1 (.cells #[.int .i64 x.kind, .int .i64 x.a, .slice xa x.L.length xc] 36)
  obtain ⟨W2, eW2⟩ : ∃ W2, w1.alloc (.cells #[.int .i64 x.kind, .int .i64 x.a, .slice xa x.L.length xc] 36) = W2 := ⟨_, rfl⟩
  have HX2 := Lib.hid (show W2.heap[w1.heap.size]? = some (.cells #[.int .i64 x.kind, .int .i64 x.a, .slice xa x.L.length xc] 36 (0, 0)) from by rw [← eW2]; exact hX2)
  have HI2 := Lib.hid (show IntsAt W2 _ x.L from by rw [← eW2]; exact hx.kept (CellsKept.of hb2))
  have HB2 := Lib.hid (show Below w.heap.size w W2 from by rw [← eW2]; exact below_more hb1 hb2)
  have HRf := Lib.hid (refread_any l hl W2)
  clear hb1 hb2 hx hX2
  simp only [callV]
  go_wp2_with fail
  try rw [eW2]
  clear eW2
  refine HRf.out.mono ?_
  rintro e w3 ⟨y, ok2, yv, rfl, hy, hyok, hyas, hb3⟩
  obtain ⟨rfl, rfl⟩ := reads_unique Has.out hyas HXok.out hyok
  clear hyok hyas HRf
  obtain ⟨ya, yc, rfl⟩ := intsAt_shape hy
  have hb4 := new_below (w := w3) (.cells #[.int .i64 x.kind, .int .i64 x.a, .slice ya x.L.length yc] 36)
  have hY4 := World.alloc_heap_new w3 (.cells #[.int .i64 x.kind, .int .i64 x.a, .slice ya x.L.length yc] 36)
  obtain ⟨W4, eW4⟩ : ∃ W4, w3.alloc (.cells #[.int .i64 x.kind, .int .i64 x.a, .slice ya x.L.length yc] 36) = W4 := ⟨_, rfl⟩
  have hb24 : Below W2.heap.size W2 W4 := by rw [← eW4]; exact below_more hb3 hb4
  have hX4 : W4.heap[w1.heap.size]? = some (.cells #[.int .i64 x.kind, .int .i64 x.a, .slice xa x.L.length xc] 36 (0, 0)) := (hb24.block _ (Array.getElem?_eq_some_iff.1 HX2.out).1).trans HX2.out
  have hY4 : W4.heap[w3.heap.size]? = some (.cells #[.int .i64 x.kind, .int .i64 x.a, .slice ya x.L.length yc] 36 (0, 0)) := by rw [← eW4]; exact hY4
  have HIx := Lib.hid (HI2.out.kept (CellsKept.of hb24))
  have HIy := Lib.hid (show IntsAt W4 _ x.L from by rw [← eW4]; exact hy.kept (CellsKept.of hb4))
  have HB4 := Lib.hid (below_more HB2.out hb24)
  have HS := Lib.hid (sameCall_any x x _ _ W4 HIx.out HIy.out HXok.out.2.1)
  rw [sameC_self] at HS
  have HA := Lib.hid (fun (w5 : World) (h : Below W4.heap.size W4 w5) => awake_any w5 (HV.out.below (below_more HB4.out h)).pow)
  have c0 := blk_cell hX4 0
  have c1 := blk_cell hX4 1
  have c2 := blk_cell hX4 2
  have d0 := blk_cell hY4 0
  have d1 := blk_cell hY4 1
  have d2 := blk_cell hY4 2
  simp at c0 c1 c2 d0 d1 d2
  unfold callV at HS
  clear hb24 hX4 hY4 hb3 hb4 hy HX2 HI2 HB2 HIx HIy Has HXok HV
  simp only [callV]
  obtain ⟨xk, xn, xL⟩ := x
  simp only at *
  generalize xL.length = n at *
  go_wp2_with fail
  try rw [eW4]
  refine HS.out.mono ?_
  rintro e w5 ⟨rfl, hb5⟩
  have HB5 := Lib.hid (below_more HB4.out hb5)
  have H12 := Lib.hid (HA.out w5 hb5)
  clear hb5 c0 c1 c2 d0 d1 d2
  go_wp2_with fail
  refine H12.out.mono ?_
  rintro e w6 ⟨rfl, hb6⟩
  have HB6 := Lib.hid (below_more HB5.out hb6)
  clear hb6
  go_wp2
  go_ret
  exact ⟨rfl, HB6.out⟩
theorem scriptRead_walk (x : ByteArray) (w : World) (hx : x.size ≤ 1048576) (hv : Vars w) :
    Calls Tryd.prog 7 #[.string x] w fun e w' => e = .returned (.bool true) ∧ Below w.heap.size w w' :=
  scriptRead_any x.data.toList (by have e : x.data.toList.length = x.size := rfl
                                   omega) w hv
end Go.Proofs.YtkdigojjeiidmaaDoor
