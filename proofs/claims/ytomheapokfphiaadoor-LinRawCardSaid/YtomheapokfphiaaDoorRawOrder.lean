/-
  The contracts of lin.orders and lin.Order.
-/
import Derived.Test.YtomheapokfphiaaDoorRawOn
import Derived.Test.YtomheapokfphiaaDoorRawRange
import Derived.RangeFuncBox
namespace Go.Proofs.YtomheapokfphiaaDoor
open Go Go.RowKit Go.Shelf
attribute [local go_sem] Oper.semAt_some

theorem miss_nil : ∀ n, miss [] n ≤ n := miss_le []

/-- The iterator hands out each order that is tried. -/
theorem orders_gives (pages : Int) (hp0 : 1 ≤ pages) (hp1 : pages ≤ 4096) (l : List OpP) (hlen : l.length ≤ 500) (hfit : ∀ i, i < l.length → (opAt l i).fits ∧ 0 ≤ 0) (lv : Value) (w : World) (hl : OpsAt w lv l) (hT : Tab w)
    (B C : Nat) (hB : w.cell? ⟨B, 0, none⟩ = some lv) (h0 : w.cell? ⟨C, 0, none⟩ = some (.int .i64 pages)) (h1 : w.cell? ⟨C, 1, none⟩ = some (.slice none 0 0)) (h2 : w.cell? ⟨C, 2, none⟩ = some (.slice none 0 0)) :
    Gives2 Tryd.prog 59 #[.pointer (some ⟨B, 0, none⟩), .pointer (some ⟨C, 0, none⟩)] (fun o W u => IntsAt W u o) (dfsM pages l l.length [] []) w := by
  intro L J Jx W hW hJ hY hJ0
  have hon := Lib.hid (on_any pages hp0 hp1 l hlen hfit lv L w hl hT J Jx hJ (dfsM pages l l.length [] []) hY l.length hlen [] [] (.agg #[.int .i64 pages, .slice none 0 0, .slice none 0 0]) (.slice none 0 0) W 0 (miss_nil _) (by simp; omega) (by simp; omega) (fun j x hx => by rw [Nat.zero_add]; exact hx) hW
    ⟨_, _, rfl, intsAt_nil W, intsAt_nil W⟩ (intsAt_nil W) (fun x hx => by cases hx) hJ0)
  rw [Nat.zero_add] at hon
  obtain ⟨ld, lcap, rfl, _⟩ := hl
  have c0 := hW.cell hB
  have c1 := hW.cell h0
  have c2 := hW.cell h1
  have c3 := hW.cell h2
  clear hB h0 h1 h2 hY hJ0 hJ
  refine callsIn_wide.2 ?_
  show Calls Tryd.prog 59 #[.func (.yield L) #[] #[], .pointer (some ⟨B, 0, none⟩), .pointer (some ⟨C, 0, none⟩)] W _
  go_enter Tryd.func59, Tryd.ntmps59
  go_wp2_with fail
  refine hon.out.mono ?_
  rintro e w1 (⟨rfl, h1, _⟩ | ⟨rfl, k, h1, h2⟩)
  · have H1 := Lib.hid h1
    clear h1
    go_wp2
    go_end0
    exact ⟨⟨_, rfl⟩, .inl H1.out⟩
  · have H2 := Lib.hid h2
    clear h2
    go_wp2
    go_end0
    exact ⟨⟨_, rfl⟩, .inr ⟨k, h1, H2.out⟩⟩

/-- The first order that fits. -/
def orderM (pages : Int) (l : List OpP) : Option (List Int) := if (1 ≤ pages ∧ pages ≤ 4096) ∧ mayL l = true ∧ l.length ≤ 8 then (dfsM pages l l.length [] []).find? (wholeM l) else none

theorem put_boxed {W : World} {D b : Nat} {t : TypeId} {v : Value} {o : Obj} (h : Boxed W b t v) (hne : b ≠ D) : Boxed (W.putObj D o) b t v := h.kept (grownBy_putObj' W D o) (by simpa using hne)
theorem put_below {w W : World} {D : Nat} {o : Obj} (h : Below w.heap.size w W) (hD : w.heap.size ≤ D) : Below w.heap.size w (W.putObj D o) := h.grown (grownBy_putObj' W D o) h.size (fun k e => by cases e; exact hD)
theorem set_other {W : World} {b c : Nat} {t : TypeId} {v u : Value} (h : Boxed W b t v) (hne : b ≠ c) : Boxed (W.setCell ⟨c, 0, none⟩ u) b t v := h.kept (grownBy_setCell' W c u) (by simpa using hne)
theorem keeps_below {W W' : World} (hb : Below W.heap.size W W') : KeepsOthers W W' :=
  ⟨hb.size, fun k _ hk _ => (hb.block k (Array.getElem?_eq_some_iff.1 hk).1).trans hk⟩

theorem two_cells {W : World} {g h : Nat} (hne : g ≠ h) {x y : Value} (h1 : W.cell? ⟨g, 0, none⟩ = some x) (h2 : W.cell? ⟨h, 0, none⟩ = some y) (u v : Value) :
    ((W.setCell ⟨g, 0, none⟩ u).setCell ⟨h, 0, none⟩ v).cell? ⟨g, 0, none⟩ = some u ∧ ((W.setCell ⟨g, 0, none⟩ u).setCell ⟨h, 0, none⟩ v).cell? ⟨h, 0, none⟩ = some v := by
  refine ⟨?_, World.cell?_setCell_same _ _ _ ((World.cell?_setCell_other _ _ _ _ (fun e => hne (by injection e))).trans h2)⟩
  rw [World.cell?_setCell_other _ _ _ _ (fun e => hne (by injection e with e; exact e.symm))]
  exact World.cell?_setCell_same _ _ _ h1

theorem boxed_below {W W' : World} {b : Nat} {t : TypeId} {v : Value} (h : Boxed W b t v) (hb : Below W.heap.size W W') : Boxed W' b t v := (hb.block _ (Array.getElem?_eq_some_iff.1 h).1).trans h
theorem ints_set {W : World} {u : Value} {x : List Int} {b : Nat} {v : Value} (h : IntsAt W u x) (hc : W.cell? ⟨b, 0, none⟩ = some v) (hv : ∀ n : Int, v ≠ .int .i64 n) (v' : Value) : IntsAt (W.setCell ⟨b, 0, none⟩ v') u x := by
  obtain ⟨ad, cap, rfl, h | ⟨g, c, rfl, hg, hcl, hcap⟩⟩ := h
  · exact ⟨_, _, rfl, .inl h⟩
  · refine ⟨_, _, rfl, .inr ⟨g, c, rfl, by simpa using hg, fun j n hj => ?_, hcap⟩⟩
    have hne : (⟨b, 0, none⟩ : Addr) ≠ ⟨g, c + j, none⟩ := fun e => by
      have := hcl j n hj
      rw [← e, hc] at this
      injection this with this
      exact hv _ this
    rw [World.cell?_setCell_other _ _ _ _ hne]
    exact hcl j n hj
theorem dfs_len {pages : Int} {l : List OpP} : ∀ (f : Nat) (s : LiveP) (order x : List Int), x ∈ dfsM pages l f s order → x.length ≤ order.length + f
  | 0, _, order, x, h => by simp [dfsM] at h; subst h; omega
  | f + 1, s, order, x, h => by
    rcases List.mem_cons.1 h with rfl | h
    · omega
    · obtain ⟨i, _, h⟩ := List.mem_flatMap.1 h
      unfold subM at h
      split at h
      · cases h
      · split at h
        · cases h
        · have := dfs_len f _ _ _ h
          simp at this; omega
theorem orders_any (pages : Int) (ld : Option Addr) (n c : Nat) (w : World) : Calls Tryd.prog 49 #[.slice ld n c, .agg #[.int .i64 pages, .slice none 0 0, .slice none 0 0]] w fun e w' =>
    e = .returned (.func (.func 59) #[] #[.pointer (some ⟨w.heap.size, 0, none⟩), .pointer (some ⟨w.heap.size + 1, 0, none⟩)]) ∧ w' = (w.alloc (.cells #[.slice ld n c] 39)).alloc (.cells #[.int .i64 pages, .slice none 0 0, .slice none 0 0] 63) := by
  go_enter Tryd.func49, Tryd.ntmps49
  go_wp2
  go_ret
  exact ⟨rfl, rfl⟩

set_option maxHeartbeats 4000000 in
theorem order_any (pages : Int) (l : List OpP) (hlen : l.length ≤ 1048576) (hfit : ∀ i, i < l.length → (opAt l i).fits ∧ 0 ≤ 0) (lv : Value) (w : World) (hl : OpsAt w lv l) (hT : Tab w) :
    Calls Tryd.prog 35 #[.int .i64 pages, lv] w fun e w' => (∃ u, e = .returned (.tuple #[u, .bool (orderM pages l).isSome]) ∧ IntsAt w' u ((orderM pages l).getD [])) ∧ Below w.heap.size w w' := by
  have HL := Lib.hid hl
  have Hmay := Lib.hid (fun (W : World) (hb : Below w.heap.size w W) => may_any l hlen lv W (hl.kept (CellsKept.of hb)))
  obtain ⟨ld, lcap, rfl, _⟩ := hl
  obtain ⟨WA, hWA, hsA, X0, X1, X2, hbA⟩ := three_boxes w #[.slice ld l.length lcap] #[.slice none 0 0] #[.bool false] 39 41 4
  have x0 : WA.cell? ⟨w.heap.size, 0, none⟩ = some (.slice ld l.length lcap) := blk_cell X0 0
  have HbA := Lib.hid hbA
  have HWA := Lib.hid hWA
  have HX0 := Lib.hid X0
  have HX1 := Lib.hid X1
  have HX2 := Lib.hid X2
  by_cases hp : 1 ≤ pages ∧ pages ≤ 4096
  · have ho := over_any pages WA
    rw [decide_eq_true hp] at ho
    have Ho := Lib.hid ho
    clear ho
    by_cases hm : mayL l = true
    · have hmay := Hmay.out WA HbA.out
      rw [hm] at hmay
      have HM := Lib.hid hmay
      clear hmay
      by_cases h8 : l.length ≤ 8
      · have Hm := Lib.hid (show orderM pages l = (dfsM pages l l.length [] []).find? (wholeM l) from if_pos ⟨hp, hm, h8⟩)
        have h8' : ¬ ((8 : Int) < l.length) := by omega
        have hsA' := hsA
        clear hWA hbA X0 X1 X2 hm hsA'
        refine (callsIn_wide (n := 10)).1 ?_
        refine callsIn_of_wp_marks Tryd.func35 rfl trivial ?_ rfl
        simp only [Tryd.ntmps35, List.size_toArray, List.length_cons, List.length_nil, Nat.reduceAdd, Nat.reduceSub, Array.replicate_succ, Array.replicate_zero, List.push_toArray, List.append_toArray, List.nil_append, List.cons_append]
        gi_wp2_with fail
        rw [HWA.out]
        refine ⟨trivial, ?_⟩
        refine (callsIn_wide.2 Ho.out).mono ?_
        rintro e w1 ⟨rfl, rfl⟩
        gi_wp2_with fail
        refine ⟨trivial, ?_⟩
        refine (callsIn_wide.2 HM.out).mono ?_
        rintro e w2 ⟨rfl, hb2⟩
        have Hb2 := Lib.hid hb2
        have x0' := (hb2.cell (p := ⟨w.heap.size, 0, none⟩) (show w.heap.size < WA.heap.size by omega)).trans x0
        clear hb2 x0
        gi_wp2_with fail
        refine ⟨trivial, ?_⟩
        refine (callsIn_wide.2 (orders_any pages ld l.length lcap w2)).mono ?_
        rintro e w3 ⟨rfl, rfl⟩
        gi_wp2
        obtain ⟨XS, eXS⟩ : ∃ XS, dfsM pages l l.length [] [] = XS := ⟨_, rfl⟩
        have hlenX : ∀ x, x ∈ XS → x.length ≤ 8 := fun x hx => by rw [← eXS] at hx; have := dfs_len _ _ _ _ hx; simp at this; omega
        have hbw2 : Below w.heap.size w w2 := HbA.out.trans (Hb2.out.mono HbA.out.size)
        have a3 : Boxed w2 w.heap.size 39 (.slice ld l.length lcap) := (Hb2.out.block _ (show w.heap.size < WA.heap.size by omega)).trans HX0.out
        have a4 : Boxed w2 (w.heap.size + 1) 41 (.slice none 0 0) := (Hb2.out.block _ (show w.heap.size + 1 < WA.heap.size by omega)).trans HX1.out
        have a5 : Boxed w2 (w.heap.size + 1 + 1) 4 (.bool false) := (Hb2.out.block _ (show w.heap.size + 1 + 1 < WA.heap.size by omega)).trans HX2.out
        have hs2 := Hb2.out.size
        obtain ⟨WB, hWB⟩ : ∃ WB, (w2.alloc (.cells #[.slice ld l.length lcap] 39)).alloc (.cells #[.int .i64 pages, .slice none 0 0, .slice none 0 0] 63) = WB := ⟨_, rfl⟩
        have hsB : WB.heap.size = w2.heap.size + 2 := by rw [← hWB]; simp
        have b3 : Boxed WB w.heap.size 39 (.slice ld l.length lcap) := by rw [← hWB]; exact (a3.alloc _).alloc _
        have b4 : Boxed WB (w.heap.size + 1) 41 (.slice none 0 0) := by rw [← hWB]; exact (a4.alloc _).alloc _
        have b5 : Boxed WB (w.heap.size + 1 + 1) 4 (.bool false) := by rw [← hWB]; exact (a5.alloc _).alloc _
        have c1 : WB.heap[w2.heap.size]? = some (.cells #[.slice ld l.length lcap] 39 (0, 0)) := by rw [← hWB]; exact (Below.heap_alloc _ _ _ (by simp)).trans (World.alloc_heap_new w2 _)
        have c2 : WB.heap[w2.heap.size + 1]? = some (.cells #[.int .i64 pages, .slice none 0 0, .slice none 0 0] 63 (0, 0)) := by
          rw [← hWB]
          have := World.alloc_heap_new (w2.alloc (.cells #[.slice ld l.length lcap] 39)) (.cells #[.int .i64 pages, .slice none 0 0, .slice none 0 0] 63)
          rw [World.size_alloc] at this
          exact this
        have hBB : Below w.heap.size w WB := by rw [← hWB]; exact (hbw2.alloc hbw2.size _).alloc (by have := hbw2.size; simp; omega) _
        have hg := orders_gives pages hp.1 hp.2 l (by omega) hfit _ WB (HL.out.kept (CellsKept.of hBB)) (hT.below hBB) w2.heap.size (w2.heap.size + 1) (blk_cell c1 0) (blk_cell c2 0) (blk_cell c2 1) (blk_cell c2 2)
        rw [eXS] at hg Hm
        rw [hWB]
        clear hWB a3 a4 a5 c1 c2 x0'
        refine range_law2 (gf := 59) (lb := #[.pointer (some ⟨w2.heap.size, 0, none⟩), .pointer (some ⟨w2.heap.size + 1, 0, none⟩)]) rfl (enters_of Tryd.func59 (by kernel_rfl) rfl) (fun x W W' u h hk => h.kept hk) hg
          (fun k W => (∀ j x, j < k → XS[j]? = some x → wholeM l x = false) ∧ Boxed W w.heap.size 39 (.slice ld l.length lcap) ∧ Boxed W (w.heap.size + 1) 41 (.slice none 0 0) ∧ Boxed W (w.heap.size + 1 + 1) 4 (.bool false) ∧ Below w.heap.size w W)
          (fun c k W => Hid (c = .ret ∧ ∃ x u, XS[k]? = some x ∧ wholeM l x = true ∧ (∀ j y, j < k → XS[j]? = some y → wholeM l y = false) ∧ IntsAt W u x ∧ (∃ d n c, u = .slice d n c) ∧ Boxed W (w.heap.size + 1) 41 u ∧ Boxed W (w.heap.size + 1 + 1) 4 (.bool true)) ∧ Below w.heap.size w W)
          (fun k W W' h hb => ⟨h.1, boxed_below h.2.1 hb, boxed_below h.2.2.1 hb, boxed_below h.2.2.2.1 hb, h.2.2.2.2.trans (hb.mono h.2.2.2.2.size)⟩)
          (fun k W r o h hr _ => ⟨h.1, put_boxed h.2.1 (by omega), put_boxed h.2.2.1 (by omega), put_boxed h.2.2.2.1 (by omega), put_below h.2.2.2.2 (by omega)⟩)
          (fun c k W r o h hr hn => by
            obtain ⟨h1, x, u, h2, h3, h4, h5, h6, h7, h8⟩ := h.1.out
            exact ⟨Lib.hid ⟨h1, x, u, h2, h3, h4, h5.kept (cellsKept_put hn), h6, put_boxed h7 (by omega), put_boxed h8 (by omega)⟩, put_below h.2 (by omega)⟩)
          ⟨fun j x hj => absurd hj (Nat.not_lt_zero j), b3, b4, b5, hBB⟩
          (fun u : Value => { tmps := #[.int .i64 pages, .slice ld l.length lcap, undef, .pointer (some ⟨w.heap.size, 0, none⟩), .pointer (some ⟨w.heap.size + 1, 0, none⟩), .pointer (some ⟨w.heap.size + 1 + 1, 0, none⟩), u, .int .i64 pages, .bool true, .bool false, .bool false, .slice ld l.length lcap, .bool true, .bool false, .bool false, .bool false, .slice ld l.length lcap, .int .i64 l.length, .bool false, .bool false, .slice ld l.length lcap, .int .i64 pages, .agg #[.int .i64 pages, .slice none 0 0, .slice none 0 0], .func (.func 59) #[] #[.pointer (some ⟨w2.heap.size, 0, none⟩), .pointer (some ⟨w2.heap.size + 1, 0, none⟩)], u, undef, undef, undef, undef], defers := [] }) ?assign ?body ?done ?stop
        case assign =>
          intro L u W K hK
          gi_wp2
          exact hK
        case body =>
          rintro L k x u W hx hu hkw ⟨hno, b3, b4, b5, hB⟩ hsz
          have Hw := Lib.hid (whole_any l hlen x (by have := hlenX x (List.mem_of_getElem? hx); omega) _ u W (HL.out.kept (CellsKept.of hB)) hu)
          have Hu := Lib.hid hu
          obtain ⟨ud, uc, rfl, _⟩ := hu
          have d3 := b3.cell
          obtain ⟨bb, ebb⟩ : ∃ bb, wholeM l x = bb := ⟨_, rfl⟩
          rw [ebb] at Hw
          have Ebb := Lib.hid ebb
          have Hx := Lib.hid hx
          have Hno := Lib.hid hno
          have HB := Lib.hid hB
          clear ebb hx hno hB hkw hg
          gi_wp2_with fail
          refine ⟨trivial, ?_⟩
          refine (CallsIn.inRound L (callsIn_wide.2 Hw.out)).mono ?_
          rintro e W2 ⟨rfl, hB2⟩
          have b3' := boxed_below b3 hB2
          have b4' := boxed_below b4 hB2
          have b5' := boxed_below b5 hB2
          have HB2 := Lib.hid hB2
          cases bb with
          | false =>
            gi_wp2
            refine ⟨keeps_below HB2.out, CellsKept.of HB2.out, fun j y hj hy => ?_, b3', b4', b5', HB.out.trans (HB2.out.mono HB.out.size)⟩
            rcases Nat.lt_or_ge j k with h | h
            · exact Hno.out j y h hy
            · obtain rfl : j = k := by omega
              rw [Hx.out] at hy
              cases hy
              exact Ebb.out
          | true =>
            have d4 := b4'.cell; have f4 := b4'.frozen
            have d5 := b5'.cell; have f5 := b5'.frozen
            have hu2 := Hu.out.kept (CellsKept.of HB2.out)
            have hu3 := ints_set hu2 d4 (fun n => by simp) (.slice ud x.length uc)
            have d5' := (set_other (u := .slice ud x.length uc) b5' (show w.heap.size + 1 + 1 ≠ w.heap.size + 1 by omega)).cell
            have Hu4 := Lib.hid (ints_set hu3 d5' (fun n => by simp) (.bool true))
            have B4 := Lib.hid (set_other (u := .bool true) (b4'.set (.slice ud x.length uc)) (show w.heap.size + 1 ≠ w.heap.size + 1 + 1 by omega))
            have B5 := Lib.hid ((set_other (u := .slice ud x.length uc) b5' (show w.heap.size + 1 + 1 ≠ w.heap.size + 1 by omega)).set (.bool true))
            clear hu2 hu3 d5'
            gi_wp2
            exact ⟨((keeps_below HB2.out).trans (KeepsOthers.setCell _ _ _)).trans (KeepsOthers.setCell _ _ _), Lib.hid ⟨rfl, x, _, Hx.out, Ebb.out, Hno.out, Hu4.out, ⟨_, _, _, rfl⟩, B4.out, B5.out⟩, ((HB.out.trans (HB2.out.mono HB.out.size)).setCell (p := ⟨w.heap.size + 1, 0, none⟩) (show w.heap.size ≤ w.heap.size + 1 by omega) _).setCell (p := ⟨w.heap.size + 1 + 1, 0, none⟩) (show w.heap.size ≤ w.heap.size + 1 + 1 by omega) _⟩
        case done =>
          rintro D W hD ⟨hno, b3, b4, b5, hB⟩ hK
          have Hnone := Lib.hid (show orderM pages l = none from by
            rw [Hm.out, List.find?_eq_none]
            intro x hx
            obtain ⟨j, hj, e⟩ := List.getElem_of_mem hx
            have := hno j x hj (by rw [List.getElem?_eq_getElem hj, e])
            rw [this]; exact Bool.false_ne_true)
          have d4 := b4.cell; have f4 := b4.frozen
          have d5 := b5.cell; have f5 := b5.frozen
          clear hno hg
          gi_wp2
          have hK' := ((KeepsOthers.setCell W ⟨w.heap.size + 1, 0, none⟩ (.slice none 0 0)).trans (KeepsOthers.setCell _ ⟨w.heap.size + 1 + 1, 0, none⟩ (.bool false))).same D _ hK rfl
          refine ⟨by simp, .inl ⟨_, _, rfl, run_takeDeferred hK', ?_⟩⟩
          have e1 := (put_boxed (D := D) (o := .deferred none) (set_other (u := .bool false) (b4.set (.slice none 0 0)) (show w.heap.size + 1 ≠ w.heap.size + 1 + 1 by omega)) (by omega)).cell
          have e2 := (put_boxed (D := D) (o := .deferred none) ((set_other (u := .slice none 0 0) b5 (show w.heap.size + 1 + 1 ≠ w.heap.size + 1 by omega)).set (.bool false)) (by omega)).cell
          refine ⟨.tuple #[.slice none 0 0, .bool false], ?_, ⟨_, by rw [Hnone.out]; rfl, by rw [Hnone.out]; exact intsAt_nil _⟩, put_below ((hB.setCell (p := ⟨w.heap.size + 1, 0, none⟩) (show w.heap.size ≤ w.heap.size + 1 by omega) _).setCell (p := ⟨w.heap.size + 1 + 1, 0, none⟩) (show w.heap.size ≤ w.heap.size + 1 + 1 by omega) _) (by omega)⟩
          simp [results, Tryd.results35, go_sem, e1, e2]
        case stop =>
          rintro D c k W hD hk ⟨hx, hB⟩ hK
          obtain ⟨rfl, x, u, h2, h3, h4, h5, ⟨ud, un, uc, rfl⟩, b4, b5⟩ := hx.out
          have Hsome := Lib.hid (show orderM pages l = some x from by
            rw [Hm.out, List.find?_eq_some_iff_getElem]
            refine ⟨h3, k, hk, (List.getElem?_eq_some_iff.1 h2).2, fun j hj => ?_⟩
            have := h4 j (XS[j]'(by omega)) hj (List.getElem?_eq_getElem _)
            simp [this])
          have d4 := b4.cell; have d5 := b5.cell
          have H5 := Lib.hid h5
          clear h2 h3 h4 h5 hg hx
          gi_wp2
          refine ⟨by simp, .inl ⟨_, _, rfl, run_takeDeferred hK, ?_⟩⟩
          have e1 := (put_boxed (D := D) (o := .deferred none) b4 (by omega)).cell
          have e2 := (put_boxed (D := D) (o := .deferred none) b5 (by omega)).cell
          refine ⟨.tuple #[.slice ud un uc, .bool true], ?_, ⟨_, by rw [Hsome.out]; rfl, by rw [Hsome.out]; exact H5.out.kept (cellsKept_put ⟨_, hK, rfl⟩)⟩, put_below hB (by omega)⟩
          simp [results, Tryd.results35, go_sem, e1, e2]
      · have Hm := Lib.hid (show orderM pages l = none from if_neg fun h => h8 h.2.2)
        have h8' : (8 : Int) < l.length := by omega
        clear hWA hbA X0 X1 X2 hp h8
        go_enter Tryd.func35, Tryd.ntmps35
        go_wp2_with fail
        rw [HWA.out]
        refine Ho.out.mono ?_
        rintro e w1 ⟨rfl, rfl⟩
        go_wp2_with fail
        refine HM.out.mono ?_
        rintro e w2 ⟨rfl, hb2⟩
        have Hb2 := Lib.hid hb2
        have x0' := (hb2.cell (p := ⟨w.heap.size, 0, none⟩) (show w.heap.size < WA.heap.size by omega)).trans x0
        clear hb2
        have e1 : w2.cell? ⟨w.heap.size + 1, 0, none⟩ = some (.slice none 0 0) := blk_cell ((Hb2.out.block _ (by omega)).trans HX1.out) 0
        have e2 : w2.cell? ⟨w.heap.size + 1 + 1, 0, none⟩ = some (.bool false) := blk_cell ((Hb2.out.block _ (by omega)).trans HX2.out) 0
        have f1 : w2.frozen? ⟨w.heap.size + 1, 0, none⟩ = false := blk_frozen ((Hb2.out.block _ (by omega)).trans HX1.out) 0
        have f2 : w2.frozen? ⟨w.heap.size + 1 + 1, 0, none⟩ = false := blk_frozen ((Hb2.out.block _ (by omega)).trans HX2.out) 0
        go_wp2
        obtain ⟨a1, a2⟩ := two_cells (show w.heap.size + 1 ≠ w.heap.size + 1 + 1 by omega) e1 e2 (.slice none 0 0) (.bool false)
        refine bodyPost_ret (v := .tuple #[.slice none 0 0, .bool false]) (by simp [results, Tryd.results35, go_sem, a1, a2]) rfl ⟨⟨_, by rw [Hm.out]; rfl, by rw [Hm.out]; exact intsAt_nil _⟩, ?_⟩
        exact ((HbA.out.trans (Hb2.out.mono HbA.out.size)).setCell (p := ⟨w.heap.size + 1, 0, none⟩) (show w.heap.size ≤ w.heap.size + 1 by omega) _).setCell (p := ⟨w.heap.size + 1 + 1, 0, none⟩) (show w.heap.size ≤ w.heap.size + 1 + 1 by omega) _
    · have Hm := Lib.hid (show orderM pages l = none from if_neg fun h => hm h.2.1)
      have hmay := Hmay.out WA HbA.out
      rw [show mayL l = false by simpa using hm] at hmay
      have HM := Lib.hid hmay
      clear hWA hbA X0 X1 X2 hp hm hmay
      go_enter Tryd.func35, Tryd.ntmps35
      go_wp2_with fail
      rw [HWA.out]
      refine Ho.out.mono ?_
      rintro e w1 ⟨rfl, rfl⟩
      go_wp2_with fail
      refine HM.out.mono ?_
      rintro e w2 ⟨rfl, hb2⟩
      have Hb2 := Lib.hid hb2
      clear hb2
      have e1 : w2.cell? ⟨w.heap.size + 1, 0, none⟩ = some (.slice none 0 0) := blk_cell ((Hb2.out.block _ (by omega)).trans HX1.out) 0
      have e2 : w2.cell? ⟨w.heap.size + 1 + 1, 0, none⟩ = some (.bool false) := blk_cell ((Hb2.out.block _ (by omega)).trans HX2.out) 0
      have f1 : w2.frozen? ⟨w.heap.size + 1, 0, none⟩ = false := blk_frozen ((Hb2.out.block _ (by omega)).trans HX1.out) 0
      have f2 : w2.frozen? ⟨w.heap.size + 1 + 1, 0, none⟩ = false := blk_frozen ((Hb2.out.block _ (by omega)).trans HX2.out) 0
      go_wp2
      obtain ⟨a1, a2⟩ := two_cells (show w.heap.size + 1 ≠ w.heap.size + 1 + 1 by omega) e1 e2 (.slice none 0 0) (.bool false)
      refine bodyPost_ret (v := .tuple #[.slice none 0 0, .bool false]) (by simp [results, Tryd.results35, go_sem, a1, a2]) rfl ⟨⟨_, by rw [Hm.out]; rfl, by rw [Hm.out]; exact intsAt_nil _⟩, ?_⟩
      exact ((HbA.out.trans (Hb2.out.mono HbA.out.size)).setCell (p := ⟨w.heap.size + 1, 0, none⟩) (show w.heap.size ≤ w.heap.size + 1 by omega) _).setCell (p := ⟨w.heap.size + 1 + 1, 0, none⟩) (show w.heap.size ≤ w.heap.size + 1 + 1 by omega) _
  · have Hm := Lib.hid (show orderM pages l = none from if_neg fun h => hp h.1)
    have ho := over_any pages WA
    rw [decide_eq_false hp] at ho
    have Ho := Lib.hid ho
    clear ho hWA hbA X0 X1 X2 hp
    go_enter Tryd.func35, Tryd.ntmps35
    go_wp2_with fail
    rw [HWA.out]
    refine Ho.out.mono ?_
    rintro e w1 ⟨rfl, rfl⟩
    have e1 : WA.cell? ⟨w.heap.size + 1, 0, none⟩ = some (.slice none 0 0) := blk_cell (HX1.out) 0
    have e2 : WA.cell? ⟨w.heap.size + 1 + 1, 0, none⟩ = some (.bool false) := blk_cell (HX2.out) 0
    have f1 : WA.frozen? ⟨w.heap.size + 1, 0, none⟩ = false := blk_frozen (HX1.out) 0
    have f2 : WA.frozen? ⟨w.heap.size + 1 + 1, 0, none⟩ = false := blk_frozen (HX2.out) 0
    go_wp2
    obtain ⟨a1, a2⟩ := two_cells (show w.heap.size + 1 ≠ w.heap.size + 1 + 1 by omega) e1 e2 (.slice none 0 0) (.bool false)
    refine bodyPost_ret (v := .tuple #[.slice none 0 0, .bool false]) (by simp [results, Tryd.results35, go_sem, a1, a2]) rfl ⟨⟨_, by rw [Hm.out]; rfl, by rw [Hm.out]; exact intsAt_nil _⟩, ?_⟩
    exact ((HbA.out).setCell (p := ⟨w.heap.size + 1, 0, none⟩) (show w.heap.size ≤ w.heap.size + 1 by omega) _).setCell (p := ⟨w.heap.size + 1 + 1, 0, none⟩) (show w.heap.size ≤ w.heap.size + 1 + 1 by omega) _
end Go.Proofs.YtomheapokfphiaaDoor
