/-
  ScriptOne's walk.
-/
import Derived.Test.YtkdigojjeiidmaaDoorRead
import Derived.Test.YtkdigojjeiidmaaDoorAwake
import Derived.Test.YtkdigojjeiidmaaDoorLater
namespace Go.Proofs.YtkdigojjeiidmaaDoor
open Go Go.RowKit Go.Shelf

theorem text_zero : textM zeroC = [] := rfl
theorem sameC_text {o p : CallP} (h : mayM o = true) (ok : CallOk o) (h' : mayM p = true) (ok' : CallOk p) : (textM o == textM p) = sameC o p := by
  unfold sameC
  by_cases e : o = p
  · subst e
    simp
  · have hne : textM o ≠ textM p := fun k => e (text_inj h ok h' ok' k)
    rw [show (textM o == textM p) = false by simpa using hne, decide_eq_false]
    rintro ⟨a, b, c⟩
    obtain ⟨k1, a1, L1⟩ := o
    obtain ⟨k2, a2, L2⟩ := p
    simp only at a b c
    subst a b c
    exact e rfl
theorem ne_nil_false {t : List UInt8} (h : false = (t != [])) : t = [] := by
  cases t with
  | nil => rfl
  | cons b r => simp at h
theorem ne_nil_true {t : List UInt8} (h : true = (t != [])) : (t == []) = false ∧ ([] == t) = false := by
  cases t with
  | nil => simp at h
  | cons b r => exact ⟨rfl, rfl⟩
theorem may_text {o : CallP} (ok : CallOk o) : mayM o = (textM o != []) := by
  cases h : mayM o with
  | true => have := head_text_ne h ok; simpa using this
  | false => unfold textM; rw [if_neg (by rw [h]; decide)]; rfl

set_option maxRecDepth 100000 in
set_option maxHeartbeats 4000000 in
theorem scriptOne_any (l : List UInt8) (hl : l.length ≤ 2097152) (c d : CallP) (lv mv : Value) (w : World) (h1 : IntsAt w lv c.L) (ok1 : CallOk c) (h2 : IntsAt w mv d.L) (ok2 : CallOk d) (hv : Vars w) :
    Calls Tryd.prog 9 #[.string ⟨l.toArray⟩, callV c lv, callV d mv] w fun e w' => e = .returned (.bool true) ∧ Below w.heap.size w w' := by
  obtain ⟨la, lc, rfl⟩ := intsAt_shape h1
  obtain ⟨ma, mc, rfl⟩ := intsAt_shape h2
  obtain ⟨W0, eW⟩ : ∃ W0, (w.alloc (.cells #[.int .i64 c.kind, .int .i64 c.a, .slice la c.L.length lc] 36)).alloc (.cells #[.int .i64 d.kind, .int .i64 d.a, .slice ma d.L.length mc] 36) = W0 := ⟨_, rfl⟩
  have hA0 : W0.heap[w.heap.size]? = some (.cells #[.int .i64 c.kind, .int .i64 c.a, .slice la c.L.length lc] 36 (0, 0)) := by rw [← eW]; exact (Below.heap_alloc _ _ _ (by simp)).trans (World.alloc_heap_new _ _)
  have hA1 : W0.heap[w.heap.size + 1]? = some (.cells #[.int .i64 d.kind, .int .i64 d.a, .slice ma d.L.length mc] 36 (0, 0)) := by
    rw [← eW]
    have : (w.alloc (.cells #[.int .i64 c.kind, .int .i64 c.a, .slice la c.L.length lc] 36)).heap.size = w.heap.size + 1 := by simp
    rw [← this]
    exact World.alloc_heap_new _ _
  have hW0 : Below w.heap.size w W0 := by rw [← eW]; exact ((Below.refl _ w).alloc (Nat.le_refl _) _).alloc (by simp) _
  have HRd := Lib.hid (read_any l hl W0 (hv.below hW0))
  have Has := Lib.hid (read_as l)
  have HXok := Lib.hid (read_ok l hl)
  have HW0 := Lib.hid hW0
  have HA0 := Lib.hid hA0
  have HA1 := Lib.hid hA1
  have H1 := Lib.hid h1
  have H2 := Lib.hid h2
  have HV := Lib.hid hv
  have K1 := Lib.hid ok1
  have K2 := Lib.hid ok2
  clear hA0 hA1 hW0 h1 h2 hv ok1 ok2
  simp only [callV]
  go_enter Tryd.func9, Tryd.ntmps9
  go_wp2_with fail
  try rw [eW]
  clear eW
  refine HRd.out.mono ?_
  rintro e w1 ⟨⟨xv, rfl, hx⟩, hb1⟩
  have has := Has.out
  generalize (readM l).1 = x at *
  generalize (readM l).2 = ok at *
  obtain ⟨xa, xc, rfl⟩ := intsAt_shape hx
  have hb2 := new_below (w := w1) (.cells #[.int .i64 x.kind, .int .i64 x.a, .slice xa x.L.length xc] 36)
  have HX2 := Lib.hid (World.alloc_heap_new w1 (.cells #[.int .i64 x.kind, .int .i64 x.a, .slice xa x.L.length xc] 36))
  have HI2 := Lib.hid (hx.kept (CellsKept.of hb2))
  have HB2 := Lib.hid (below_more hb1 hb2)
  have Hbs := Lib.hid has
  clear hb1 hb2 hx has Has HRd
  simp only [callV]
  go_upto_region 2 with (fail)
  obtain ⟨W2, eW2⟩ : ∃ W2, w1.alloc (.cells #[.int .i64 x.kind, .int .i64 x.a, .slice xa x.L.length xc] 36) = W2 := ⟨_, rfl⟩
  rw [eW2] at HX2 HI2 HB2
  try rw [eW2]
  clear eW2
  go_cut [31] (fun s31 wx => s31 = .bool false ∧ Below W2.heap.size W2 wx)
  case first =>
    have HBw := Lib.hid (HW0.out.trans (HB2.out.mono HW0.out.size))
    have HT := Lib.hid (text_any x _ W2 HI2.out HXok.out.2.1 HXok.out.1 HXok.out.2.2 (HV.out.below HBw.out).pow)
    have HM := Lib.hid (fun w' (k : CellsKept W2 w') => may_any x _ w' (HI2.out.kept k) HXok.out.2.1)
    have c0 := blk_cell HX2.out 0
    have c1 := blk_cell HX2.out 1
    have c2 := blk_cell HX2.out 2
    simp at c0 c1 c2
    unfold callV at HT HM
    rcases Hbs.out with ⟨rfl, hm, ht⟩ | ⟨rfl, rfl, hno⟩
    · rw [ht] at HT
      rw [hm] at HM
      have hl0 : l ≠ [] := by rw [← ht]; exact head_text_ne hm HXok.out
      have tl : (l == []) = false := by simpa using hl0
      obtain ⟨xk, xn, xL⟩ := x
      simp only at *
      generalize xL.length = n at *
      go_wp2_with fail
      refine HT.out.mono ?_
      rintro e w3 ⟨rfl, hb3⟩
      have h3X := (hb3.block _ (Array.getElem?_eq_some_iff.1 HX2.out).1).trans HX2.out
      have HB3 := Lib.hid hb3
      clear hb3 c0 c1 c2
      have c0 := blk_cell h3X 0
      have c1 := blk_cell h3X 1
      have c2 := blk_cell h3X 2
      simp at c0 c1 c2
      have HM3 := HM.out w3 (CellsKept.of HB3.out)
      clear h3X
      go_wp2_with fail
      refine HM3.mono ?_
      rintro e w4 ⟨rfl, hb4⟩
      have HB4 := Lib.hid (below_more HB3.out hb4)
      clear hb4
      go_wp2
      go_meet
      exact ⟨rfl, HB4.out⟩
    · rw [text_zero] at HT
      simp only [zeroC, List.length_nil] at *
      by_cases hl0 : l = []
      · subst hl0
        go_wp2_with fail
        refine HT.out.mono ?_
        rintro e w3 ⟨rfl, hb3⟩
        have HB3 := Lib.hid hb3
        clear hb3 c0 c1 c2
        go_wp2
        go_meet
        exact ⟨rfl, HB3.out⟩
      · have tl : (l == []) = false := by simpa using hl0
        have tl2 : ([] == l) = false := by
          rw [beq_eq_false_iff_ne]
          exact fun e => hl0 e.symm
        go_wp2_with fail
        refine HT.out.mono ?_
        rintro e w3 ⟨rfl, hb3⟩
        have HB3 := Lib.hid hb3
        clear hb3 c0 c1 c2
        go_wp2
        go_meet
        exact ⟨rfl, HB3.out⟩
  case rest =>
    obtain ⟨rfl, hbc⟩ := hcut
    obtain ⟨Wz, hWz⟩ : ∃ Wz, Wz = wc := ⟨_, rfl⟩
    subst hWz
    have hbw : Below w.heap.size w Wz := HW0.out.trans ((HB2.out.trans (hbc.mono HB2.out.size)).mono HW0.out.size)
    have hz0 : Wz.heap[w.heap.size]? = some (.cells #[.int .i64 c.kind, .int .i64 c.a, .slice la c.L.length lc] 36 (0, 0)) := by
      have h := (Array.getElem?_eq_some_iff.1 HA0.out).1
      exact ((hbc.block _ (Nat.lt_of_lt_of_le h HB2.out.size)).trans (HB2.out.block _ h)).trans HA0.out
    have hz1 : Wz.heap[w.heap.size + 1]? = some (.cells #[.int .i64 d.kind, .int .i64 d.a, .slice ma d.L.length mc] 36 (0, 0)) := by
      have h := (Array.getElem?_eq_some_iff.1 HA1.out).1
      exact ((hbc.block _ (Nat.lt_of_lt_of_le h HB2.out.size)).trans (HB2.out.block _ h)).trans HA1.out
    have kx : ∀ x : Later Wz, CellsKept w x.to := fun x => CellsKept.of (hbw.trans (x.below.mono hbw.size))
    have C14 := Lib.hid (fun x : Later Wz => may_any c _ x.to (H1.out.kept (kx x)) K1.out.2.1)
    have D14 := Lib.hid (fun x : Later Wz => may_any d _ x.to (H2.out.kept (kx x)) K2.out.2.1)
    have C16 := Lib.hid (fun x : Later Wz => text_any c _ x.to (H1.out.kept (kx x)) K1.out.2.1 K1.out.1 K1.out.2.2 (HV.out.below (hbw.trans (x.below.mono hbw.size))).pow)
    have D16 := Lib.hid (fun x : Later Wz => text_any d _ x.to (H2.out.kept (kx x)) K2.out.2.1 K2.out.1 K2.out.2.2 (HV.out.below (hbw.trans (x.below.mono hbw.size))).pow)
    have C22 := Lib.hid (fun x : Later Wz => sameCall_any c d _ _ x.to (H1.out.kept (kx x)) (H2.out.kept (kx x)) K1.out.2.1)
    have H12 := Lib.hid (fun x : Later Wz => awake_any x.to (HV.out.below (hbw.trans (x.below.mono hbw.size))).pow)
    have L : ∀ (x : Later Wz) (g : Nat) (cs : Array Value) (e : TypeId), Wz.heap[g]? = some (.cells cs e (0, 0)) → ∀ j, x.to.cell? ⟨g, j, none⟩ = cs[j]? := fun x g cs e hg j => blk_cell ((x.below.block g (Array.getElem?_eq_some_iff.1 hg).1).trans hg) j
    have L0 : ∀ x : Later Wz, x.to.cell? ⟨w.heap.size, 0, none⟩ = some (.int .i64 c.kind) := fun x => L x _ _ _ hz0 0
    have L1 : ∀ x : Later Wz, x.to.cell? ⟨w.heap.size, 1, none⟩ = some (.int .i64 c.a) := fun x => L x _ _ _ hz0 1
    have L2 : ∀ x : Later Wz, x.to.cell? ⟨w.heap.size, 2, none⟩ = some (.slice la c.L.length lc) := fun x => L x _ _ _ hz0 2
    have M0 : ∀ x : Later Wz, x.to.cell? ⟨w.heap.size + 1, 0, none⟩ = some (.int .i64 d.kind) := fun x => L x _ _ _ hz1 0
    have M1 : ∀ x : Later Wz, x.to.cell? ⟨w.heap.size + 1, 1, none⟩ = some (.int .i64 d.a) := fun x => L x _ _ _ hz1 1
    have M2 : ∀ x : Later Wz, x.to.cell? ⟨w.heap.size + 1, 2, none⟩ = some (.slice ma d.L.length mc) := fun x => L x _ _ _ hz1 2
    have Hsame := Lib.hid (fun (h : mayM c = true) (h' : mayM d = true) => sameC_text h K1.out h' K2.out)
    have Hmay := Lib.hid (may_text K1.out)
    have HBw := Lib.hid hbw
    unfold callV at C14 D14 C16 D16 C22
    clear L hz0 hz1 hbw kx hbc HA0 HA1 HX2 HI2 HB2 HXok Hbs HW0 H1 H2 K1 K2
    generalize mayM c = m1 at *
    generalize mayM d = m2 at *
    generalize textM c = t1 at *
    generalize textM d = t2 at *
    generalize sameC c d = sm at *
    obtain ⟨ck, ca, cL⟩ := c
    obtain ⟨dk, da, dL⟩ := d
    simp only at *
    generalize cL.length = cn at *
    generalize dL.length = dn at *
    go_upto_region 4 with (fail)
    go_cut [48] (fun s48 wx => s48 = .bool false ∧ Below Wz.heap.size Wz wx)
    case first =>
      cases m1 with
      | false =>
        refine wp_region_later (by kernel_rfl) (by kernel_rfl) ?_
        repeat (first | go_big_quiet_skip | (go_big_quiet_want; go_big_quiet_op; go_big_quiet_on))
        (go_big_quiet_want; go_big_quiet_op; apply Exists.intro; refine ⟨fun _ => ?_, ?_⟩; (focus (go_at_call 14; exact later_call (C14.out _))); go_big_quiet_on)
        repeat (first | go_big_quiet_skip | (go_big_quiet_want; go_big_quiet_op; go_big_quiet_on))
        refine wpQuiet_nil ?_
        rintro _ ⟨z, rfl⟩
        go_wp2
        go_meet
        exact ⟨rfl, z.below⟩
      | true =>
        cases m2 with
        | false =>
          refine wp_region_later (by kernel_rfl) (by kernel_rfl) ?_
          repeat (first | go_big_quiet_skip | (go_big_quiet_want; go_big_quiet_op; go_big_quiet_on))
          (go_big_quiet_want; go_big_quiet_op; apply Exists.intro; refine ⟨fun _ => ?_, ?_⟩; (focus (go_at_call 14; exact later_call (C14.out _))); go_big_quiet_on)
          repeat (first | go_big_quiet_skip | (go_big_quiet_want; go_big_quiet_op; go_big_quiet_on))
          (go_big_quiet_want; go_big_quiet_op; apply Exists.intro; refine ⟨fun _ => ?_, ?_⟩; (focus (go_at_call 14; exact later_call (D14.out _))); go_big_quiet_on)
          repeat (first | go_big_quiet_skip | (go_big_quiet_want; go_big_quiet_op; go_big_quiet_on))
          refine wpQuiet_nil ?_
          rintro _ ⟨z, rfl⟩
          go_wp2
          go_meet
          exact ⟨rfl, z.below⟩
        | true =>
          have hs := Hsame.out rfl rfl
          have hs2 : ((t1 == t2) != sm) = false := by rw [hs]; simp
          refine wp_region_later (by kernel_rfl) (by kernel_rfl) ?_
          repeat (first | go_big_quiet_skip | (go_big_quiet_want; go_big_quiet_op; go_big_quiet_on))
          (go_big_quiet_want; go_big_quiet_op; apply Exists.intro; refine ⟨fun _ => ?_, ?_⟩; (focus (go_at_call 14; exact later_call (C14.out _))); go_big_quiet_on)
          repeat (first | go_big_quiet_skip | (go_big_quiet_want; go_big_quiet_op; go_big_quiet_on))
          (go_big_quiet_want; go_big_quiet_op; apply Exists.intro; refine ⟨fun _ => ?_, ?_⟩; (focus (go_at_call 14; exact later_call (D14.out _))); go_big_quiet_on)
          repeat (first | go_big_quiet_skip | (go_big_quiet_want; go_big_quiet_op; go_big_quiet_on))
          (go_big_quiet_want; go_big_quiet_op; apply Exists.intro; refine ⟨fun _ => ?_, ?_⟩; (focus (go_at_call 16; exact later_call (C16.out _))); go_big_quiet_on)
          repeat (first | go_big_quiet_skip | (go_big_quiet_want; go_big_quiet_op; go_big_quiet_on))
          (go_big_quiet_want; go_big_quiet_op; apply Exists.intro; refine ⟨fun _ => ?_, ?_⟩; (focus (go_at_call 16; exact later_call (D16.out _))); go_big_quiet_on)
          repeat (first | go_big_quiet_skip | (go_big_quiet_want; go_big_quiet_op; go_big_quiet_on))
          (go_big_quiet_want; go_big_quiet_op; apply Exists.intro; refine ⟨fun _ => ?_, ?_⟩; (focus (go_at_call 22; exact later_call (C22.out _))); go_big_quiet_on)
          repeat (first | go_big_quiet_skip | (go_big_quiet_want; go_big_quiet_op; go_big_quiet_on))
          refine wpQuiet_nil ?_
          rintro _ ⟨z, rfl⟩
          go_wp2
          go_meet
          exact ⟨rfl, z.below⟩
    case rest =>
      obtain ⟨rfl, hbc⟩ := hcut
      obtain ⟨Wy, hWy⟩ : ∃ Wy, Wy = wc := ⟨_, rfl⟩
      subst hWy
      have up : ∀ y : Later Wy, ∃ x : Later Wz, x.to = y.to := fun y => ⟨⟨y.to, hbc.trans (y.below.mono hbc.size)⟩, rfl⟩
      have E14 := Lib.hid (fun y : Later Wy => by obtain ⟨x, hx⟩ := up y; have h := C14.out x; rw [hx] at h; exact h)
      have E16 := Lib.hid (fun y : Later Wy => by obtain ⟨x, hx⟩ := up y; have h := C16.out x; rw [hx] at h; exact h)
      have E12 := Lib.hid (fun y : Later Wy => by obtain ⟨x, hx⟩ := up y; have h := H12.out x; rw [hx] at h; exact h)
      have N0 : ∀ y : Later Wy, y.to.cell? ⟨w.heap.size, 0, none⟩ = some (.int .i64 ck) := fun y => by obtain ⟨x, hx⟩ := up y; have h := L0 x; rw [hx] at h; exact h
      have N1 : ∀ y : Later Wy, y.to.cell? ⟨w.heap.size, 1, none⟩ = some (.int .i64 ca) := fun y => by obtain ⟨x, hx⟩ := up y; have h := L1 x; rw [hx] at h; exact h
      have N2 : ∀ y : Later Wy, y.to.cell? ⟨w.heap.size, 2, none⟩ = some (.slice la cn lc) := fun y => by obtain ⟨x, hx⟩ := up y; have h := L2 x; rw [hx] at h; exact h
      have HBy := Lib.hid (HBw.out.trans (hbc.mono HBw.out.size))
      have hm1 := Hmay.out
      clear up C14 D14 C16 D16 C22 H12 L0 L1 L2 M0 M1 M2 hbc Hsame Hmay HBw
      go_upto_region 6 with (fail)
      cases m1 with
      | false =>
        obtain rfl : t1 = [] := ne_nil_false hm1
        clear hm1
        refine wp_region_later (by kernel_rfl) (by kernel_rfl) ?_
        repeat (first | go_big_quiet_skip | (go_big_quiet_want; go_big_quiet_op; go_big_quiet_on))
        (go_big_quiet_want; go_big_quiet_op; apply Exists.intro; refine ⟨fun _ => ?_, ?_⟩; (focus (go_at_call 14; exact later_call (E14.out _))); go_big_quiet_on)
        repeat (first | go_big_quiet_skip | (go_big_quiet_want; go_big_quiet_op; go_big_quiet_on))
        (go_big_quiet_want; go_big_quiet_op; apply Exists.intro; refine ⟨fun _ => ?_, ?_⟩; (focus (go_at_call 16; exact later_call (E16.out _))); go_big_quiet_on)
        repeat (first | go_big_quiet_skip | (go_big_quiet_want; go_big_quiet_op; go_big_quiet_on))
        (go_big_quiet_want; go_big_quiet_op; apply Exists.intro; refine ⟨fun _ => ?_, ?_⟩; (focus (go_at_call 12; exact later_call (E12.out _))); go_big_quiet_on)
        repeat (first | go_big_quiet_skip | (go_big_quiet_want; go_big_quiet_op; go_big_quiet_on))
        refine wpQuiet_nil ?_
        rintro _ ⟨z, rfl⟩
        have HZ := Lib.hid (HBy.out.trans (z.below.mono HBy.out.size))
        go_wp2
        go_ret
        exact ⟨rfl, HZ.out⟩
      | true =>
        obtain ⟨tn1, tn2⟩ := ne_nil_true hm1
        clear hm1
        refine wp_region_later (by kernel_rfl) (by kernel_rfl) ?_
        repeat (first | go_big_quiet_skip | (go_big_quiet_want; go_big_quiet_op; go_big_quiet_on))
        (go_big_quiet_want; go_big_quiet_op; apply Exists.intro; refine ⟨fun _ => ?_, ?_⟩; (focus (go_at_call 14; exact later_call (E14.out _))); go_big_quiet_on)
        repeat (first | go_big_quiet_skip | (go_big_quiet_want; go_big_quiet_op; go_big_quiet_on))
        (go_big_quiet_want; go_big_quiet_op; apply Exists.intro; refine ⟨fun _ => ?_, ?_⟩; (focus (go_at_call 16; exact later_call (E16.out _))); go_big_quiet_on)
        repeat (first | go_big_quiet_skip | (go_big_quiet_want; go_big_quiet_op; go_big_quiet_on))
        (go_big_quiet_want; go_big_quiet_op; apply Exists.intro; refine ⟨fun _ => ?_, ?_⟩; (focus (go_at_call 12; exact later_call (E12.out _))); go_big_quiet_on)
        repeat (first | go_big_quiet_skip | (go_big_quiet_want; go_big_quiet_op; go_big_quiet_on))
        refine wpQuiet_nil ?_
        rintro _ ⟨z, rfl⟩
        have HZ := Lib.hid (HBy.out.trans (z.below.mono HBy.out.size))
        go_wp2
        go_ret
        exact ⟨rfl, HZ.out⟩
theorem scriptOne_walk (x : ByteArray) (c : CallP) (lv : Value) (d : CallP) (mv : Value) (w : World) (hx : x.size ≤ 1048576) (h1 : IntsAt w lv c.L) (ok1 : CallOk c) (h2 : IntsAt w mv d.L) (ok2 : CallOk d) (hv : Vars w) :
    Calls Tryd.prog 9 #[.string x, .agg #[.int .i64 c.kind, .int .i64 c.a, lv], .agg #[.int .i64 d.kind, .int .i64 d.a, mv]] w fun e w' => e = .returned (.bool true) ∧ Below w.heap.size w w' :=
  scriptOne_any x.data.toList (by have e : x.data.toList.length = x.size := rfl
                                  omega) c d lv mv w h1 ok1 h2 ok2 hv
end Go.Proofs.YtkdigojjeiidmaaDoor
