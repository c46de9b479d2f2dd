/-
  LinRaw: it returns true for every input.
-/
import Derived.Test.YtomheapokfphiaaDoorRaw29Fits
import Derived.Test.YtomheapokfphiaaDoorRawAwake
namespace Go.Proofs.YtomheapokfphiaaDoor
open Go Go.RowKit Go.Shelf

theorem order_len {pages : Int} {l : List OpP} : ((orderM pages l).getD []).length ≤ l.length := by
  cases h : orderM pages l with
  | none => exact Nat.zero_le _
  | some a =>
    unfold orderM at h
    split at h
    · have hg := (first_fits (pages := pages) (l := l) h).1
      have := go_len _ _ _ hg
      have := miss_le [] l.length
      show a.length ≤ l.length
      omega
    · cases h

set_option maxHeartbeats 4000000 in
theorem rorder_gen (pages : Int) (l : List OpP) (hlen : l.length ≤ 12) (hfit : ∀ i, i < l.length → (opAt l i).fits ∧ 0 ≤ 0) (lv : Value) (w : World) (hl : OpsAt w lv l) :
    Calls Tryd.prog 36 #[.int .i64 pages, lv] w fun e w' => FoundAt w (orderM pages l) e w' := by
  by_cases h8 : l.length ≤ 8
  · by_cases h1 : 1 ≤ pages
    · by_cases h2 : pages ≤ 4096
      · exact rorder_any pages h1 h2 l h8 hfit lv w hl
      · have hr : orderM pages l = none := by unfold orderM; rw [if_neg]; rintro ⟨⟨_, h⟩, _⟩; omega
        rw [hr]
        obtain ⟨ld, lcap, rfl⟩ := ops_slice hl
        have q1 : ¬ ((8 : Int) < l.length) := by omega
        have q2 : ¬ (pages < 1) := by omega
        have q3 : (4096 : Int) < pages := by omega
        clear hl hr hfit
        go_enter Tryd.func36, Tryd.ntmps36
        go_wp2
        go_ret2
        exact ⟨⟨_, rfl, intsAt_nil _⟩, Below.refl _ _⟩
    · have hr : orderM pages l = none := by unfold orderM; rw [if_neg]; rintro ⟨⟨h, _⟩, _⟩; omega
      rw [hr]
      obtain ⟨ld, lcap, rfl⟩ := ops_slice hl
      have q1 : ¬ ((8 : Int) < l.length) := by omega
      have q2 : pages < 1 := by omega
      clear hl hr hfit
      go_enter Tryd.func36, Tryd.ntmps36
      go_wp2
      go_ret2
      exact ⟨⟨_, rfl, intsAt_nil _⟩, Below.refl _ _⟩
  · have hr : orderM pages l = none := by unfold orderM; rw [if_neg]; rintro ⟨_, _, h⟩; omega
    rw [hr]
    obtain ⟨ld, lcap, rfl⟩ := ops_slice hl
    have q1 : (8 : Int) < l.length := by omega
    clear hl hr hfit
    go_enter Tryd.func36, Tryd.ntmps36
    go_wp2
    go_ret2
    exact ⟨⟨_, rfl, intsAt_nil _⟩, Below.refl _ _⟩
set_option maxHeartbeats 4000000 in
theorem rfits_gen (pages : Int) (l : List OpP) (hlen : l.length ≤ 12) (hfit : ∀ i, i < l.length → (opAt l i).fits ∧ 0 ≤ 0) (order : List Int) (hlo : order.length ≤ 20) (lv ov : Value) (w : World) (hl : OpsAt w lv l) (ho : IntsAt w ov order) :
    Calls Tryd.prog 41 #[.int .i64 pages, lv, ov] w fun e w' => e = .returned (.bool (fitsM pages l order)) ∧ Below w.heap.size w w' := by
  by_cases h1 : 1 ≤ pages
  · by_cases h2 : pages ≤ 4096
    · exact rfits_any pages h1 h2 l hlen hfit order hlo lv ov w hl ho
    · have hr : fitsM pages l order = false := by unfold fitsM; rw [decide_eq_false (by omega)]; rfl
      rw [hr]
      have q2 : ¬ (pages < 1) := by omega
      have q3 : (4096 : Int) < pages := by omega
      clear hl ho hr hfit
      go_enter Tryd.func41, Tryd.ntmps41
      go_wp2
      go_ret
      exact ⟨rfl, Below.refl _ _⟩
  · have hr : fitsM pages l order = false := by unfold fitsM; rw [decide_eq_false (by omega)]; rfl
    rw [hr]
    have q2 : pages < 1 := by omega
    clear hl ho hr hfit
    go_enter Tryd.func41, Tryd.ntmps41
    go_wp2
    go_ret
    exact ⟨rfl, Below.refl _ _⟩

set_option maxRecDepth 6000 in
set_option maxHeartbeats 8000000 in
theorem linRaw_any (pages : Int) (l : List OpP) (hfit : ∀ i, i < l.length → (opAt l i).fits) (order : List Int) (lv ov : Value) (W : World) (hl : OpsAt W lv l) (ho : IntsAt W ov order) (hT : Tab W) :
    Calls Tryd.prog 12 #[.int .i64 pages, lv, ov] W fun e w' => e = .returned (.bool true) ∧ Below W.heap.size W w' := by
  have hHT := Lib.hid hT
  have HL1 := Lib.hid hl
  have HI1 := Lib.hid ho
  have Hfit := Lib.hid (fun i (hi : i < l.length) => (show (opAt l i).fits ∧ 0 ≤ 0 from ⟨hfit i hi, Nat.le_refl _⟩))
  obtain ⟨ld, lcap, rfl⟩ := ops_slice hl
  obtain ⟨od, ocap, rfl⟩ := ints_slice ho
  clear hl ho hfit hT
  obtain ⟨ln, eln⟩ : ∃ ln, l.length = ln := ⟨_, rfl⟩
  have Eln := Lib.hid eln
  obtain ⟨on, eon⟩ : ∃ on, order.length = on := ⟨_, rfl⟩
  have Eon := Lib.hid eon
  rw [eln] at HL1 ⊢
  rw [eon] at HI1 ⊢
  clear eln eon
  by_cases hbig : (12 : Int) < ln ∨ (14 : Int) < on
  · by_cases h12 : (12 : Int) < ln
    · go_enter Tryd.func12, Tryd.ntmps12
      go_wp2_with fail
      refine (awake_any _ hHT.out).mono ?_
      rintro e w6 ⟨rfl, hb6⟩
      have HB6 := Lib.hid hb6
      clear hb6
      go_wp2
      go_ret
      exact ⟨rfl, HB6.out⟩
    · have h14 : (14 : Int) < on := hbig.resolve_left h12
      go_enter Tryd.func12, Tryd.ntmps12
      go_wp2_with fail
      refine (awake_any _ hHT.out).mono ?_
      rintro e w6 ⟨rfl, hb6⟩
      have HB6 := Lib.hid hb6
      clear hb6
      go_wp2
      go_ret
      exact ⟨rfl, HB6.out⟩
  · have h12 : ¬ ((12 : Int) < ln) := fun h => hbig (.inl h)
    have h14 : ¬ ((14 : Int) < on) := fun h => hbig (.inr h)
    have hl12 : l.length ≤ 12 := by rw [Eln.out]; omega
    have ho14 : order.length ≤ 14 := by rw [Eon.out]; omega
    clear hbig
    obtain ⟨r, er⟩ : ∃ r, orderM pages l = r := ⟨_, rfl⟩
    have Hr := Lib.hid er
    have hlr : (r.getD []).length ≤ 12 := by have := order_len (pages := pages) (l := l); rw [er] at this; omega
    clear er
    have H3 := order_any pages l (by omega) Hfit.out _ _ HL1.out hHT.out
    rw [Hr.out] at H3
    have H3 := Lib.hid H3
    go_enter Tryd.func12, Tryd.ntmps12
    go_wp2_with fail
    refine H3.out.mono ?_
    rintro e w3 ⟨⟨av, rfl, ha⟩, hb3⟩
    have HA3 := Lib.hid ha
    have HL3 := Lib.hid (HL1.out.kept (CellsKept.of hb3))
    have HI3 := Lib.hid (HI1.out.kept (CellsKept.of hb3))
    have HB3 := Lib.hid hb3
    clear ha hb3
    have H4 := rorder_gen pages l hl12 Hfit.out _ w3 HL3.out
    rw [Hr.out] at H4
    have H4 := Lib.hid H4
    go_wp2_with fail
    refine H4.out.mono ?_
    rintro e w4 ⟨⟨bv, rfl, hbv⟩, hb4⟩
    have HC4 := Lib.hid hbv
    have HA4 := Lib.hid (HA3.out.kept (CellsKept.of hb4))
    have HL4 := Lib.hid (HL3.out.kept (CellsKept.of hb4))
    have HI4 := Lib.hid (HI3.out.kept (CellsKept.of hb4))
    have HB4 := Lib.hid (below_more HB3.out hb4)
    clear hbv hb4
    have H5 := sameInts_any (r.getD []) (r.getD []) (by omega) av bv w4 HA4.out HC4.out
    rw [decide_eq_true (rfl : r.getD [] = r.getD [])] at H5
    have H5 := Lib.hid H5
    generalize r.isSome = bo at *
    go_wp2_with fail
    refine H5.out.mono ?_
    rintro e w5 ⟨rfl, hb5⟩
    have HL5 := Lib.hid (HL4.out.kept (CellsKept.of hb5))
    have HI5 := Lib.hid (HI4.out.kept (CellsKept.of hb5))
    have HB5 := Lib.hid (below_more HB4.out hb5)
    clear hb5
    have H6 := Lib.hid (may_any l (by omega) _ w5 HL5.out)
    go_wp2_with fail
    refine H6.out.mono ?_
    rintro e w6 ⟨rfl, hb6⟩
    have HL6 := Lib.hid (HL5.out.kept (CellsKept.of hb6))
    have HI6 := Lib.hid (HI5.out.kept (CellsKept.of hb6))
    have HB6 := Lib.hid (below_more HB5.out hb6)
    clear hb6
    have H7 := Lib.hid (rmay_any l (by omega) _ w6 HL6.out)
    go_wp2_with fail
    refine H7.out.mono ?_
    rintro e w7 ⟨rfl, hb7⟩
    have HL7 := Lib.hid (HL6.out.kept (CellsKept.of hb7))
    have HI7 := Lib.hid (HI6.out.kept (CellsKept.of hb7))
    have HB7 := Lib.hid (below_more HB6.out hb7)
    clear hb7
    have H8 := Lib.hid (fits_any pages l (by omega) Hfit.out order (by omega) _ _ w7 HL7.out HI7.out (hHT.out.below HB7.out))
    go_wp2_with fail
    refine H8.out.mono ?_
    rintro e w8 ⟨rfl, hb8⟩
    have HL8 := Lib.hid (HL7.out.kept (CellsKept.of hb8))
    have HI8 := Lib.hid (HI7.out.kept (CellsKept.of hb8))
    have HB8 := Lib.hid (below_more HB7.out hb8)
    clear hb8
    have H9 := Lib.hid (rfits_gen pages l hl12 Hfit.out order (by omega) _ _ w8 HL8.out HI8.out)
    go_wp2_with fail
    refine H9.out.mono ?_
    rintro e w9 ⟨rfl, hb9⟩
    have HB9 := Lib.hid (below_more HB8.out hb9)
    clear hb9
    go_wp2_with fail
    refine (awake_any _ (hHT.out.below HB9.out)).mono ?_
    rintro e w12 ⟨rfl, hb12⟩
    have HB12 := Lib.hid (below_more HB9.out hb12)
    clear hb12
    go_wp2
    go_ret
    exact ⟨rfl, HB12.out⟩
end Go.Proofs.YtomheapokfphiaaDoor
