/-
  The contract of r1.SameInts.
-/
import Derived.Test.YtomheapokfphiaaDoorRawLeaf
namespace Go.Proofs.YtomheapokfphiaaDoor
open Go Go.RowKit Go.Shelf

theorem same_ints {A B : List Int} (hl : A.length = B.length) (h : ∀ j : Nat, j < B.length → A.getD j 0 = B.getD j 0) : A = B := by
  apply List.ext_getElem hl
  intro i h1 h2
  have := h i h2
  rw [List.getD_eq_getElem?_getD, List.getD_eq_getElem?_getD, List.getElem?_eq_getElem h1, List.getElem?_eq_getElem h2] at this
  exact this

set_option maxHeartbeats 1600000 in
theorem sameInts_any (A B : List Int) (hA : A.length ≤ 1048576) (a b : Value) (w : World) (ha : IntsAt w a A) (hb : IntsAt w b B) :
    Calls Tryd.prog 37 #[a, b] w fun e w' => e = .returned (.bool (decide (A = B))) ∧ Below w.heap.size w w' := by
  have HA := Lib.hid ha
  have HB := Lib.hid hb
  obtain ⟨ad, cap, rfl, _⟩ := ha
  obtain ⟨bd, bcap, rfl, _⟩ := hb
  by_cases hl : A.length = B.length
  · rw [hl] at HA
    rw [hl]
    go_enter Tryd.func37, Tryd.ntmps37
    go_wp2_with fail
    go_loopw [5] (fun i wr => ∃ k : Nat, k ≤ B.length ∧ i = .int .i64 k ∧ (∀ j : Nat, j < k → A.getD j 0 = B.getD j 0) ∧ Below w.heap.size w wr) (fun i _ => B.length - (intOf i).toNat)
    case atStart => exact ⟨0, Nat.zero_le _, rfl, fun j hj => absurd hj (Nat.not_lt_zero j), Below.refl _ _⟩
    case round =>
      obtain ⟨k, hk, rfl, hno, hbw⟩ := hrel
      have Hno := Lib.hid hno
      have Hbw := Lib.hid hbw
      by_cases hlt : k < B.length
      · have hak : k < A.length := by omega
        obtain ⟨g, go, cap', hv, hg, c0⟩ := intsAt_cell (HA.out.kept (CellsKept.of hbw)) hak
        obtain ⟨g', g'o, bcap', hv', hg', c0'⟩ := intsAt_cell (HB.out.kept (CellsKept.of hbw)) hlt
        obtain ⟨rfl, rfl⟩ : ad = some ⟨g, go, none⟩ ∧ cap = cap' := by injection hv with h1 h2 h3; exact ⟨h1, h3⟩
        obtain ⟨rfl, rfl⟩ : bd = some ⟨g', g'o, none⟩ ∧ bcap = bcap' := by injection hv' with h1 h2 h3; exact ⟨h1, h3⟩
        have hkI : (k : Int) < B.length := by omega
        obtain ⟨x, ex⟩ : ∃ x, A.getD k 0 = x := ⟨_, rfl⟩
        obtain ⟨y, ey⟩ : ∃ y, B.getD k 0 = y := ⟨_, rfl⟩
        rw [ex] at c0
        rw [ey] at c0'
        have Ex := Lib.hid ex
        have Ey := Lib.hid ey
        clear hno hbw hv hv' ex ey
        by_cases hxy : x = y
        · subst hxy
          go_wp2_with fail
          go_quiet (fail)
          go_wp2
          go_roundw
          case rel => exact ⟨k + 1, hlt, by go_num, fun j hj => by
            rcases Nat.lt_or_ge j k with h | h
            · exact Hno.out j h
            · obtain rfl : j = k := by omega
              exact Ex.out.trans Ey.out.symm, (have h := Hbw.out; ⟨h.os, h.tape, h.output, h.size, h.block⟩)⟩
          case measure => simp [intOf]; omega
        · have hxy' : (x != y) = true := by simpa using hxy
          go_wp2_with fail
          go_quiet (fail)
          go_wp2
          go_ret
          refine ⟨?_, (have h := Hbw.out; ⟨h.os, h.tape, h.output, h.size, h.block⟩)⟩
          rw [decide_eq_false (fun e => hxy (by rw [← Ex.out, ← Ey.out, e]))]; rfl
      · obtain rfl : k = B.length := by omega
        clear hno hbw
        go_wp2
        go_ret
        refine ⟨?_, Hbw.out⟩
        rw [decide_eq_true (same_ints hl Hno.out)]; rfl
  · have hl' : ((A.length : Int) != (B.length : Int)) = true := by simp; omega
    go_enter Tryd.func37, Tryd.ntmps37
    go_wp2
    go_ret
    refine ⟨?_, Below.refl _ _⟩
    rw [decide_eq_false (fun e => hl (by rw [e]))]; rfl
end Go.Proofs.YtomheapokfphiaaDoor
