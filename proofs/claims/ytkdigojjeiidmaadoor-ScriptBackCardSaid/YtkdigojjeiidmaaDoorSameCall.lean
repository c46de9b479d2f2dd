/-
  The contract of SameCall.
-/
import Derived.Test.YtkdigojjeiidmaaDoorCall
namespace Go.Proofs.YtkdigojjeiidmaaDoor
open Go Go.RowKit Go.Shelf

def sameC (o p : CallP) : Bool := decide (o.kind = p.kind ∧ o.a = p.a ∧ o.L = p.L)
theorem sameC_self (o : CallP) : sameC o o = true := decide_eq_true ⟨rfl, rfl, rfl⟩
theorem intsAt_shape {w : World} {v : Value} {L : List Int} (h : IntsAt w v L) : ∃ ad cap, v = .slice ad L.length cap := by
  obtain ⟨ad, cap, rfl, _⟩ := h
  exact ⟨ad, cap, rfl⟩
theorem take_succ_eq {L M : List Int} {k : Nat} (h : L.take k = M.take k) (hL : k < L.length) (hM : k < M.length) (he : L.getD k 0 = M.getD k 0) : L.take (k + 1) = M.take (k + 1) := by
  rw [List.take_succ_eq_append_getElem hL, List.take_succ_eq_append_getElem hM, h]
  simp only [List.getD_eq_getElem?_getD, List.getElem?_eq_getElem hL, List.getElem?_eq_getElem hM, Option.getD_some] at he
  rw [he]
theorem take_ne {L M : List Int} {k : Nat} (he : L.getD k 0 ≠ M.getD k 0) : L ≠ M := fun h => he (by rw [h])
def SameLoop (B : World) (L M : List Int) (k : Nat) (wr : World) : Prop := L.take k = M.take k ∧ Below B.heap.size B wr

set_option maxHeartbeats 1600000 in
theorem sameCall_any (o p : CallP) (lv mv : Value) (w : World) (h1 : IntsAt w lv o.L) (h2 : IntsAt w mv p.L) (hl : o.L.length ≤ 9223372036854775807) :
    Calls Tryd.prog 22 #[callV o lv, callV p mv] w fun e w' => e = .returned (.bool (sameC o p)) ∧ Below w.heap.size w w' := by
  obtain ⟨ld, lcap, rfl⟩ := intsAt_shape h1
  obtain ⟨md, mcap, rfl⟩ := intsAt_shape h2
  obtain ⟨k1, a1, L⟩ := o
  obtain ⟨k2, a2, M⟩ := p
  simp only [callV] at *
  have H1 := Lib.hid h1
  have H2 := Lib.hid h2
  clear h1 h2
  by_cases ek : k1 = k2
  · subst ek
    by_cases ea : a1 = a2
    · subst ea
      by_cases el : L.length = M.length
      · obtain ⟨n, en⟩ : ∃ n, L.length = n := ⟨_, rfl⟩
        have EL := Lib.hid en
        have EM := Lib.hid (el.symm.trans en)
        rw [← el, en]
        rw [en] at hl
        clear el en
        obtain ⟨b, eb⟩ : ∃ b, sameC ⟨k1, a1, L⟩ ⟨k1, a1, M⟩ = b := ⟨_, rfl⟩
        have Eb := Lib.hid (show b = decide (L = M) by rw [← eb]; simp [sameC])
        rw [eb]
        clear eb
        go_enter Tryd.func22, Tryd.ntmps22
        go_wp2_with fail
        obtain ⟨W2, eW⟩ : ∃ W2, (w.alloc (.cells #[.int .i64 k1, .int .i64 a1, .slice ld n lcap] 36)).alloc (.cells #[.int .i64 k1, .int .i64 a1, .slice md n mcap] 36) = W2 := ⟨_, rfl⟩
        have hb0 : W2.heap[w.heap.size]? = some (.cells #[.int .i64 k1, .int .i64 a1, .slice ld n lcap] 36 (0, 0)) := by rw [← eW]; exact (Below.heap_alloc _ _ _ (by simp)).trans (World.alloc_heap_new _ _)
        have hb1 : W2.heap[w.heap.size + 1]? = some (.cells #[.int .i64 k1, .int .i64 a1, .slice md n mcap] 36 (0, 0)) := by
          rw [← eW]
          have : (w.alloc (.cells #[.int .i64 k1, .int .i64 a1, .slice ld n lcap] 36)).heap.size = w.heap.size + 1 := by simp
          rw [← this]
          exact World.alloc_heap_new _ _
        have hbw : Below w.heap.size w W2 := by rw [← eW]; exact ((Below.refl _ w).alloc (Nat.le_refl _) _).alloc (by simp) _
        have HB0 := Lib.hid hb0
        have HB1 := Lib.hid hb1
        have HBW := Lib.hid hbw
        clear hb0 hb1 hbw
        rw [eW]
        clear eW
        go_loopw [5] (fun i wr => ∃ k : Nat, k ≤ n ∧ i = .int .i64 k ∧ SameLoop W2 L M k wr) (fun i _ => n - (intOf i).toNat)
        case atStart => exact ⟨0, by omega, rfl, rfl, Below.refl _ _⟩
        case round =>
          obtain ⟨k, hk, rfl, htk, hbr⟩ := hrel
          obtain ⟨Wo, hWo⟩ : ∃ Wo, Wo = wr := ⟨_, rfl⟩
          subst hWo
          have c0 := blk_cell ((hbr.block _ (Array.getElem?_eq_some_iff.1 HB0.out).1).trans HB0.out) 2
          have c1 := blk_cell ((hbr.block _ (Array.getElem?_eq_some_iff.1 HB1.out).1).trans HB1.out) 2
          simp at c0 c1
          have HR := Lib.hid hbr
          have HT := Lib.hid htk
          clear hbr htk
          by_cases hlt : k < n
          · have hki : (k : Int) < n := by omega
            obtain ⟨g, c, cap, hv, hg, hc⟩ := intsAt_cell (H1.out.kept (CellsKept.of (below_more HBW.out HR.out))) (k := k) (by rw [EL.out]; exact hlt)
            obtain ⟨g', c', cap', hv', hg', hc'⟩ := intsAt_cell (H2.out.kept (CellsKept.of (below_more HBW.out HR.out))) (k := k) (by rw [EM.out]; exact hlt)
            obtain rfl : ld = some ⟨g, c, none⟩ := by injection hv
            obtain rfl : md = some ⟨g', c', none⟩ := by injection hv'
            have HS := Lib.hid (fun he => take_succ_eq HT.out (by rw [EL.out]; exact hlt) (by rw [EM.out]; exact hlt) he)
            have HN := Lib.hid (fun he => take_ne (L := L) (M := M) (k := k) he)
            clear hv hv'
            generalize L.getD k 0 = x at *
            generalize M.getD k 0 = y at *
            by_cases hxy : x = y
            · have HX := Lib.hid hxy
              have hne : (x != y) = false := by simp [hxy]
              clear hxy
              go_wp2_with fail
              go_quiet (fail)
              go_wp2_with fail
              go_roundw
              case rel => exact ⟨k + 1, by omega, by go_num, HS.out HX.out, HR.out.trans (draw_below (Below.refl _ _) _)⟩
              case measure => simp [intOf]; omega
            · have HX := Lib.hid hxy
              have hne : (x != y) = true := by simp [hxy]
              clear hxy
              go_wp2_with fail
              go_quiet (fail)
              have hbf : b = false := Eb.out.trans (decide_eq_false (HN.out HX.out))
              subst hbf
              go_wp2
              go_ret
              exact ⟨rfl, draw_below (below_more HBW.out HR.out) _⟩
          · obtain rfl : k = n := by omega
            have he : L = M := by
              have := HT.out
              rw [List.take_of_length_le (by rw [EL.out]; exact Nat.le_refl _), List.take_of_length_le (by rw [EM.out]; exact Nat.le_refl _)] at this
              exact this
            have hbf : b = true := Eb.out.trans (decide_eq_true he)
            clear he
            subst hbf
            go_wp2
            go_ret
            exact ⟨rfl, below_more HBW.out HR.out⟩
      · have hne : ((L.length : Int) != (M.length : Int)) = true := by simp; omega
        rw [show sameC ⟨k1, a1, L⟩ ⟨k1, a1, M⟩ = false from decide_eq_false (fun h => el (congrArg List.length h.2.2))]
        clear el
        generalize L.length = n at *
        generalize M.length = m at *
        go_enter Tryd.func22, Tryd.ntmps22
        go_wp2
        go_ret
        exact ⟨rfl, ((Below.refl _ w).alloc (Nat.le_refl _) _).alloc (by simp) _⟩
    · have hne : (a1 != a2) = true := by simp [ea]
      rw [show sameC ⟨k1, a1, L⟩ ⟨k1, a2, M⟩ = false from decide_eq_false (fun h => ea h.2.1)]
      clear ea
      go_enter Tryd.func22, Tryd.ntmps22
      go_wp2
      go_ret
      exact ⟨rfl, ((Below.refl _ w).alloc (Nat.le_refl _) _).alloc (by simp) _⟩
  · have hne : (k1 != k2) = true := by simp [ek]
    rw [show sameC ⟨k1, a1, L⟩ ⟨k2, a2, M⟩ = false from decide_eq_false (fun h => ek h.1)]
    clear ek
    go_enter Tryd.func22, Tryd.ntmps22
    go_wp2
    go_ret
    exact ⟨rfl, ((Below.refl _ w).alloc (Nat.le_refl _) _).alloc (by simp) _⟩
end Go.Proofs.YtkdigojjeiidmaaDoor
