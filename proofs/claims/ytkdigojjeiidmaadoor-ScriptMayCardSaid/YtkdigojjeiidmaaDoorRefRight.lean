/-
  The contract of the document's Right.
-/
import Derived.Test.YtkdigojjeiidmaaDoorRight
import Derived.Test.YtkdigojjeiidmaaDoorRefMay
namespace Go.Proofs.YtkdigojjeiidmaaDoor
open Go Go.RowKit Go.Shelf

theorem badL_hit {cl : List CallP} {o : CallP} {q : Nat} (ho : cl[q]? = some o) (hm : mayM o = false) : badL cl = true := by
  unfold badL
  rw [any_hit ho (by unfold badM; rw [hm]; rfl), Bool.or_true]

set_option maxRecDepth 8000 in
set_option maxHeartbeats 3200000 in
theorem refright_any (p t : Int) (dv : Value) (ls : List (List CallP)) (v : Value) (w : World) (h : ListsAt w v ls) (hl : ListsLen ls) :
    Calls Tryd.prog 19 #[.agg #[.int .i64 p, .int .i64 t, dv], v] w fun e w' => e = .returned (.int .i64 (rightM p t ls)) ∧ Below w.heap.size w w' := by
  have hb := new_below (w := w) (.cells #[.int .i64 p, .int .i64 t, dv] 25)
  have HK := World.alloc_heap_new w (.cells #[.int .i64 p, .int .i64 t, dv] 25)
  have HL := Lib.hid (reflayout_any p t (w.alloc (.cells #[.int .i64 p, .int .i64 t, dv] 25)))
  have H := Lib.hid h
  have Hl := Lib.hid hl.2
  obtain ⟨ad, cap, rfl⟩ := h.shape
  have hn := hl.1
  have HB := Lib.hid hb
  have HKb := Lib.hid HK
  unfold rightM
  obtain ⟨b, eb⟩ : ∃ b, ls.any badL = b := ⟨_, rfl⟩
  obtain ⟨n, en⟩ : ∃ n, ls.length = n := ⟨_, rfl⟩
  have Eb := Lib.hid eb
  have En := Lib.hid en
  rw [eb]
  rw [en] at hn H ⊢
  generalize layM p t = q at *
  clear h hl hb HK eb en
  have Hc := Lib.hid (fun w' (k : Below (w.alloc (.cells #[.int .i64 p, .int .i64 t, dv] 25)).heap.size (w.alloc (.cells #[.int .i64 p, .int .i64 t, dv] 25)) w') => blk_cell ((k.block w.heap.size (by simp)).trans HKb.out) 1)
  cases q with
  | false =>
    go_enter Tryd.func19, Tryd.ntmps19
    go_wp2_with fail
    refine HL.out.mono ?_
    rintro e w1 ⟨rfl, hb1⟩
    have HB1 := Lib.hid (below_more HB.out hb1)
    clear hb1
    go_wp2
    go_ret
    exact ⟨rfl, HB1.out⟩
  | true =>
    rw [if_neg (by decide)]
    by_cases ht : (n : Int) = t
    · subst ht
      rw [show ((n : Int) != (n : Int)) = false by simp, Bool.false_or]
      go_enter Tryd.func19, Tryd.ntmps19
      go_wp2_with fail
      refine HL.out.mono ?_
      rintro e w1 ⟨rfl, hb1⟩
      have HB1 := Lib.hid (below_more HB.out hb1)
      have c1 := Hc.out w1 hb1
      simp at c1
      clear hb1
      go_wp2_with fail
      clear c1
      go_loopw [5] (fun i wr => ∃ k : Nat, k ≤ n ∧ i = .int .i64 k ∧ Hid ((ls.take k).any badL = false) ∧ Below w.heap.size w wr) (fun i _ => n - (intOf i).toNat)
      case atStart => exact ⟨0, by omega, rfl, rfl, HB1.out⟩
      case round =>
        obtain ⟨k, hk, rfl, hall, hb⟩ := hrel
        obtain ⟨Wo, hWo⟩ : ∃ Wo, Wo = wr := ⟨_, rfl⟩
        subst hWo
        have HBr := Lib.hid hb
        clear hb
        by_cases hlt : k < n
        · have hki : (k : Int) < n := by omega
          obtain ⟨cl, g, c, cap', cv, ho, hv, c0, hC⟩ := (H.out.kept (CellsKept.of HBr.out)).at (k := k) (by rw [En.out]; exact hlt)
          obtain rfl : ad = some ⟨g, c, none⟩ := by injection hv
          have hcl := Hl.out cl (List.mem_of_getElem? ho)
          have hm := hcl.1
          have Hgood := Lib.hid (fun hb : badL cl = false => anyL_take hall.out ho hb)
          have Hhit := Lib.hid (fun hb : badL cl = true => (Eb.out.symm.trans (anyL_hit ho hb) : b = true))
          obtain ⟨la, lc, rfl⟩ := hC.shape
          have HC := Lib.hid hC
          have Hcl := Lib.hid hcl.2
          obtain ⟨m, em⟩ : ∃ m, cl.length = m := ⟨_, rfl⟩
          rw [em] at hm HC c0
          have Em := Lib.hid em
          have Hc0 := Lib.hid c0
          clear hv ho hC hall hcl em
          by_cases h40 : 40 < m
          · have d40 : decide ((40 : Int) < (m : Int)) = true := decide_eq_true (by omega)
            obtain rfl := Hhit.out (by unfold badL; rw [Em.out, decide_eq_true h40]; rfl)
            go_wp2
            go_ret
            exact ⟨rfl, HBr.out⟩
          have d40 : decide ((40 : Int) < (m : Int)) = false := decide_eq_false (by omega)
          go_wp2_with fail
          go_loopw [6] (fun i wr => ∃ q : Nat, q ≤ m ∧ i = .int .i64 q ∧ Hid ((cl.take q).any badM = false) ∧ Below Wo.heap.size Wo wr) (fun i _ => m - (intOf i).toNat)
          case atStart => exact ⟨0, by omega, rfl, rfl, Below.refl _ _⟩
          case round =>
            clear c0
            obtain ⟨q, hq, rfl, hallm, hb⟩ := hrel
            obtain ⟨Wi, hWi⟩ : ∃ Wi, Wi = wr := ⟨_, rfl⟩
            subst hWi
            have HBi := Lib.hid hb
            clear hb
            have c0 := (CellsKept.of HBi.out).cell Hc0.out
            by_cases hqm : q < m
            · have hqi : (q : Int) < m := by omega
              obtain ⟨o, g2, c2, cap2, lv, ho, hv, e0, e1, e2, hI⟩ := (HC.out.kept (CellsKept.of HBi.out)).at (k := q) (by rw [Em.out]; exact hqm)
              obtain rfl : la = some ⟨g2, c2, none⟩ := by injection hv
              have HM := Lib.hid (refmay_any o lv Wi hI (Hcl.out o (List.mem_of_getElem? ho)))
              have Hgm := Lib.hid (fun hb : mayM o = true => any_take hallm.out ho (by unfold badM; rw [hb]; rfl))
              have Hhm := Lib.hid (fun hb : mayM o = false => Hhit.out (badL_hit ho hb))
              obtain ⟨ia, ic, rfl⟩ := intsAt_shape hI
              unfold callV at HM
              generalize mayM o = mb at *
              obtain ⟨ok, oa, oL⟩ := o
              simp only at *
              generalize oL.length = ol at *
              clear hv ho hI hallm
              go_wp2_with fail
              refine HM.out.mono ?_
              rintro e w3 ⟨rfl, hb3⟩
              have HB3 := Lib.hid (below_more HBi.out hb3)
              clear hb3 c0 e0 e1 e2
              cases mb with
              | false =>
                obtain rfl := Hhm.out rfl
                go_wp2
                go_ret
                exact ⟨rfl, below_more HBr.out HB3.out⟩
              | true =>
                have HG := Lib.hid (Hgm.out rfl)
                go_wp2_with fail
                go_roundw
                case rel => exact ⟨q + 1, by omega, by go_num, HG.out, HB3.out⟩
                case measure => simp [intOf]; omega
            · obtain rfl : q = m := by omega
              have HG := Lib.hid (Hgood.out (by
                have := hallm.out
                rw [List.take_of_length_le (by rw [Em.out]; exact Nat.le_refl _)] at this
                unfold badL
                rw [this, Em.out, decide_eq_false h40]; rfl))
              clear hallm
              go_wp2_with fail
              go_roundw
              case rel => exact ⟨k + 1, by omega, by go_num, HG.out, below_more HBr.out HBi.out⟩
              case measure => simp [intOf]; omega
        · obtain rfl : k = n := by omega
          have hbf : b = false := by rw [← Eb.out]; have := hall.out; rwa [List.take_of_length_le (by rw [En.out]; exact Nat.le_refl _)] at this
          subst hbf
          clear hall
          go_wp2
          go_ret
          exact ⟨rfl, HBr.out⟩
    · have d : ((n : Int) != t) = true := by simp [ht]
      rw [d, Bool.true_or, if_pos rfl]
      go_enter Tryd.func19, Tryd.ntmps19
      go_wp2_with fail
      refine HL.out.mono ?_
      rintro e w1 ⟨rfl, hb1⟩
      have HB1 := Lib.hid (below_more HB.out hb1)
      have c1 := Hc.out w1 hb1
      simp at c1
      clear hb1
      go_wp2
      go_ret
      exact ⟨rfl, HB1.out⟩
end Go.Proofs.YtkdigojjeiidmaaDoor
