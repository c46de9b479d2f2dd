/-
  The contract of the document's May.
-/
import Derived.Test.YtkdigojjeiidmaaDoorAt
namespace Go.Proofs.YtkdigojjeiidmaaDoor
open Go Go.RowKit Go.Shelf

theorem may1 (a : Int) (L : List Int) : mayM ⟨1, a, L⟩ = (decide (0 ≤ a) && decide (L.length = 0)) := by
  rcases Nat.eq_zero_or_pos L.length with h | h
  · simp [mayM, h]
  · have hne : L ≠ [] := List.ne_nil_of_length_pos h
    simp [mayM, hne, List.length_pos_iff]
theorem may2 (a : Int) (L : List Int) : mayM ⟨2, a, L⟩ = (decide (a = 0) && decide (L.length = 0)) := by
  rcases Nat.eq_zero_or_pos L.length with h | h
  · simp [mayM, h]
  · have hne : L ≠ [] := List.ne_nil_of_length_pos h
    simp [mayM, hne, List.length_pos_iff]
theorem may35 {k : Int} (hk : k = 3 ∨ k = 5) (a : Int) (L : List Int) : mayM ⟨k, a, L⟩ = (someM a && decide (L.length = 0)) := by
  rcases hk with rfl | rfl <;> rcases Nat.eq_zero_or_pos L.length with h | h
  · simp [mayM, h]
  · have hne : L ≠ [] := List.ne_nil_of_length_pos h
    simp [mayM, hne, List.length_pos_iff]
  · simp [mayM, h]
  · have hne : L ≠ [] := List.ne_nil_of_length_pos h
    simp [mayM, hne, List.length_pos_iff]
theorem may4 (a : Int) (L : List Int) : mayM ⟨4, a, L⟩ = ((decide (a = 0) || decide (a = 1)) && (namesOk L && decide (L.length ≤ 8))) := by simp [mayM]
theorem may_no {k : Int} (h1 : k ≠ 1) (h2 : k ≠ 2) (h3 : k ≠ 3) (h4 : k ≠ 4) (h5 : k ≠ 5) (a : Int) (L : List Int) : mayM ⟨k, a, L⟩ = false := by simp [mayM, h1, h2, h3, h4, h5]

set_option maxRecDepth 8000 in
set_option maxHeartbeats 3200000 in
theorem refmay_any (o : CallP) (lv : Value) (w : World) (h : IntsAt w lv o.L) (hl : o.L.length ≤ 9223372036854775807) :
    Calls Tryd.prog 15 #[callV o lv] w fun e w' => e = .returned (.bool (mayM o)) ∧ Below w.heap.size w w' := by
  obtain ⟨ad, cap, rfl⟩ := intsAt_shape h
  obtain ⟨k, a, L⟩ := o
  simp only [callV] at *
  have HK := World.alloc_heap_new w (.cells #[.int .i64 k, .int .i64 a, .slice ad L.length cap] 36)
  have hb := new_below (w := w) (.cells #[.int .i64 k, .int .i64 a, .slice ad L.length cap] 36)
  have H := Lib.hid (h.kept (CellsKept.of hb))
  have HB := Lib.hid hb
  have HKb := Lib.hid HK
  clear h hb HK
  obtain ⟨n, en⟩ : ∃ n, L.length = n := ⟨_, rfl⟩
  obtain ⟨b, eb⟩ : ∃ b, mayM ⟨k, a, L⟩ = b := ⟨_, rfl⟩
  have Eb := Lib.hid eb
  have En := Lib.hid en
  rw [eb]
  rw [en] at hl H HB HKb ⊢
  clear eb en
  obtain ⟨W1, eW⟩ : ∃ W1, w.alloc (.cells #[.int .i64 k, .int .i64 a, .slice ad n cap] 36) = W1 := ⟨_, rfl⟩
  go_enter Tryd.func15, Tryd.ntmps15
  go_upto_region 1 with (fail)
  rw [eW] at H HB HKb
  try rw [eW]
  clear eW
  have c0 := blk_cell HKb.out 0
  have c1 := blk_cell HKb.out 1
  have c2 := blk_cell HKb.out 2
  simp at c0 c1 c2
  obtain ⟨m, em⟩ : ∃ m, (someM a && decide (n = 0)) = m := ⟨_, rfl⟩
  go_cut [3] (fun s3 wx => s3 = .bool m ∧ wx = W1)
  case first =>
    have Em := Lib.hid em
    clear em
    by_cases h1 : 1 ≤ a
    · have d1 : decide (1 ≤ a) = true := decide_eq_true h1
      by_cases h2 : a ≤ 4096
      · have d2 : decide (a ≤ 4096) = true := decide_eq_true h2
        rcases Nat.eq_zero_or_pos n with rfl | hn
        · obtain rfl : m = true := by rw [← Em.out]; unfold someM; rw [d1, d2]; rfl
          go_wp2
          go_meet
          exact ⟨rfl, rfl⟩
        · obtain rfl : m = false := by rw [← Em.out, decide_eq_false (by omega), Bool.and_false]
          have hz : ((n : Int) == 0) = false := by simp; omega
          go_wp2
          go_meet
          exact ⟨rfl, rfl⟩
      · have d2 : decide (a ≤ 4096) = false := decide_eq_false h2
        obtain rfl : m = false := by rw [← Em.out]; unfold someM; rw [d2, Bool.and_false, Bool.false_and]
        go_wp2
        go_meet
        exact ⟨rfl, rfl⟩
    · have d1 : decide (1 ≤ a) = false := decide_eq_false h1
      obtain rfl : m = false := by rw [← Em.out]; unfold someM; rw [d1]; rfl
      go_wp2
      go_meet
      exact ⟨rfl, rfl⟩
  case rest =>
    obtain ⟨rfl, rfl⟩ := hcut
    have Em := Lib.hid em
    clear em
    by_cases k1 : k = 1
    · subst k1
      have hb := Eb.out
      rw [may1, En.out] at hb
      by_cases h0 : 0 ≤ a
      · have d0 : decide (0 ≤ a) = true := decide_eq_true h0
        rcases Nat.eq_zero_or_pos n with rfl | hn
        · obtain rfl : b = true := by rw [← hb, d0]; rfl
          go_wp2
          go_ret
          exact ⟨rfl, HB.out⟩
        · have hz : ((n : Int) == 0) = false := by simp; omega
          obtain rfl : b = false := by rw [← hb, decide_eq_false (show ¬ n = 0 by omega), Bool.and_false]
          go_wp2
          go_ret
          exact ⟨rfl, HB.out⟩
      · have d0 : decide (0 ≤ a) = false := decide_eq_false h0
        obtain rfl : b = false := by rw [← hb, d0]; rfl
        go_wp2
        go_ret
        exact ⟨rfl, HB.out⟩
    by_cases k2 : k = 2
    · subst k2
      have hb := Eb.out
      rw [may2, En.out] at hb
      by_cases h0 : a = 0
      · subst h0
        rcases Nat.eq_zero_or_pos n with rfl | hn
        · obtain rfl : b = true := by rw [← hb]; rfl
          go_wp2
          go_ret
          exact ⟨rfl, HB.out⟩
        · have hz : ((n : Int) == 0) = false := by simp; omega
          obtain rfl : b = false := by rw [← hb, decide_eq_false (show ¬ n = 0 by omega), Bool.and_false]
          go_wp2
          go_ret
          exact ⟨rfl, HB.out⟩
      · have d0 : (a == 0) = false := by simp [h0]
        obtain rfl : b = false := by rw [← hb, decide_eq_false h0]; rfl
        go_wp2
        go_ret
        exact ⟨rfl, HB.out⟩
    have t1 : (k == 1) = false := by simp [k1]
    have t2 : (k == 2) = false := by simp [k2]
    by_cases k3 : k = 3
    · subst k3
      obtain rfl : b = m := by rw [← Eb.out, may35 (.inl rfl), En.out]; exact Em.out
      go_wp2
      go_ret
      exact ⟨rfl, HB.out⟩
    by_cases k5 : k = 5
    · subst k5
      obtain rfl : b = m := by rw [← Eb.out, may35 (.inr rfl), En.out]; exact Em.out
      go_wp2
      go_ret
      exact ⟨rfl, HB.out⟩
    have t3 : (k == 3) = false := by simp [k3]
    have t5 : (k == 5) = false := by simp [k5]
    by_cases k4 : k = 4
    · subst k4
      have hb := Eb.out
      rw [may4, En.out] at hb
      by_cases h0 : a < 0
      · have d0 : decide (a < 0) = true := decide_eq_true h0
        obtain rfl : b = false := by rw [← hb, decide_eq_false (show ¬ a = 0 by omega), decide_eq_false (show ¬ a = 1 by omega)]; rfl
        go_wp2
        go_ret
        exact ⟨rfl, HB.out⟩
      have d0 : decide (a < 0) = false := decide_eq_false h0
      by_cases h1 : 1 < a
      · have d1 : decide (1 < a) = true := decide_eq_true h1
        obtain rfl : b = false := by rw [← hb, decide_eq_false (show ¬ a = 0 by omega), decide_eq_false (show ¬ a = 1 by omega)]; rfl
        go_wp2
        go_ret
        exact ⟨rfl, HB.out⟩
      have d1 : decide (1 < a) = false := decide_eq_false h1
      have ha : (decide (a = 0) || decide (a = 1)) = true := by
        rcases (show a = 0 ∨ a = 1 by omega) with rfl | rfl <;> rfl
      rw [ha, Bool.true_and] at hb
      by_cases h8 : 8 < n
      · have d8 : decide ((8 : Int) < (n : Int)) = true := decide_eq_true (by omega)
        obtain rfl : b = false := by rw [← hb, decide_eq_false (show ¬ n ≤ 8 by omega), Bool.and_false]
        go_wp2
        go_ret
        exact ⟨rfl, HB.out⟩
      have d8 : decide ((8 : Int) < (n : Int)) = false := decide_eq_false (by omega)
      rw [decide_eq_true (show n ≤ 8 by omega), Bool.and_true] at hb
      have Hb := Lib.hid hb
      clear hb
      go_wp2_with fail
      clear c0 c1 c2
      go_loopw [4] (fun i wr => ∃ q : Nat, q ≤ n ∧ i = .int .i64 q ∧ Hid (∀ j, j < q → okAt L j = true) ∧ Below wc.heap.size wc wr) (fun i _ => n - (intOf i).toNat)
      case atStart => exact ⟨0, by omega, rfl, fun j hj => by omega, Below.refl _ _⟩
      case round =>
        obtain ⟨q, hq, rfl, hall, hbr⟩ := hrel
        obtain ⟨Wo, hWo⟩ : ∃ Wo, Wo = wr := ⟨_, rfl⟩
        subst hWo
        have c2 := blk_cell ((hbr.block _ (Array.getElem?_eq_some_iff.1 HKb.out).1).trans HKb.out) 2
        simp at c2
        have HBr := Lib.hid hbr
        clear hbr
        by_cases hlt : q < n
        · have hqi : (q : Int) < n := by omega
          obtain ⟨g, c, cap', hv, hg, hc⟩ := intsAt_cell (H.out.kept (CellsKept.of HBr.out)) (k := q) (by rw [En.out]; exact hlt)
          obtain rfl : ad = some ⟨g, c, none⟩ := by injection hv
          clear hv
          have Hstep := Lib.hid (fun (e : okAt L q = true) j (hj : j < q + 1) => (if hjk : j = q then (by rw [hjk]; exact e) else hall.out j (by omega) : okAt L j = true))
          have Hbad := Lib.hid (fun (e : okAt L q = false) => (by rw [← Hb.out, namesOk_false (by rw [En.out]; exact hlt) e] : b = false))
          by_cases h0 : L.getD q 0 < 0
          · have d0 : decide (L.getD q 0 < 0) = true := decide_eq_true h0
            have hbf := Hbad.out (by unfold okAt; rw [decide_eq_false (by omega), Bool.false_and])
            subst hbf
            clear hall
            generalize L.getD q 0 = x at *
            go_wp2_with fail
            go_quiet (fail)
            go_wp2
            go_ret
            exact ⟨rfl, draw_below (below_more HB.out HBr.out) _⟩
          · have d0 : decide (L.getD q 0 < 0) = false := decide_eq_false h0
            by_cases hk0 : q = 0
            · subst hk0
              rw [Nat.add_zero] at hc
              have hok : okAt L 0 = true := by unfold okAt; rw [decide_eq_true (by omega)]; rfl
              have HS := Lib.hid (Hstep.out hok)
              clear hok hall
              generalize L.getD 0 0 = x at *
              go_wp2_with fail
              go_quiet (fail)
              go_wp2_with fail
              go_roundw
              case rel => exact ⟨1, by omega, by go_num, HS.out, draw_below HBr.out _⟩
              case measure => simp [intOf]; omega
            · obtain ⟨g', c', cap'', hv, _, hc'⟩ := intsAt_cell (H.out.kept (CellsKept.of HBr.out)) (k := q - 1) (by rw [En.out]; omega)
              obtain ⟨rfl, rfl⟩ : g = g' ∧ c = c' := by injection hv with e; injection e with e; injection e with e1 e2; exact ⟨e1, e2⟩
              clear hv
              obtain ⟨p, rfl⟩ : ∃ p, q = p + 1 := ⟨q - 1, by omega⟩
              have e1 : p + 1 - 1 = p := by omega
              rw [e1] at hc'
              have dk : decide ((0 : Int) < ((p + 1 : Nat) : Int)) = true := decide_eq_true (by omega)
              have hokm : okAt L (p + 1) = (decide (0 ≤ L.getD (p + 1) 0) && decide (L.getD p 0 < L.getD (p + 1) 0)) := by unfold okAt; rw [e1]; simp
              rw [hokm] at Hstep Hbad
              have hpi : (p : Int) < (n : Int) := by omega
              clear hokm hall e1
              generalize L.getD (p + 1) 0 = x at *
              generalize L.getD p 0 = y at *
              by_cases hxy : x ≤ y
              · have dx : decide (x ≤ y) = true := decide_eq_true hxy
                have hbf := Hbad.out (by rw [decide_eq_false (show ¬ y < x by omega), Bool.and_false])
                subst hbf
                go_wp2_with fail
                go_quiet (fail)
                go_wp2
                go_ret
                exact ⟨rfl, draw_below (below_more HB.out HBr.out) _⟩
              · have dx : decide (x ≤ y) = false := decide_eq_false hxy
                have HS := Lib.hid (Hstep.out (by rw [decide_eq_true (show 0 ≤ x by omega), decide_eq_true (show y < x by omega)]; rfl))
                clear Hstep Hbad
                go_wp2_with fail
                go_quiet (fail)
                go_wp2_with fail
                go_roundw
                case rel => exact ⟨p + 1 + 1, by omega, by go_num, HS.out, draw_below HBr.out _⟩
                case measure => simp [intOf]; omega
        · obtain rfl : q = n := by omega
          obtain rfl : b = true := by rw [← Hb.out]; exact namesOk_all (fun i hi => hall.out i (by rw [En.out] at hi; exact hi))
          clear hall
          go_wp2
          go_ret
          exact ⟨rfl, below_more HB.out HBr.out⟩
    · have t4 : (k == 4) = false := by simp [k4]
      obtain rfl : b = false := by rw [← Eb.out]; exact may_no k1 k2 k3 k4 k5 a L
      go_wp2
      go_ret
      exact ⟨rfl, HB.out⟩
end Go.Proofs.YtkdigojjeiidmaaDoor
