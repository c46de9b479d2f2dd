/-
  The contract of Right.
-/
import Derived.Test.YtkdigojjeiidmaaDoorAt
namespace Go.Proofs.YtkdigojjeiidmaaDoor
open Go Go.RowKit Go.Shelf

def badM (o : CallP) : Bool := !mayM o
theorem notMay_any (o : CallP) (lv : Value) (w : World) (h : IntsAt w lv o.L) (hl : o.L.length ≤ 9223372036854775807) :
    Calls Tryd.prog 35 #[callV o lv] w fun e w' => e = .returned (.bool (badM o)) ∧ Below w.heap.size w w' := by
  obtain ⟨ad, cap, rfl⟩ : ∃ ad cap, lv = .slice ad o.L.length cap := by obtain ⟨ad, cap, rfl, _⟩ := h; exact ⟨ad, cap, rfl⟩
  obtain ⟨k, a, L⟩ := o
  unfold badM
  have hb := new_below (w := w) (.cells #[.int .i64 k, .int .i64 a, .slice ad L.length cap] 36)
  have HM := Lib.hid (may_any ⟨k, a, L⟩ _ _ (h.kept (CellsKept.of hb)) hl)
  have HB := Lib.hid hb
  simp only [callV] at *
  clear h hb
  generalize mayM ⟨k, a, L⟩ = b at *
  generalize L.length = n at *
  go_enter Tryd.func35, Tryd.ntmps35
  go_wp2_with fail
  refine HM.out.mono ?_
  rintro e w1 ⟨rfl, hb1⟩
  have HB1 := Lib.hid (below_more HB.out hb1)
  clear hb1
  go_wp2
  go_ret
  exact ⟨rfl, HB1.out⟩

def fn35 : Value := .func (.func 35) #[] #[]
theorem any_take {cl : List CallP} {k : Nat} (h : (cl.take k).any badM = false) {o : CallP} (ho : cl[k]? = some o) (hb : badM o = false) : (cl.take (k + 1)).any badM = false := by
  have hk := (List.getElem?_eq_some_iff.1 ho).1
  rw [List.take_succ_eq_append_getElem hk, List.any_append, h]
  rw [List.getElem?_eq_getElem hk] at ho
  simp [Option.some.inj ho, hb]
theorem any_hit {cl : List CallP} {o : CallP} {k : Nat} (ho : cl[k]? = some o) (hb : badM o = true) : cl.any badM = true := List.any_eq_true.2 ⟨o, List.mem_of_getElem? ho, hb⟩

set_option maxHeartbeats 1600000 in
theorem index_calls (cl : List CallP) (v : Value) (w : World) (h : CallsAt w v cl) (hl : CallsLen cl) :
    Calls Tryd.prog 44 #[v, .func (.func 35) #[] #[]] w fun e w' => ∃ r : Int, e = .returned (.int .i64 r) ∧ decide (0 ≤ r) = cl.any badM ∧ Below w.heap.size w w' := by
  obtain ⟨ad, cap, rfl⟩ := h.shape
  obtain ⟨n, en⟩ : ∃ n, cl.length = n := ⟨_, rfl⟩
  obtain ⟨b, eb⟩ : ∃ b, cl.any badM = b := ⟨_, rfl⟩
  have hn := hl.1
  have H := Lib.hid h
  have Hl := Lib.hid hl.2
  have Eb := Lib.hid eb
  rw [en] at hn H ⊢
  have En := Lib.hid en
  rw [eb]
  clear h hl en eb
  go_enter Tryd.func44, Tryd.ntmps44
  go_wp2_with fail
  go_loopw [8] (fun i wr => ∃ k : Nat, k ≤ n ∧ i = .int .i64 k ∧ Hid ((cl.take k).any badM = false) ∧ Below w.heap.size w wr) (fun i _ => n - (intOf i).toNat)
  case atStart => exact ⟨0, by omega, rfl, rfl, Below.refl _ _⟩
  case round =>
    obtain ⟨k, hk, rfl, hall, hb⟩ := hrel
    obtain ⟨Wo, hWo⟩ : ∃ Wo, Wo = wr := ⟨_, rfl⟩
    subst hWo
    have HB := Lib.hid hb
    clear hb
    by_cases hlt : k < n
    · have hki : (k : Int) < n := by omega
      obtain ⟨o, g, c, cap', lv, ho, hv, c0, c1, c2, hI⟩ := (H.out.kept (CellsKept.of HB.out)).at (k := k) (by rw [En.out]; exact hlt)
      obtain rfl : ad = some ⟨g, c, none⟩ := by injection hv
      have HM := Lib.hid (notMay_any o lv Wo hI (Hl.out o (List.mem_of_getElem? ho)))
      have Hgood := Lib.hid (fun hb : badM o = false => any_take hall.out ho hb)
      have Hhit := Lib.hid (fun hb : badM o = true => (Eb.out.symm.trans (any_hit ho hb) : b = true))
      obtain ⟨la, lc, rfl⟩ := intsAt_shape hI
      unfold callV at HM
      generalize badM o = q at *
      obtain ⟨ok, oa, oL⟩ := o
      simp only at *
      generalize oL.length = ol at *
      clear hv ho hI hall
      go_wp2_with fail
      refine HM.out.mono ?_
      rintro e w1 ⟨rfl, hb1⟩
      have HB1 := Lib.hid (below_more HB.out hb1)
      clear hb1 c0 c1 c2
      cases q with
      | true =>
        obtain rfl := Hhit.out rfl
        go_wp2
        go_ret
        exact ⟨_, rfl, decide_eq_true (by omega), HB1.out⟩
      | false =>
        have HG := Lib.hid (Hgood.out rfl)
        go_wp2_with fail
        go_roundw
        case rel => exact ⟨k + 1, by omega, by go_num, HG.out, HB1.out⟩
        case measure => simp [intOf]; omega
    · obtain rfl : k = n := by omega
      have hbf : b = false := by rw [← Eb.out]; have := hall.out; rwa [List.take_of_length_le (by rw [En.out]; exact Nat.le_refl _)] at this
      subst hbf
      clear hall
      go_wp2
      go_ret
      exact ⟨_, rfl, by decide, HB.out⟩
theorem contains_calls (cl : List CallP) (v : Value) (w : World) (h : CallsAt w v cl) (hl : CallsLen cl) :
    Calls Tryd.prog 34 #[v, .func (.func 35) #[] #[]] w fun e w' => e = .returned (.bool (cl.any badM)) ∧ Below w.heap.size w w' := by
  have H := Lib.hid (index_calls cl v w h hl)
  obtain ⟨ad, cap, rfl⟩ := h.shape
  generalize cl.any badM = b at *
  generalize cl.length = n at *
  clear h hl
  go_enter Tryd.func34, Tryd.ntmps34
  go_wp2_with fail
  refine H.out.mono ?_
  rintro e w1 ⟨r, rfl, hr, hb1⟩
  have HB1 := Lib.hid hb1
  clear hb1
  subst hr
  go_wp2
  go_ret
  exact ⟨rfl, HB1.out⟩
def badL (l : List CallP) : Bool := decide (40 < l.length) || l.any badM
theorem bad_list (cl : List CallP) (v : Value) (w : World) (h : CallsAt w v cl) (hl : CallsLen cl) :
    Calls Tryd.prog 33 #[v] w fun e w' => e = .returned (.bool (badL cl)) ∧ Below w.heap.size w w' := by
  have H := Lib.hid (contains_calls cl v w h hl)
  obtain ⟨ad, cap, rfl⟩ := h.shape
  have hn := hl.1
  unfold badL
  generalize cl.any badM = b at *
  generalize cl.length = n at *
  clear h hl
  by_cases h4 : 40 < n
  · have d : decide ((40 : Int) < (n : Int)) = true := decide_eq_true (by omega)
    rw [decide_eq_true h4, Bool.true_or]
    go_enter Tryd.func33, Tryd.ntmps33
    go_wp2
    go_ret
    exact ⟨rfl, Below.refl _ _⟩
  · have d : decide ((40 : Int) < (n : Int)) = false := decide_eq_false (by omega)
    rw [decide_eq_false h4, Bool.false_or]
    go_enter Tryd.func33, Tryd.ntmps33
    go_wp2_with fail
    refine H.out.mono ?_
    rintro e w1 ⟨rfl, hb1⟩
    have HB1 := Lib.hid hb1
    clear hb1
    go_wp2
    go_ret
    exact ⟨rfl, HB1.out⟩
theorem anyL_take {ls : List (List CallP)} {k : Nat} (h : (ls.take k).any badL = false) {o : List CallP} (ho : ls[k]? = some o) (hb : badL o = false) : (ls.take (k + 1)).any badL = false := by
  have hk := (List.getElem?_eq_some_iff.1 ho).1
  rw [List.take_succ_eq_append_getElem hk, List.any_append, h]
  rw [List.getElem?_eq_getElem hk] at ho
  simp [Option.some.inj ho, hb]
theorem anyL_hit {ls : List (List CallP)} {o : List CallP} {k : Nat} (ho : ls[k]? = some o) (hb : badL o = true) : ls.any badL = true := List.any_eq_true.2 ⟨o, List.mem_of_getElem? ho, hb⟩

set_option maxHeartbeats 1600000 in
theorem index_lists (ls : List (List CallP)) (v : Value) (w : World) (h : ListsAt w v ls) (hl : ListsLen ls) :
    Calls Tryd.prog 45 #[v, .func (.func 33) #[] #[]] w fun e w' => ∃ r : Int, e = .returned (.int .i64 r) ∧ decide (0 ≤ r) = ls.any badL ∧ Below w.heap.size w w' := by
  obtain ⟨ad, cap, rfl⟩ := h.shape
  obtain ⟨n, en⟩ : ∃ n, ls.length = n := ⟨_, rfl⟩
  obtain ⟨b, eb⟩ : ∃ b, ls.any badL = b := ⟨_, rfl⟩
  have hn := hl.1
  have H := Lib.hid h
  have Hl := Lib.hid hl.2
  have Eb := Lib.hid eb
  rw [en] at hn H ⊢
  have En := Lib.hid en
  rw [eb]
  clear h hl en eb
  go_enter Tryd.func45, Tryd.ntmps45
  go_wp2_with fail
  go_loopw [8] (fun i wr => ∃ k : Nat, k ≤ n ∧ i = .int .i64 k ∧ Hid ((ls.take k).any badL = false) ∧ Below w.heap.size w wr) (fun i _ => n - (intOf i).toNat)
  case atStart => exact ⟨0, by omega, rfl, rfl, Below.refl _ _⟩
  case round =>
    obtain ⟨k, hk, rfl, hall, hb⟩ := hrel
    obtain ⟨Wo, hWo⟩ : ∃ Wo, Wo = wr := ⟨_, rfl⟩
    subst hWo
    have HB := Lib.hid hb
    clear hb
    by_cases hlt : k < n
    · have hki : (k : Int) < n := by omega
      obtain ⟨cl, g, c, cap', cv, ho, hv, c0, hC⟩ := (H.out.kept (CellsKept.of HB.out)).at (k := k) (by rw [En.out]; exact hlt)
      obtain rfl : ad = some ⟨g, c, none⟩ := by injection hv
      have HM := Lib.hid (bad_list cl cv Wo hC (Hl.out cl (List.mem_of_getElem? ho)))
      have Hgood := Lib.hid (fun hb : badL cl = false => anyL_take hall.out ho hb)
      have Hhit := Lib.hid (fun hb : badL cl = true => (Eb.out.symm.trans (anyL_hit ho hb) : b = true))
      obtain ⟨la, lc, rfl⟩ := hC.shape
      generalize badL cl = q at *
      generalize cl.length = ol at *
      clear hv ho hC hall
      go_wp2_with fail
      refine HM.out.mono ?_
      rintro e w1 ⟨rfl, hb1⟩
      have HB1 := Lib.hid (below_more HB.out hb1)
      clear hb1 c0
      cases q with
      | true =>
        obtain rfl := Hhit.out rfl
        go_wp2
        go_ret
        exact ⟨_, rfl, decide_eq_true (by omega), HB1.out⟩
      | false =>
        have HG := Lib.hid (Hgood.out rfl)
        go_wp2_with fail
        go_roundw
        case rel => exact ⟨k + 1, by omega, by go_num, HG.out, HB1.out⟩
        case measure => simp [intOf]; omega
    · obtain rfl : k = n := by omega
      have hbf : b = false := by rw [← Eb.out]; have := hall.out; rwa [List.take_of_length_le (by rw [En.out]; exact Nat.le_refl _)] at this
      subst hbf
      clear hall
      go_wp2
      go_ret
      exact ⟨_, rfl, by decide, HB.out⟩
theorem contains_lists (ls : List (List CallP)) (v : Value) (w : World) (h : ListsAt w v ls) (hl : ListsLen ls) :
    Calls Tryd.prog 36 #[v, .func (.func 33) #[] #[]] w fun e w' => e = .returned (.bool (ls.any badL)) ∧ Below w.heap.size w w' := by
  have H := Lib.hid (index_lists ls v w h hl)
  obtain ⟨ad, cap, rfl⟩ := h.shape
  generalize ls.any badL = b at *
  generalize ls.length = n at *
  clear h hl
  go_enter Tryd.func36, Tryd.ntmps36
  go_wp2_with fail
  refine H.out.mono ?_
  rintro e w1 ⟨r, rfl, hr, hb1⟩
  have HB1 := Lib.hid hb1
  clear hb1
  subst hr
  go_wp2
  go_ret
  exact ⟨rfl, HB1.out⟩
def layM (p t : Int) : Bool := (decide (1 ≤ p) && decide (p ≤ 4096)) && (decide (1 ≤ t) && decide (t ≤ 64))
theorem layout_any (p t : Int) (w : World) : Calls Tryd.prog 32 #[.agg #[.int .i64 p, .int .i64 t]] w fun e w' => e = .returned (.bool (layM p t)) ∧ Below w.heap.size w w' := by
  unfold layM
  by_cases h1 : 1 ≤ p
  · have d1 : decide (1 ≤ p) = true := decide_eq_true h1
    by_cases h2 : p ≤ 4096
    · have d2 : decide (p ≤ 4096) = true := decide_eq_true h2
      by_cases h3 : 1 ≤ t
      · have d3 : decide (1 ≤ t) = true := decide_eq_true h3
        rw [d1, d2, d3]
        go_enter Tryd.func32, Tryd.ntmps32
        go_wp2
        go_ret
        exact ⟨by simp, (Below.refl _ _).alloc (Nat.le_refl _) _⟩
      · have d3 : decide (1 ≤ t) = false := decide_eq_false h3
        rw [d1, d2, d3]
        go_enter Tryd.func32, Tryd.ntmps32
        go_wp2
        go_ret
        exact ⟨by simp, (Below.refl _ _).alloc (Nat.le_refl _) _⟩
    · have d2 : decide (p ≤ 4096) = false := decide_eq_false h2
      rw [d1, d2]
      go_enter Tryd.func32, Tryd.ntmps32
      go_wp2
      go_ret
      exact ⟨by simp, (Below.refl _ _).alloc (Nat.le_refl _) _⟩
  · have d1 : decide (1 ≤ p) = false := decide_eq_false h1
    rw [d1]
    go_enter Tryd.func32, Tryd.ntmps32
    go_wp2
    go_ret
    exact ⟨by simp, (Below.refl _ _).alloc (Nat.le_refl _) _⟩
theorem reflayout_any (p t : Int) (w : World) : Calls Tryd.prog 37 #[.agg #[.int .i64 p, .int .i64 t]] w fun e w' => e = .returned (.bool (layM p t)) ∧ Below w.heap.size w w' := by
  unfold layM
  by_cases h1 : 1 ≤ p
  · have d1 : decide (1 ≤ p) = true := decide_eq_true h1
    by_cases h2 : p ≤ 4096
    · have d2 : decide (p ≤ 4096) = true := decide_eq_true h2
      by_cases h3 : 1 ≤ t
      · have d3 : decide (1 ≤ t) = true := decide_eq_true h3
        rw [d1, d2, d3]
        go_enter Tryd.func37, Tryd.ntmps37
        go_wp2
        go_ret
        exact ⟨by simp, (Below.refl _ _).alloc (Nat.le_refl _) _⟩
      · have d3 : decide (1 ≤ t) = false := decide_eq_false h3
        rw [d1, d2, d3]
        go_enter Tryd.func37, Tryd.ntmps37
        go_wp2
        go_ret
        exact ⟨by simp, (Below.refl _ _).alloc (Nat.le_refl _) _⟩
    · have d2 : decide (p ≤ 4096) = false := decide_eq_false h2
      rw [d1, d2]
      go_enter Tryd.func37, Tryd.ntmps37
      go_wp2
      go_ret
      exact ⟨by simp, (Below.refl _ _).alloc (Nat.le_refl _) _⟩
  · have d1 : decide (1 ≤ p) = false := decide_eq_false h1
    rw [d1]
    go_enter Tryd.func37, Tryd.ntmps37
    go_wp2
    go_ret
    exact ⟨by simp, (Below.refl _ _).alloc (Nat.le_refl _) _⟩
def rightM (p t : Int) (ls : List (List CallP)) : Int := if layM p t = false then 1 else if ((ls.length : Int) != t || ls.any badL) = true then 6 else 0
theorem right_any (p t : Int) (dv : Value) (ls : List (List CallP)) (v : Value) (w : World) (h : ListsAt w v ls) (hl : ListsLen ls) :
    Calls Tryd.prog 18 #[.agg #[.int .i64 p, .int .i64 t, dv], v] w fun e w' => e = .returned (.int .i64 (rightM p t ls)) ∧ Below w.heap.size w w' := by
  have hb := new_below (w := w) (.cells #[.int .i64 p, .int .i64 t, dv] 25)
  have HK := World.alloc_heap_new w (.cells #[.int .i64 p, .int .i64 t, dv] 25)
  have HL := Lib.hid (layout_any p t (w.alloc (.cells #[.int .i64 p, .int .i64 t, dv] 25)))
  have HC := Lib.hid (fun w' (k : CellsKept w w') => contains_lists ls v w' (h.kept k) hl)
  obtain ⟨ad, cap, rfl⟩ := h.shape
  have hn := hl.1
  have HB := Lib.hid hb
  have HKb := Lib.hid HK
  unfold rightM
  generalize ls.any badL = b at *
  generalize ls.length = n at *
  generalize layM p t = q at *
  clear h hl hb HK
  have Hc := Lib.hid (fun w' (k : Below (w.alloc (.cells #[.int .i64 p, .int .i64 t, dv] 25)).heap.size (w.alloc (.cells #[.int .i64 p, .int .i64 t, dv] 25)) w') => blk_cell ((k.block w.heap.size (by simp)).trans HKb.out) 1)
  cases q with
  | false =>
    go_enter Tryd.func18, Tryd.ntmps18
    go_wp2_with fail
    refine HL.out.mono ?_
    rintro e w1 ⟨rfl, hb1⟩
    have HB1 := Lib.hid (below_more HB.out hb1)
    clear hb1
    go_wp2
    go_ret
    exact ⟨rfl, HB1.out⟩
  | true =>
    rw [if_neg (by decide)]
    by_cases ht : (n : Int) = t
    · have d : ((n : Int) != t) = false := by simp [ht]
      rw [d, Bool.false_or]
      cases b with
      | false =>
        go_enter Tryd.func18, Tryd.ntmps18
        go_wp2_with fail
        refine HL.out.mono ?_
        rintro e w1 ⟨rfl, hb1⟩
        have HB1 := Lib.hid (below_more HB.out hb1)
        have c1 := Hc.out w1 hb1
        simp at c1
        have HD := HC.out w1 (CellsKept.of HB1.out)
        clear hb1
        go_wp2_with fail
        refine HD.mono ?_
        rintro e w2 ⟨rfl, hb2⟩
        have HB2 := Lib.hid (below_more HB1.out hb2)
        clear hb2
        go_wp2
        go_ret
        exact ⟨rfl, HB2.out⟩
      | true =>
        go_enter Tryd.func18, Tryd.ntmps18
        go_wp2_with fail
        refine HL.out.mono ?_
        rintro e w1 ⟨rfl, hb1⟩
        have HB1 := Lib.hid (below_more HB.out hb1)
        have c1 := Hc.out w1 hb1
        simp at c1
        have HD := HC.out w1 (CellsKept.of HB1.out)
        clear hb1
        go_wp2_with fail
        refine HD.mono ?_
        rintro e w2 ⟨rfl, hb2⟩
        have HB2 := Lib.hid (below_more HB1.out hb2)
        clear hb2
        go_wp2
        go_ret
        exact ⟨rfl, HB2.out⟩
    · have d : ((n : Int) != t) = true := by simp [ht]
      rw [d, Bool.true_or, if_pos rfl]
      go_enter Tryd.func18, Tryd.ntmps18
      go_wp2_with fail
      refine HL.out.mono ?_
      rintro e w1 ⟨rfl, hb1⟩
      have HB1 := Lib.hid (below_more HB.out hb1)
      have c1 := Hc.out w1 hb1
      simp at c1
      clear hb1
      go_wp2
      go_ret
      exact ⟨rfl, HB1.out⟩
end Go.Proofs.YtkdigojjeiidmaaDoor
