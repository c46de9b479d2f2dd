/-
  The contracts of the document's little functions of orders: May, has, ended, behind, all, place.
-/
import Derived.Test.YtomheapokfphiaaDoorRawOrder
import Derived.Test.YtomheapokfphiaaDoorLinLaws
namespace Go.Proofs.YtomheapokfphiaaDoor
open Go Go.RowKit Go.Shelf

theorem ints_slice {w : World} {v : Value} {L : List Int} (h : IntsAt w v L) : ∃ ad cap, v = .slice ad L.length cap := by
  obtain ⟨ad, cap, rfl, _⟩ := h
  exact ⟨ad, cap, rfl⟩
theorem ops_slice {w : World} {v : Value} {L : List OpP} (h : OpsAt w v L) : ∃ ad cap, v = .slice ad L.length cap := by
  obtain ⟨ad, cap, rfl, _⟩ := h
  exact ⟨ad, cap, rfl⟩
theorem below_more {w a b : World} (h : Below w.heap.size w a) (k : Below a.heap.size a b) : Below w.heap.size w b := h.trans (k.mono h.size)
theorem draw_below {B : Nat} {a w : World} (h : Below B a w) (n : Nat) : Below B a (w.drewN n) := ⟨h.os, h.tape, h.output, h.size, h.block⟩

set_option maxHeartbeats 2000000 in
theorem rmay_any (l : List OpP) (hlen : l.length ≤ 500) (v : Value) (w : World) (h : OpsAt w v l) : Calls Tryd.prog 39 #[v] w fun e w' => e = .returned (.bool (mayL l)) ∧ Below w.heap.size w w' := by
  have HL := Lib.hid h
  obtain ⟨ld, lcap, rfl⟩ := ops_slice h
  clear h
  obtain ⟨ln, eln⟩ : ∃ ln, l.length = ln := ⟨_, rfl⟩
  have Eln := Lib.hid eln
  rw [eln] at hlen ⊢
  clear eln
  go_enter Tryd.func39, Tryd.ntmps39
  go_wp2_with fail
  go_loopw [3] (fun i wr => ∃ k : Nat, k ≤ ln ∧ i = .int .i64 (k : Nat) ∧ (∀ j, j < k → badOp (opAt l j) = false) ∧ Below w.heap.size w wr) (fun i _ => ln - (intOf i).toNat)
  case atStart => exact ⟨0, by omega, rfl, fun j hj => absurd hj (Nat.not_lt_zero j), Below.refl _ _⟩
  case round =>
    obtain ⟨k, hk, rfl, hno, hbw⟩ := hrel
    obtain ⟨Wo, hWo⟩ : ∃ Wo, Wo = wr := ⟨_, rfl⟩
    subst hWo
    have HN := Lib.hid hno
    have HBw := Lib.hid hbw
    clear hno
    by_cases hlt : k < ln
    · obtain ⟨gl, glo, cl, lv, hvl, hgl, hLv, hc⟩ := opsAt_cell (HL.out.kept (CellsKept.of hbw)) (k := k) (by rw [Eln.out]; exact hlt)
      obtain ⟨rfl, rfl⟩ : ld = some ⟨gl, glo, none⟩ ∧ lcap = cl := by rw [Eln.out] at hvl; injection hvl with h1 h2 h3; exact ⟨h1, h3⟩
      obtain ⟨md, mcap, rfl⟩ := ints_slice hLv
      obtain ⟨y0, y1, y2, y3, y4, y5, y6⟩ := hc
      have hkI : (k : Int) < ln := by omega
      have Hbad := Lib.hid (fun (hb : badOp (opAt l k) = true) => (show mayL l = false by unfold mayL; rw [any_at (by rw [Eln.out]; exact hlt) hb]; rfl))
      have Hgood := Lib.hid (fun (hb : badOp (opAt l k) = false) => (show ∀ j, j < k + 1 → badOp (opAt l j) = false from fun j hj => by
        rcases Nat.lt_or_ge j k with h | h
        · exact HN.out j h
        · obtain rfl : j = k := by omega
          exact hb))
      generalize opAt l k = op at *
      obtain ⟨kd, sz, at_, cd, L, b, e⟩ := op
      simp only [] at *
      have HB2 := Lib.hid (hbw.alloc hbw.size (.cells #[.int .i64 kd, .int .i64 sz, .int .i64 at_, .int .i64 cd, .slice md L.length mcap, .int .i64 b, .int .i64 e] 50))
      clear hvl hLv hbw
      by_cases q1 : b < 0
      · have qq : decide (b < 0) = true := decide_eq_true q1
        have Hb := Lib.hid (Hbad.out (by simp [badOp]; omega))
        go_wp2
        go_ret
        rw [Hb.out]
        exact ⟨rfl, HB2.out⟩
      · have qq : decide (b < 0) = false := decide_eq_false q1
        by_cases q2 : 2147483648 < b
        · have qq2 : decide (2147483648 < b) = true := decide_eq_true q2
          have Hb := Lib.hid (Hbad.out (by simp [badOp]; omega))
          go_wp2
          go_ret
          rw [Hb.out]
          exact ⟨rfl, HB2.out⟩
        · have qq2 : decide (2147483648 < b) = false := decide_eq_false q2
          by_cases q3 : e = -1
          · subst q3
            have Hg := Lib.hid (Hgood.out (by simp [badOp]; omega))
            go_wp2
            go_roundw
            case rel => exact ⟨k + 1, by omega, by go_num, Hg.out, HB2.out⟩
            case measure => simp [intOf]; omega
          · have q3' : (e != -1) = true := by simpa using q3
            by_cases q4 : e < b
            · have qq4 : decide (e < b) = true := decide_eq_true q4
              have Hb := Lib.hid (Hbad.out (by simp [badOp]; omega))
              go_wp2
              go_ret
              rw [Hb.out]
              exact ⟨rfl, HB2.out⟩
            · have qq4 : decide (e < b) = false := decide_eq_false q4
              by_cases q5 : 2147483648 < e
              · have qq5 : decide (2147483648 < e) = true := decide_eq_true q5
                have Hb := Lib.hid (Hbad.out (by simp [badOp]; omega))
                go_wp2
                go_ret
                rw [Hb.out]
                exact ⟨rfl, HB2.out⟩
              · have qq5 : decide (2147483648 < e) = false := decide_eq_false q5
                have Hg := Lib.hid (Hgood.out (by simp [badOp]; omega))
                go_wp2
                go_roundw
                case rel => exact ⟨k + 1, by omega, by go_num, Hg.out, HB2.out⟩
                case measure => simp [intOf]; omega
    · obtain rfl : k = ln := by omega
      have Hall := Lib.hid (show mayL l = true by unfold mayL; rw [any_none (fun j hj => HN.out j (by rw [Eln.out] at hj; exact hj))]; rfl)
      go_wp2
      go_ret
      rw [Hall.out]
      exact ⟨rfl, HBw.out⟩

set_option maxHeartbeats 2000000 in
theorem has_any (L : List Int) (hlen : L.length ≤ 500) (x : Int) (v : Value) (w : World) (h : IntsAt w v L) : Calls Tryd.prog 62 #[v, .int .i64 x] w fun e w' => e = .returned (.bool (L.contains x)) ∧ w = w' := by
  have HL := Lib.hid h
  obtain ⟨ld, lcap, rfl⟩ := ints_slice h
  clear h
  obtain ⟨ln, eln⟩ : ∃ ln, L.length = ln := ⟨_, rfl⟩
  have Eln := Lib.hid eln
  rw [eln] at hlen HL ⊢
  clear eln
  obtain ⟨cb, ecb⟩ : ∃ cb, L.contains x = cb := ⟨_, rfl⟩
  rw [ecb]
  have Ecb := Lib.hid ecb
  clear ecb
  go_enter Tryd.func62, Tryd.ntmps62
  go_wp2_with fail
  go_loopw [5] (fun i wr => ∃ k : Nat, k ≤ ln ∧ i = .int .i64 (k : Nat) ∧ (∀ j, j < k → L.getD j 0 ≠ x) ∧ wr = w) (fun i _ => ln - (intOf i).toNat)
  case atStart => exact ⟨0, by omega, rfl, fun j hj => absurd hj (Nat.not_lt_zero j), rfl⟩
  case round =>
    obtain ⟨k, hk, rfl, hno, hwr⟩ := hrel
    have hwr := hwr.symm
    subst hwr
    have HN := Lib.hid hno
    clear hno
    by_cases hlt : k < ln
    · obtain ⟨gl, glo, cl, hvl, hgl, hc⟩ := intsAt_cell HL.out (k := k) (by rw [Eln.out]; exact hlt)
      obtain ⟨rfl, rfl⟩ : ld = some ⟨gl, glo, none⟩ ∧ lcap = cl := by rw [Eln.out] at hvl; injection hvl with h1 h2 h3; exact ⟨h1, h3⟩
      have hkI : (k : Int) < ln := by omega
      obtain ⟨y, ey⟩ : ∃ y, L.getD k 0 = y := ⟨_, rfl⟩
      have Ey := Lib.hid ey
      rw [ey] at hc
      clear ey hvl
      by_cases hxy : y = x
      · subst hxy
        obtain rfl : cb = true := Ecb.out.symm.trans (show L.contains y = true by
          rw [List.contains_eq_mem]
          have := getD_get (L := L) (k := k) (by rw [Eln.out]; exact hlt)
          rw [Ey.out] at this
          exact decide_eq_true (List.mem_of_getElem? this))
        go_wp2
        go_ret
        exact ⟨rfl, rfl⟩
      · have hxy' : (y == x) = false := by simpa using hxy
        go_wp2
        go_roundw
        case rel => exact ⟨k + 1, by omega, by go_num, (fun j hj => by
          rcases Nat.lt_or_ge j k with h | h
          · exact HN.out j h
          · obtain rfl : j = k := by omega
            rw [Ey.out]; exact hxy), trivial⟩
        case measure => simp [intOf]; omega
    · obtain rfl : k = ln := by omega
      obtain rfl : cb = false := Ecb.out.symm.trans (show L.contains x = false by
        rw [List.contains_eq_mem]
        refine decide_eq_false fun hm => ?_
        obtain ⟨j, hj, e⟩ := List.getElem_of_mem hm
        refine HN.out j (by rw [Eln.out] at hj; exact hj) ?_
        rw [List.getD_eq_getElem?_getD, List.getElem?_eq_getElem hj, Option.getD_some, e])
      go_wp2
      go_ret
      exact ⟨rfl, rfl⟩

def endedB (o p : OpP) : Bool := decide (o.e ≠ -1) && decide (o.e < p.b)
set_option maxHeartbeats 2000000 in
theorem ended_any (o p : OpP) (od : Option Addr) (ol oc : Nat) (pd : Option Addr) (pl pc : Nat) (w : World) : Calls Tryd.prog 57 #[opVal o (.slice od ol oc), opVal p (.slice pd pl pc)] w fun e w' => e = .returned (.bool (endedB o p)) ∧ Below w.heap.size w w' := by
  obtain ⟨kd, sz, at_, cd, L, b, e⟩ := o
  obtain ⟨kd2, sz2, at2, cd2, L2, b2, e2⟩ := p
  unfold opVal
  simp only []
  have HB := Lib.hid ((new_below (w := w) (.cells #[.int .i64 kd, .int .i64 sz, .int .i64 at_, .int .i64 cd, .slice od ol oc, .int .i64 b, .int .i64 e] 50)).alloc (by simp) (.cells #[.int .i64 kd2, .int .i64 sz2, .int .i64 at2, .int .i64 cd2, .slice pd pl pc, .int .i64 b2, .int .i64 e2] 50))
  by_cases h1 : e = -1
  · subst h1
    have Hr := Lib.hid (show endedB ⟨kd, sz, at_, cd, L, b, -1⟩ ⟨kd2, sz2, at2, cd2, L2, b2, e2⟩ = false from rfl)
    go_enter Tryd.func57, Tryd.ntmps57
    go_wp2
    go_ret
    rw [Hr.out]
    exact ⟨rfl, HB.out⟩
  · have h1' : (e != -1) = true := by simpa using h1
    have Hr := Lib.hid (show endedB ⟨kd, sz, at_, cd, L, b, e⟩ ⟨kd2, sz2, at2, cd2, L2, b2, e2⟩ = decide (e < b2) by unfold endedB; simp [h1])
    go_enter Tryd.func57, Tryd.ntmps57
    go_wp2
    go_ret
    rw [Hr.out]
    exact ⟨rfl, HB.out⟩

set_option maxHeartbeats 2000000 in
theorem all_any (l : List OpP) (hlen : l.length ≤ 500) (L : List Int) (hL : L.length ≤ 500) (v u : Value) (w : World) (h : OpsAt w v l) (hu : IntsAt w u L) : Calls Tryd.prog 61 #[v, u] w fun e w' => e = .returned (.bool (wholeM l L)) ∧ w = w' := by
  have HL := Lib.hid h
  obtain ⟨ld, lcap, rfl⟩ := ops_slice h
  have HH := Lib.hid (fun x => has_any L hL x u w hu)
  obtain ⟨ud, ucap, rfl⟩ := ints_slice hu
  clear h hu
  obtain ⟨ln, eln⟩ : ∃ ln, l.length = ln := ⟨_, rfl⟩
  have Eln := Lib.hid eln
  rw [eln] at hlen HL ⊢
  clear eln
  go_enter Tryd.func61, Tryd.ntmps61
  go_wp2_with fail
  go_loopw [5] (fun i wr => ∃ k : Nat, k ≤ ln ∧ i = .int .i64 (k : Nat) ∧ (∀ j, j < k → ((opAt l j).e = -1 ∨ L.contains (j : Int) = true)) ∧ wr = w) (fun i _ => ln - (intOf i).toNat)
  case atStart => exact ⟨0, by omega, rfl, fun j hj => absurd hj (Nat.not_lt_zero j), rfl⟩
  case round =>
    obtain ⟨k, hk, rfl, hno, hwr⟩ := hrel
    have hwr := hwr.symm
    subst hwr
    have HN := Lib.hid hno
    clear hno
    by_cases hlt : k < ln
    · obtain ⟨gl, glo, cl, lv, hvl, hgl, _, hc⟩ := opsAt_cell HL.out (k := k) (by rw [Eln.out]; exact hlt)
      obtain ⟨rfl, rfl⟩ : ld = some ⟨gl, glo, none⟩ ∧ lcap = cl := by rw [Eln.out] at hvl; injection hvl with h1 h2 h3; exact ⟨h1, h3⟩
      have hkI : (k : Int) < ln := by omega
      have ce := hc.2.2.2.2.2.2
      obtain ⟨ee, eee⟩ : ∃ ee, (opAt l k).e = ee := ⟨_, rfl⟩
      have Ee := Lib.hid eee
      rw [eee] at ce
      clear eee hvl hc
      have Hnext := Lib.hid (fun (h : ee = -1 ∨ L.contains (k : Int) = true) => (show ∀ j, j < k + 1 → ((opAt l j).e = -1 ∨ L.contains (j : Int) = true) from fun j hj => by
        rcases Nat.lt_or_ge j k with h' | h'
        · exact HN.out j h'
        · obtain rfl : j = k := by omega
          rw [Ee.out]; exact h))
      by_cases he : ee = -1
      · have he' : (ee != -1) = false := by rw [he]; rfl
        have Hn := Lib.hid (Hnext.out (.inl he))
        go_wp2
        go_roundw
        case rel => exact ⟨k + 1, by omega, by go_num, Hn.out, trivial⟩
        case measure => simp [intOf]; omega
      · have he' : (ee != -1) = true := by simpa using he
        obtain ⟨cb, ecb⟩ : ∃ cb, L.contains (k : Int) = cb := ⟨_, rfl⟩
        have Hh := HH.out (k : Int)
        rw [ecb] at Hh
        have Hh := Lib.hid Hh
        have Ecb := Lib.hid ecb
        clear ecb
        cases cb with
        | true =>
          have Hn := Lib.hid (Hnext.out (.inr Ecb.out))
          go_wp2_with fail
          refine Hh.out.mono ?_
          rintro e w2 ⟨rfl, rfl⟩
          go_wp2
          go_roundw
          case rel => exact ⟨k + 1, by omega, by go_num, Hn.out, trivial⟩
          case measure => simp [intOf]; omega
        | false =>
          have Hw := Lib.hid (show wholeM l L = false by
            unfold wholeM
            cases hb : (List.range l.length).all (fun i => decide ((opAt l i).e = -1) || L.contains (i : Int)) with
            | false => rfl
            | true =>
              have := List.all_eq_true.1 hb k (List.mem_range.2 (by rw [Eln.out]; exact hlt))
              rw [Ecb.out, Ee.out] at this
              simp at this
              exact absurd this he)
          go_wp2_with fail
          refine Hh.out.mono ?_
          rintro e w2 ⟨rfl, rfl⟩
          go_wp2
          go_ret
          rw [Hw.out]
          exact ⟨rfl, rfl⟩
    · obtain rfl : k = ln := by omega
      have Hw := Lib.hid (show wholeM l L = true by
        unfold wholeM
        refine List.all_eq_true.2 fun i hi => ?_
        have hi := List.mem_range.1 hi
        rw [Eln.out] at hi
        rcases HN.out i hi with h | h
        · rw [decide_eq_true h]; rfl
        · rw [h, Bool.or_true])
      go_wp2
      go_ret
      rw [Hw.out]
      exact ⟨rfl, rfl⟩

theorem behind_at {l : List OpP} {L : List Int} {i q : Nat} (hq : q < L.length) (h : endedB (opAt l i) (opAt l (L.getD q 0).toNat) = true) : aheadM l L i = true := by
  unfold endedB at h
  rw [Bool.and_eq_true] at h
  unfold aheadM
  rw [h.1, Bool.true_and]
  refine List.any_eq_true.2 ⟨L.getD q 0, ?_, h.2⟩
  exact List.mem_of_getElem? (getD_get hq)
theorem behind_none {l : List OpP} {L : List Int} {i : Nat} (h : ∀ q, q < L.length → endedB (opAt l i) (opAt l (L.getD q 0).toNat) = false) : aheadM l L i = false := by
  unfold aheadM
  rw [Bool.and_eq_false_iff]
  by_cases he : (opAt l i).e = -1
  · exact .inl (by simp [he])
  · right
    refine List.any_eq_false.2 fun k hk => ?_
    obtain ⟨q, hq, rfl⟩ := List.getElem_of_mem hk
    have := h q hq
    rw [List.getD_eq_getElem?_getD, List.getElem?_eq_getElem hq, Option.getD_some] at this
    unfold endedB at this
    rw [decide_eq_true (p := (opAt l i).e ≠ -1) he, Bool.true_and] at this
    rw [this]
    exact Bool.false_ne_true
end Go.Proofs.YtomheapokfphiaaDoor
