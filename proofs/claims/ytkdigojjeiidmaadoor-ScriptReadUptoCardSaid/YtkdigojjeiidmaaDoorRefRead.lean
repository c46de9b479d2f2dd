/-
  The document's Read: its contract.
-/
import Derived.Test.YtkdigojjeiidmaaDoorParts
import Derived.Test.YtkdigojjeiidmaaDoorRefMay
namespace Go.Proofs.YtkdigojjeiidmaaDoor
open Go Go.RowKit Go.Shelf

/-- A call, and whether it is one: what the text is worth. -/
def RefDone (base : Nat) (l : List UInt8) (w : World) (e : Ending) (w' : World) : Prop :=
  ∃ o ok lv, e = .returned (.tuple #[callV o lv, .bool ok]) ∧ IntsAt w' lv o.L ∧ CallOk o ∧ ReadsAs l o ok ∧ Below base w w'
theorem refDone_zero {base : Nat} {l : List UInt8} {w w' : World} (h : ReadsAs l zeroC false) (hb : Below base w w') : RefDone base l w (.returned (.tuple #[.agg #[.int .i64 0, .int .i64 0, .slice none 0 0], .bool false])) w' :=
  ⟨zeroC, false, .slice none 0 0, rfl, intsAt_nil _, zero_ok, h, hb⟩
theorem refDone_hit {base : Nat} {l : List UInt8} {w w' : World} {c : CallP} {lv : Value} (h : ReadsAs l c true) (ok : CallOk c) (hi : IntsAt w' lv c.L) (hb : Below base w w') : RefDone base l w (.returned (.tuple #[.agg #[.int .i64 c.kind, .int .i64 c.a, lv], .bool true])) w' :=
  ⟨c, true, lv, rfl, hi, ok, h, hb⟩
def NumsRead (vs : List (List UInt8)) (k : Nat) (L : List Int) : Prop := vs.take k = L.map Lib.itoa ∧ (∀ n ∈ L, 0 ≤ n ∧ n ≤ 9223372036854775807) ∧ L.length = k
theorem nums_none (vs : List (List UInt8)) : NumsRead vs 0 [] := ⟨by simp, (fun n hn => by cases hn), rfl⟩
theorem nums_snoc {vs : List (List UInt8)} {k : Nat} {L : List Int} {x : List UInt8} {n : Int} (h : NumsRead vs k L) (hx : vs[k]? = some x) (hn : 0 ≤ n ∧ n ≤ 9223372036854775807) (e : Lib.itoa n = x) : NumsRead vs (k + 1) (L ++ [n]) := by
  obtain ⟨h1, h2, h3⟩ := h
  obtain ⟨hk, hv⟩ := List.getElem?_eq_some_iff.1 hx
  refine ⟨?_, ?_, by simp [h3]⟩
  · rw [List.take_succ_eq_append_getElem hk, h1, hv, List.map_append, ← e]
    rfl
  · intro m hm
    rcases List.mem_append.1 hm with h | h
    · exact h2 m h
    · obtain rfl := List.mem_singleton.1 h
      exact hn

/-- What the words leave. -/
structure Left (l u : List UInt8) (L : List Int) : Prop where
  rd : ReadsAs l (refM u L).1 (refM u L).2
  ok : CallOk (refM u L).1
theorem left_of {l u : List UInt8} {vs : List (List UInt8)} {L : List Int} (hs : splitL l = u :: vs) (h : NumsRead vs vs.length L) (hl : vs.length ≤ 9223372036854775807) : Left l u L := by
  obtain ⟨h1, h2, h3⟩ := h
  rw [List.take_length] at h1
  rw [h1] at hs
  obtain ⟨a, b⟩ := refM_as hs h2 (by omega)
  exact ⟨a, b⟩
theorem left_none {l u : List UInt8} {L : List Int} (h : Left l u L) (e : kindB u = 0) : ReadsAs l zeroC false := by
  have := h.rd
  unfold refM at this
  rw [if_pos e] at this
  exact this
theorem left_many {l u : List UInt8} {L : List Int} {q : Int} (h : Left l u L) (e : kindB u = q) (h0 : q ≠ 0) (h4 : q ≠ 4) (hn : L.length ≠ wantN q) : ReadsAs l zeroC false := by
  have := h.rd
  unfold refM at this
  rw [e, if_neg h0, if_pos ⟨h4, hn⟩] at this
  exact this
theorem left_hit {l u : List UInt8} {L : List Int} {q : Int} {c : CallP} (h : Left l u L) (e : kindB u = q) (h0 : q ≠ 0) (hn : q = 4 ∨ L.length = wantN q) (hc : candM u L = c) (hm : mayM c = true) : ReadsAs l c true ∧ CallOk c := by
  have h1 := h.rd
  have h2 := h.ok
  unfold refM at h1 h2
  have hno : ¬ (q ≠ 4 ∧ L.length ≠ wantN q) := by rcases hn with k | k <;> simp [k]
  rw [e, if_neg h0, if_neg hno, hc, if_pos hm] at h1 h2
  exact ⟨h1, h2⟩
theorem left_miss {l u : List UInt8} {L : List Int} {q : Int} {c : CallP} (h : Left l u L) (e : kindB u = q) (h0 : q ≠ 0) (hn : q = 4 ∨ L.length = wantN q) (hc : candM u L = c) (hm : mayM c = false) : ReadsAs l zeroC false := by
  have h1 := h.rd
  unfold refM at h1
  have hno : ¬ (q ≠ 4 ∧ L.length ≠ wantN q) := by rcases hn with k | k <;> simp [k]
  rw [e, if_neg h0, if_neg hno, hc, if_neg (by rw [hm]; decide)] at h1
  exact h1

set_option maxRecDepth 100000 in
set_option maxHeartbeats 8000000 in
theorem refread_any (l : List UInt8) (hl : l.length ≤ 2097152) (w : World) :
    Calls Tryd.prog 21 #[.string ⟨l.toArray⟩] w fun e w' => RefDone w.heap.size l w e w' := by
  obtain ⟨i0, hi0, hz0, hz1, hz2⟩ := info_parts' info3
  have hb1 := new_below (w := w) zero36
  have hs1 : (w.alloc zero36).heap.size = w.heap.size + 1 := by simp
  have hR1 := World.alloc_heap_new w zero36
  have HS := Lib.hid (parts_any l hl (w.alloc zero36))
  have hsz := split_sizes l
  have hne : splitL l ≠ [] := by obtain ⟨u, ws, h, _⟩ := split_join l; rw [h]; simp
  have Hmany := Lib.hid (fun h : 9 < (splitL l).length => ref_many h)
  have Hbad := Lib.hid (fun u vs (h : splitL l = u :: vs) (k : Nat) x (hk : vs[k]? = some x) hx => ref_bad h hk hx)
  have Hleft := Lib.hid (fun u vs (h : splitL l = u :: vs) (hl : vs.length ≤ 9223372036854775807) L (hn : NumsRead vs vs.length L) => left_of h hn hl)
  generalize hw0 : splitL l = ws at *
  cases ws with
  | nil => exact absurd rfl hne
  | cons u vs =>
  have Hbad := Lib.hid (Hbad.out u vs rfl)
  have Hleft := Lib.hid (Hleft.out u vs rfl)
  obtain ⟨m, em⟩ : ∃ m, vs.length = m := ⟨_, rfl⟩
  have hm1 : m ≤ 2097152 := by have := hsz.2; simp at this; omega
  obtain ⟨N, eN⟩ : ∃ N, m + 1 = N := ⟨_, rfl⟩
  simp only [List.length_cons, em, eN] at HS Hmany Hleft
  have hN1 : m + 1 ≤ N ∧ N ≤ m + 1 := by omega
  clear eN
  have Em := Lib.hid em
  have Hsz := Lib.hid hsz.1
  have HB1 := Lib.hid hb1
  have HR1 := Lib.hid hR1
  have Hs1 := Lib.hid hs1
  clear hsz hne hb1 hR1 em hw0 hs1
  unfold zero36 at *
  go_enter Tryd.func21, Tryd.ntmps21
  go_wp2_with fail
  refine HS.out.mono ?_
  rintro e w2 ⟨v, rfl, hown, hb2⟩
  obtain ⟨la, lc, rfl⟩ := own_slice hown
  have HO2 := Lib.hid hown
  have HB2 := Lib.hid (below_more HB1.out hb2)
  have HR2 := Lib.hid ((hb2.block _ (by rw [Hs1.out]; omega)).trans HR1.out)
  clear hown hb2 HS HR1 HB1
  by_cases hmany : 9 < N
  · have d1 : decide ((9 : Int) < (N : Int)) = true := decide_eq_true (by omega)
    have hr := Hmany.out hmany
    have c0 := blk_cell HR2.out 0
    have c1 := blk_cell HR2.out 1
    have c2 := blk_cell HR2.out 2
    have f0 := blk_frozen HR2.out 0
    have f1 := blk_frozen HR2.out 1
    have f2 := blk_frozen HR2.out 2
    simp at c0 c1 c2
    have Hr := Lib.hid hr
    clear hr
    go_wp2
    refine bodyPost_ret (by simp [results, Tryd.results21, go_sem, c0, c1, c2]) rfl (refDone_zero Hr.out ?_)
    exact ((HB2.out.setCell (p := ⟨w.heap.size, 0, none⟩) (Nat.le_refl _) _).setCell (p := ⟨w.heap.size, 1, none⟩) (Nat.le_refl _) _).setCell (p := ⟨w.heap.size, 2, none⟩) (Nat.le_refl _) _
  · have d1 : decide ((9 : Int) < (N : Int)) = false := decide_eq_false (by omega)
    have hm8 : m ≤ 8 := by omega
    clear Hmany
    go_wp2_with fail
    obtain ⟨W3, eW⟩ : ∃ W3, w2.alloc (.cells #[.int .i64 0, .int .i64 0, .slice none 0 0] 36) = W3 := ⟨_, rfl⟩
    have hC3 : W3.heap[w2.heap.size]? = some (.cells #[.int .i64 0, .int .i64 0, .slice none 0 0] 36 (0, 0)) := by rw [← eW]; exact World.alloc_heap_new _ _
    have h23 : Below w2.heap.size w2 W3 := by rw [← eW]; exact new_below _
    have hO3 := own_kept HO2.out (fun g hg => h23.block g (own_lt HO2.out hg).1)
    have hs3 : w2.heap.size < W3.heap.size := (Array.getElem?_eq_some_iff.1 hC3).1
    have hs2 : w.heap.size < w2.heap.size := (Array.getElem?_eq_some_iff.1 HR2.out).1
    have HR3 := Lib.hid ((h23.block _ hs2).trans HR2.out)
    have HB3 := Lib.hid (below_more HB2.out h23)
    have HC3 := Lib.hid hC3
    have HO3 := Lib.hid hO3
    have Hlt2 := Lib.hid (fun g hg => (own_lt HO2.out (g := g) hg).1)
    clear hC3 h23 hO3 HO2 HB2 HR2
    try rw [eW]
    clear eW
    go_loopw [6, 7] (fun v i wr => ∃ (j k : Nat) (L : List Int), j = k + 1 ∧ j ≤ N ∧ i = .int .i64 j ∧ Hid (NumsRead vs k L) ∧ wr.ownsRow W3.heap.size 3 1 v k (L.map iV) ∧ Below W3.heap.size W3 wr) (fun _ i _ => N - (intOf i).toNat)
    case atStart => exact ⟨1, 0, [], by omega, by omega, rfl, Lib.hid (nums_none vs), World.ownsRow_nil _ _ _ _, Below.refl _ _⟩
    case round =>
      obtain ⟨j, k, L, hj, hjN, rfl, hL, hown, hb⟩ := hrel
      have hj1 : j ≤ k + 1 ∧ k + 1 ≤ j := by omega
      have Hj := Lib.hid hj
      clear hj
      obtain ⟨Wo, hWo⟩ : ∃ Wo, Wo = wr := ⟨_, rfl⟩
      subst hWo
      obtain ⟨na, nc, rfl⟩ := own_slice hown
      have HO := Lib.hid hown
      have HB := Lib.hid hb
      have HRo := Lib.hid ((hb.block _ (by omega)).trans HR3.out)
      have HCo := Lib.hid ((hb.block _ hs3).trans HC3.out)
      have HBo := Lib.hid (below_more HB3.out hb)
      clear hown hb
      by_cases hlt : j < N
      · have hki : (j : Int) < (N : Int) := by omega
        obtain ⟨x, hx⟩ : ∃ x, vs[k]? = some x := ⟨_, List.getElem?_eq_getElem (by rw [Em.out]; omega)⟩
        obtain ⟨g, cap', hv', hg, hcell⟩ := own_cell HO3.out HB.out (Nat.le_refl _) (j := j) (by omega) (by omega)
        obtain rfl : la = some ⟨g, 0, none⟩ := by injection hv'
        have ecx : ((u :: vs).map sV)[j]? = some (.string ⟨x.toArray⟩) := by
          rw [Hj.out, List.getElem?_map, List.getElem?_cons_succ, hx]
          rfl
        rw [ecx] at hcell
        have hxs := Hsz.out x (List.mem_cons_of_mem _ (List.mem_of_getElem? hx))
        have HA := Lib.hid (number_any x (by omega) Wo)
        have Hno := Lib.hid (fun h => Hbad.out k x hx h)
        have Hyes := Lib.hid (fun n h1 h2 => nums_snoc (n := n) hL.out hx h1 h2)
        clear ecx hx hL hv'
        go_wp2_with fail
        refine HA.out.mono ?_
        rintro e w4 ⟨⟨n, ok, rfl, hend⟩, rfl⟩
        rcases hend with ⟨rfl, hn, he⟩ | ⟨rfl, hno⟩
        · have HG := Lib.hid (Hyes.out n hn he)
          clear he Hyes Hno hcell HA
          have Hnews := Lib.hid (World.news_of_block (World.alloc_heap_new Wo (.cells #[.int .i64 n] 3)))
          have Hone := Lib.hid (show ∀ v ∈ [Value.int .i64 n], v.oneCell' = true by simp [Value.oneCell'])
          have Hl2 := Lib.hid (HO.out.alloc (.cells #[.int .i64 n] 3))
          have hsz3 := HB.out.size
          go_wp2_with (at_builtin; refine wpList_append_lies _ rfl _ _ 27 rfl W3.heap.size 3 i0 (.int .i64 0) 1 8 Tryd.underlying27 hi0 hz0 hz1 hz2 rfl (by decide) _ _ _ rfl Hl2.out _ 1 1 _ rfl rfl Hnews.out Hone.out (by omega) (by unfold maxLen; omega) (by omega) (by simp; omega) _ rfl ?_; intro g' cap' w4 hown' hgrow _ _)
          have HB4 := Lib.hid ((HB.out.alloc hsz3 (.cells #[.int .i64 n] 3)).grown hgrow (by simp; omega) (fun j e => by have := own_later HO.out j e; omega))
          go_roundw
          case rel => exact ⟨j + 1, k + 1, L ++ [n], by omega, by omega, by go_num, HG, by rw [List.map_append]; exact hown', HB4.out⟩
          case measure => simp [intOf]; omega
        · have Hr := Lib.hid (Hno.out hno)
          have c0 := blk_cell HRo.out 0
          have c1 := blk_cell HRo.out 1
          have c2 := blk_cell HRo.out 2
          have f0 := blk_frozen HRo.out 0
          have f1 := blk_frozen HRo.out 1
          have f2 := blk_frozen HRo.out 2
          simp at c0 c1 c2
          clear hno Hyes Hno HA
          go_wp2
          refine bodyPost_ret (by simp [results, Tryd.results21, go_sem, c0, c1, c2]) rfl (refDone_zero Hr.out ?_)
          exact ((HBo.out.setCell (p := ⟨w.heap.size, 0, none⟩) (Nat.le_refl _) _).setCell (p := ⟨w.heap.size, 1, none⟩) (Nat.le_refl _) _).setCell (p := ⟨w.heap.size, 2, none⟩) (Nat.le_refl _) _
      · have hkm : k = m := by omega
        obtain rfl : j = N := by omega
        have HL := Lib.hid (Hleft.out (by omega) L (by rw [← hkm]; exact hL.out))
        have Hlen := Lib.hid hL.out.2.2
        obtain ⟨g, cap', hv', hg, hcu⟩ := own_cell HO3.out HB.out (Nat.le_refl _) (j := 0) (by omega) (by omega)
        obtain rfl : la = some ⟨g, 0, none⟩ := by injection hv'
        have ecu : ((u :: vs).map sV)[0]? = some (.string ⟨u.toArray⟩) := rfl
        rw [ecu] at hcu
        have HI := Lib.hid (ints_of_owns HO.out)
        have hkN : k < j := by omega
        have hgC : g < w2.heap.size := Hlt2.out g rfl
        clear Hleft Hbad hL hv' ecu Hj hkm
        have c0 := blk_cell HCo.out 0
        have c1 := blk_cell HCo.out 1
        have c2 := blk_cell HCo.out 2
        have e0 := blk_frozen HCo.out 0
        have e1 := blk_frozen HCo.out 1
        have e2 := blk_frozen HCo.out 2
        simp at c0 c1 c2
        have d0 := blk_cell HRo.out 0
        have d1 := blk_cell HRo.out 1
        have d2 := blk_cell HRo.out 2
        have f0 := blk_frozen HRo.out 0
        have f1 := blk_frozen HRo.out 1
        have f2 := blk_frozen HRo.out 2
        simp at d0 d1 d2
        have HFarC := Lib.hid (far_own (R := w2.heap.size) HO.out hs3)
        have HFarR := Lib.hid (far_own (R := w.heap.size) HO.out (by omega))
        by_cases h1 : u = [97, 108, 108, 111, 99]
        · subst h1
          by_cases hk1 : k = 1
          · subst hk1
            obtain ⟨a, rfl⟩ := List.length_eq_one_iff.1 Hlen.out
            obtain ⟨g2, cap2, hv2, hg2, hc2⟩ := own_cell HO.out (Below.refl _ Wo) (Nat.le_refl _) (j := 0) (by omega) (by omega)
            obtain rfl : na = some ⟨g2, 0, none⟩ := by injection hv2
            simp only [List.map_cons, List.getElem?_cons_zero, iV] at hc2
            have hg2w : w2.heap.size < g2 := by have := own_later HO.out g2 rfl; omega
            clear hv2
            go_wp2_with fail
            obtain ⟨W5, eW5⟩ : ∃ W5, ((Wo.setCell ⟨w2.heap.size, 0, none⟩ (.int .i64 1)).setCell ⟨w2.heap.size, 1, none⟩ (.int .i64 a)) = W5 := ⟨_, rfl⟩
            have HC5 := Lib.hid (show W5.heap[w2.heap.size]? = some (.cells #[.int .i64 1, .int .i64 a, .slice none 0 0] 36 (0, 0)) from by rw [← eW5]; exact (blk_set ((blk_set (HCo.out) 0 (.int .i64 1))) 1 (.int .i64 a)))
            have HR5 := Lib.hid (show W5.heap[w.heap.size]? = some (.cells #[.int .i64 0, .int .i64 0, .slice none 0 0] 36 (0, 0)) from by rw [← eW5]; exact ((Below.heap_setCell _ _ _ _ (show w.heap.size ≠ w2.heap.size by omega)).trans (((Below.heap_setCell _ _ _ _ (show w.heap.size ≠ w2.heap.size by omega)).trans (HRo.out)))))
            have HB5 := Lib.hid (show Below w.heap.size w W5 from by rw [← eW5]; exact ((((HBo.out).setCell (p := ⟨w2.heap.size, 0, none⟩) (Nat.le_of_lt hs2) (.int .i64 1))).setCell (p := ⟨w2.heap.size, 1, none⟩) (Nat.le_of_lt hs2) (.int .i64 a)))
            have HI5 := Lib.hid (intsAt_nil W5)
            have HM : Hid (Calls Tryd.prog 15 #[.agg #[.int .i64 1, .int .i64 a, .slice none 0 0]] W5 fun e w' => e = .returned (.bool (mayM ⟨1, a, []⟩)) ∧ Below W5.heap.size W5 w') := Lib.hid (refmay_any ⟨1, a, []⟩ _ _ HI5.out (Nat.zero_le _))
            try rw [eW5]
            clear eW5 c0 c1 c2 d0 d1 d2 e0 e1 e2 f0 f1 f2
            obtain ⟨mb, emb⟩ : ∃ mb, mayM ⟨1, a, []⟩ = mb := ⟨_, rfl⟩
            rw [emb] at HM
            have Hm := Lib.hid emb
            clear emb
            refine HM.out.mono ?_
            rintro e w6 ⟨rfl, hb6⟩
            have HC6 := Lib.hid ((hb6.block _ (Array.getElem?_eq_some_iff.1 HC5.out).1).trans HC5.out)
            have HR6 := Lib.hid ((hb6.block _ (Array.getElem?_eq_some_iff.1 HR5.out).1).trans HR5.out)
            have HI6 := Lib.hid (HI5.out.kept (CellsKept.of hb6))
            have HB6 := Lib.hid (below_more HB5.out hb6)
            clear hb6 HM
            have c0 := blk_cell HC6.out 0
            have c1 := blk_cell HC6.out 1
            have c2 := blk_cell HC6.out 2
            have e0 := blk_frozen HC6.out 0
            have e1 := blk_frozen HC6.out 1
            have e2 := blk_frozen HC6.out 2
            simp at c0 c1 c2
            have d0 := blk_cell HR6.out 0
            have d1 := blk_cell HR6.out 1
            have d2 := blk_cell HR6.out 2
            have f0 := blk_frozen HR6.out 0
            have f1 := blk_frozen HR6.out 1
            have f2 := blk_frozen HR6.out 2
            simp at d0 d1 d2
            cases mb with
            | false =>
              have Hr := Lib.hid (left_miss HL.out (q := 1) (c := ⟨1, a, []⟩) rfl (by decide) (.inr rfl) rfl Hm.out)
              go_wp2
              refine bodyPost_ret (by simp [results, Tryd.results21, go_sem, d0, d1, d2]) rfl (refDone_zero Hr.out ?_)
              exact ((HB6.out.setCell (p := ⟨w.heap.size, 0, none⟩) (Nat.le_refl _) _).setCell (p := ⟨w.heap.size, 1, none⟩) (Nat.le_refl _) _).setCell (p := ⟨w.heap.size, 2, none⟩) (Nat.le_refl _) _
            | true =>
              have Hr := Lib.hid (left_hit HL.out (q := 1) (c := ⟨1, a, []⟩) rfl (by decide) (.inr rfl) rfl Hm.out)
              go_wp2
              refine bodyPost_ret (by simp [results, Tryd.results21, go_sem, d0, d1, d2]) rfl (refDone_hit (c := ⟨1, a, []⟩) (lv := .slice none 0 0) Hr.out.1 Hr.out.2 ?_ ?_)
              · exact intsAt_nil _
              · exact ((HB6.out.setCell (p := ⟨w.heap.size, 0, none⟩) (Nat.le_refl _) _).setCell (p := ⟨w.heap.size, 1, none⟩) (Nat.le_refl _) _).setCell (p := ⟨w.heap.size, 2, none⟩) (Nat.le_refl _) _
          · have tk : ((k : Int) == 1) = false := by rw [beq_eq_false_iff_ne]; omega
            have Hr := Lib.hid (left_many HL.out (q := 1) rfl (by decide) (by decide) (by rw [Hlen.out]; exact hk1))
            go_wp2
            refine bodyPost_ret (by simp [results, Tryd.results21, go_sem, d0, d1, d2]) rfl (refDone_zero Hr.out ?_)
            exact (((HBo.out.setCell (p := ⟨w2.heap.size, 0, none⟩) (Nat.le_of_lt hs2) (.int .i64 1)).setCell (p := ⟨w.heap.size, 0, none⟩) (Nat.le_refl _) _).setCell (p := ⟨w.heap.size, 1, none⟩) (Nat.le_refl _) _).setCell (p := ⟨w.heap.size, 2, none⟩) (Nat.le_refl _) _
        have t1 := eqS_ne h1
        by_cases h2 : u = [102, 108, 117, 115, 104]
        · subst h2
          by_cases hk0 : k = 0
          · subst hk0
            obtain rfl := List.eq_nil_of_length_eq_zero Hlen.out
            go_wp2_with fail
            obtain ⟨W5, eW5⟩ : ∃ W5, (Wo.setCell ⟨w2.heap.size, 0, none⟩ (.int .i64 2)) = W5 := ⟨_, rfl⟩
            have HC5 := Lib.hid (show W5.heap[w2.heap.size]? = some (.cells #[.int .i64 2, .int .i64 0, .slice none 0 0] 36 (0, 0)) from by rw [← eW5]; exact (blk_set (HCo.out) 0 (.int .i64 2)))
            have HR5 := Lib.hid (show W5.heap[w.heap.size]? = some (.cells #[.int .i64 0, .int .i64 0, .slice none 0 0] 36 (0, 0)) from by rw [← eW5]; exact ((Below.heap_setCell _ _ _ _ (show w.heap.size ≠ w2.heap.size by omega)).trans (HRo.out)))
            have HB5 := Lib.hid (show Below w.heap.size w W5 from by rw [← eW5]; exact ((HBo.out).setCell (p := ⟨w2.heap.size, 0, none⟩) (Nat.le_of_lt hs2) (.int .i64 2)))
            have HI5 := Lib.hid (intsAt_nil W5)
            have HM : Hid (Calls Tryd.prog 15 #[.agg #[.int .i64 2, .int .i64 0, .slice none 0 0]] W5 fun e w' => e = .returned (.bool (mayM ⟨2, 0, []⟩)) ∧ Below W5.heap.size W5 w') := Lib.hid (refmay_any ⟨2, 0, []⟩ _ _ HI5.out (Nat.zero_le _))
            try rw [eW5]
            clear eW5 c0 c1 c2 d0 d1 d2 e0 e1 e2 f0 f1 f2
            obtain ⟨mb, emb⟩ : ∃ mb, mayM ⟨2, 0, []⟩ = mb := ⟨_, rfl⟩
            rw [emb] at HM
            have Hm := Lib.hid emb
            clear emb
            refine HM.out.mono ?_
            rintro e w6 ⟨rfl, hb6⟩
            have HC6 := Lib.hid ((hb6.block _ (Array.getElem?_eq_some_iff.1 HC5.out).1).trans HC5.out)
            have HR6 := Lib.hid ((hb6.block _ (Array.getElem?_eq_some_iff.1 HR5.out).1).trans HR5.out)
            have HI6 := Lib.hid (HI5.out.kept (CellsKept.of hb6))
            have HB6 := Lib.hid (below_more HB5.out hb6)
            clear hb6 HM
            have c0 := blk_cell HC6.out 0
            have c1 := blk_cell HC6.out 1
            have c2 := blk_cell HC6.out 2
            have e0 := blk_frozen HC6.out 0
            have e1 := blk_frozen HC6.out 1
            have e2 := blk_frozen HC6.out 2
            simp at c0 c1 c2
            have d0 := blk_cell HR6.out 0
            have d1 := blk_cell HR6.out 1
            have d2 := blk_cell HR6.out 2
            have f0 := blk_frozen HR6.out 0
            have f1 := blk_frozen HR6.out 1
            have f2 := blk_frozen HR6.out 2
            simp at d0 d1 d2
            cases mb with
            | false =>
              have Hr := Lib.hid (left_miss HL.out (q := 2) (c := ⟨2, 0, []⟩) rfl (by decide) (.inr rfl) rfl Hm.out)
              go_wp2
              refine bodyPost_ret (by simp [results, Tryd.results21, go_sem, d0, d1, d2]) rfl (refDone_zero Hr.out ?_)
              exact ((HB6.out.setCell (p := ⟨w.heap.size, 0, none⟩) (Nat.le_refl _) _).setCell (p := ⟨w.heap.size, 1, none⟩) (Nat.le_refl _) _).setCell (p := ⟨w.heap.size, 2, none⟩) (Nat.le_refl _) _
            | true =>
              have Hr := Lib.hid (left_hit HL.out (q := 2) (c := ⟨2, 0, []⟩) rfl (by decide) (.inr rfl) rfl Hm.out)
              go_wp2
              refine bodyPost_ret (by simp [results, Tryd.results21, go_sem, d0, d1, d2]) rfl (refDone_hit (c := ⟨2, 0, []⟩) (lv := .slice none 0 0) Hr.out.1 Hr.out.2 ?_ ?_)
              · exact intsAt_nil _
              · exact ((HB6.out.setCell (p := ⟨w.heap.size, 0, none⟩) (Nat.le_refl _) _).setCell (p := ⟨w.heap.size, 1, none⟩) (Nat.le_refl _) _).setCell (p := ⟨w.heap.size, 2, none⟩) (Nat.le_refl _) _
          · have Hr := Lib.hid (left_many HL.out (q := 2) rfl (by decide) (by decide) (by rw [Hlen.out]; exact hk0))
            by_cases hk1 : k = 1
            · have tk : ((k : Int) == 1) = true := by rw [hk1]; rfl
              clear hk1
              go_wp2
              refine bodyPost_ret (by simp [results, Tryd.results21, go_sem, d0, d1, d2]) rfl (refDone_zero Hr.out ?_)
              exact (((HBo.out.setCell (p := ⟨w2.heap.size, 0, none⟩) (Nat.le_of_lt hs2) (.int .i64 2)).setCell (p := ⟨w.heap.size, 0, none⟩) (Nat.le_refl _) _).setCell (p := ⟨w.heap.size, 1, none⟩) (Nat.le_refl _) _).setCell (p := ⟨w.heap.size, 2, none⟩) (Nat.le_refl _) _
            · have tk : ((k : Int) == 1) = false := by rw [beq_eq_false_iff_ne]; omega
              have t1 : decide ((1 : Int) < (k : Int)) = true := decide_eq_true (by omega)
              go_wp2
              refine bodyPost_ret (by simp [results, Tryd.results21, go_sem, d0, d1, d2]) rfl (refDone_zero Hr.out ?_)
              exact (((HBo.out.setCell (p := ⟨w2.heap.size, 0, none⟩) (Nat.le_of_lt hs2) (.int .i64 2)).setCell (p := ⟨w.heap.size, 0, none⟩) (Nat.le_refl _) _).setCell (p := ⟨w.heap.size, 1, none⟩) (Nat.le_refl _) _).setCell (p := ⟨w.heap.size, 2, none⟩) (Nat.le_refl _) _
        have t2 := eqS_ne h2
        by_cases h3 : u = [115, 119, 101, 101, 112]
        · subst h3
          by_cases hk1 : k = 1
          · subst hk1
            obtain ⟨a, rfl⟩ := List.length_eq_one_iff.1 Hlen.out
            obtain ⟨g2, cap2, hv2, hg2, hc2⟩ := own_cell HO.out (Below.refl _ Wo) (Nat.le_refl _) (j := 0) (by omega) (by omega)
            obtain rfl : na = some ⟨g2, 0, none⟩ := by injection hv2
            simp only [List.map_cons, List.getElem?_cons_zero, iV] at hc2
            have hg2w : w2.heap.size < g2 := by have := own_later HO.out g2 rfl; omega
            clear hv2
            go_wp2_with fail
            obtain ⟨W5, eW5⟩ : ∃ W5, ((Wo.setCell ⟨w2.heap.size, 0, none⟩ (.int .i64 3)).setCell ⟨w2.heap.size, 1, none⟩ (.int .i64 a)) = W5 := ⟨_, rfl⟩
            have HC5 := Lib.hid (show W5.heap[w2.heap.size]? = some (.cells #[.int .i64 3, .int .i64 a, .slice none 0 0] 36 (0, 0)) from by rw [← eW5]; exact (blk_set ((blk_set (HCo.out) 0 (.int .i64 3))) 1 (.int .i64 a)))
            have HR5 := Lib.hid (show W5.heap[w.heap.size]? = some (.cells #[.int .i64 0, .int .i64 0, .slice none 0 0] 36 (0, 0)) from by rw [← eW5]; exact ((Below.heap_setCell _ _ _ _ (show w.heap.size ≠ w2.heap.size by omega)).trans (((Below.heap_setCell _ _ _ _ (show w.heap.size ≠ w2.heap.size by omega)).trans (HRo.out)))))
            have HB5 := Lib.hid (show Below w.heap.size w W5 from by rw [← eW5]; exact ((((HBo.out).setCell (p := ⟨w2.heap.size, 0, none⟩) (Nat.le_of_lt hs2) (.int .i64 3))).setCell (p := ⟨w2.heap.size, 1, none⟩) (Nat.le_of_lt hs2) (.int .i64 a)))
            have HI5 := Lib.hid (intsAt_nil W5)
            have HM : Hid (Calls Tryd.prog 15 #[.agg #[.int .i64 3, .int .i64 a, .slice none 0 0]] W5 fun e w' => e = .returned (.bool (mayM ⟨3, a, []⟩)) ∧ Below W5.heap.size W5 w') := Lib.hid (refmay_any ⟨3, a, []⟩ _ _ HI5.out (Nat.zero_le _))
            try rw [eW5]
            clear eW5 c0 c1 c2 d0 d1 d2 e0 e1 e2 f0 f1 f2
            obtain ⟨mb, emb⟩ : ∃ mb, mayM ⟨3, a, []⟩ = mb := ⟨_, rfl⟩
            rw [emb] at HM
            have Hm := Lib.hid emb
            clear emb
            refine HM.out.mono ?_
            rintro e w6 ⟨rfl, hb6⟩
            have HC6 := Lib.hid ((hb6.block _ (Array.getElem?_eq_some_iff.1 HC5.out).1).trans HC5.out)
            have HR6 := Lib.hid ((hb6.block _ (Array.getElem?_eq_some_iff.1 HR5.out).1).trans HR5.out)
            have HI6 := Lib.hid (HI5.out.kept (CellsKept.of hb6))
            have HB6 := Lib.hid (below_more HB5.out hb6)
            clear hb6 HM
            have c0 := blk_cell HC6.out 0
            have c1 := blk_cell HC6.out 1
            have c2 := blk_cell HC6.out 2
            have e0 := blk_frozen HC6.out 0
            have e1 := blk_frozen HC6.out 1
            have e2 := blk_frozen HC6.out 2
            simp at c0 c1 c2
            have d0 := blk_cell HR6.out 0
            have d1 := blk_cell HR6.out 1
            have d2 := blk_cell HR6.out 2
            have f0 := blk_frozen HR6.out 0
            have f1 := blk_frozen HR6.out 1
            have f2 := blk_frozen HR6.out 2
            simp at d0 d1 d2
            cases mb with
            | false =>
              have Hr := Lib.hid (left_miss HL.out (q := 3) (c := ⟨3, a, []⟩) rfl (by decide) (.inr rfl) rfl Hm.out)
              go_wp2
              refine bodyPost_ret (by simp [results, Tryd.results21, go_sem, d0, d1, d2]) rfl (refDone_zero Hr.out ?_)
              exact ((HB6.out.setCell (p := ⟨w.heap.size, 0, none⟩) (Nat.le_refl _) _).setCell (p := ⟨w.heap.size, 1, none⟩) (Nat.le_refl _) _).setCell (p := ⟨w.heap.size, 2, none⟩) (Nat.le_refl _) _
            | true =>
              have Hr := Lib.hid (left_hit HL.out (q := 3) (c := ⟨3, a, []⟩) rfl (by decide) (.inr rfl) rfl Hm.out)
              go_wp2
              refine bodyPost_ret (by simp [results, Tryd.results21, go_sem, d0, d1, d2]) rfl (refDone_hit (c := ⟨3, a, []⟩) (lv := .slice none 0 0) Hr.out.1 Hr.out.2 ?_ ?_)
              · exact intsAt_nil _
              · exact ((HB6.out.setCell (p := ⟨w.heap.size, 0, none⟩) (Nat.le_refl _) _).setCell (p := ⟨w.heap.size, 1, none⟩) (Nat.le_refl _) _).setCell (p := ⟨w.heap.size, 2, none⟩) (Nat.le_refl _) _
          · have tk : ((k : Int) == 1) = false := by rw [beq_eq_false_iff_ne]; omega
            have Hr := Lib.hid (left_many HL.out (q := 3) rfl (by decide) (by decide) (by rw [Hlen.out]; exact hk1))
            go_wp2
            refine bodyPost_ret (by simp [results, Tryd.results21, go_sem, d0, d1, d2]) rfl (refDone_zero Hr.out ?_)
            exact (((HBo.out.setCell (p := ⟨w2.heap.size, 0, none⟩) (Nat.le_of_lt hs2) (.int .i64 3)).setCell (p := ⟨w.heap.size, 0, none⟩) (Nat.le_refl _) _).setCell (p := ⟨w.heap.size, 1, none⟩) (Nat.le_refl _) _).setCell (p := ⟨w.heap.size, 2, none⟩) (Nat.le_refl _) _
        have t3 := eqS_ne h3
        by_cases h4 : u = [114, 101, 108, 101, 97, 115, 101]
        · subst h4
          by_cases hk1 : k = 1
          · subst hk1
            obtain ⟨a, rfl⟩ := List.length_eq_one_iff.1 Hlen.out
            obtain ⟨g2, cap2, hv2, hg2, hc2⟩ := own_cell HO.out (Below.refl _ Wo) (Nat.le_refl _) (j := 0) (by omega) (by omega)
            obtain rfl : na = some ⟨g2, 0, none⟩ := by injection hv2
            simp only [List.map_cons, List.getElem?_cons_zero, iV] at hc2
            have hg2w : w2.heap.size < g2 := by have := own_later HO.out g2 rfl; omega
            clear hv2
            go_wp2_with fail
            obtain ⟨W5, eW5⟩ : ∃ W5, ((Wo.setCell ⟨w2.heap.size, 0, none⟩ (.int .i64 5)).setCell ⟨w2.heap.size, 1, none⟩ (.int .i64 a)) = W5 := ⟨_, rfl⟩
            have HC5 := Lib.hid (show W5.heap[w2.heap.size]? = some (.cells #[.int .i64 5, .int .i64 a, .slice none 0 0] 36 (0, 0)) from by rw [← eW5]; exact (blk_set ((blk_set (HCo.out) 0 (.int .i64 5))) 1 (.int .i64 a)))
            have HR5 := Lib.hid (show W5.heap[w.heap.size]? = some (.cells #[.int .i64 0, .int .i64 0, .slice none 0 0] 36 (0, 0)) from by rw [← eW5]; exact ((Below.heap_setCell _ _ _ _ (show w.heap.size ≠ w2.heap.size by omega)).trans (((Below.heap_setCell _ _ _ _ (show w.heap.size ≠ w2.heap.size by omega)).trans (HRo.out)))))
            have HB5 := Lib.hid (show Below w.heap.size w W5 from by rw [← eW5]; exact ((((HBo.out).setCell (p := ⟨w2.heap.size, 0, none⟩) (Nat.le_of_lt hs2) (.int .i64 5))).setCell (p := ⟨w2.heap.size, 1, none⟩) (Nat.le_of_lt hs2) (.int .i64 a)))
            have HI5 := Lib.hid (intsAt_nil W5)
            have HM : Hid (Calls Tryd.prog 15 #[.agg #[.int .i64 5, .int .i64 a, .slice none 0 0]] W5 fun e w' => e = .returned (.bool (mayM ⟨5, a, []⟩)) ∧ Below W5.heap.size W5 w') := Lib.hid (refmay_any ⟨5, a, []⟩ _ _ HI5.out (Nat.zero_le _))
            try rw [eW5]
            clear eW5 c0 c1 c2 d0 d1 d2 e0 e1 e2 f0 f1 f2
            obtain ⟨mb, emb⟩ : ∃ mb, mayM ⟨5, a, []⟩ = mb := ⟨_, rfl⟩
            rw [emb] at HM
            have Hm := Lib.hid emb
            clear emb
            refine HM.out.mono ?_
            rintro e w6 ⟨rfl, hb6⟩
            have HC6 := Lib.hid ((hb6.block _ (Array.getElem?_eq_some_iff.1 HC5.out).1).trans HC5.out)
            have HR6 := Lib.hid ((hb6.block _ (Array.getElem?_eq_some_iff.1 HR5.out).1).trans HR5.out)
            have HI6 := Lib.hid (HI5.out.kept (CellsKept.of hb6))
            have HB6 := Lib.hid (below_more HB5.out hb6)
            clear hb6 HM
            have c0 := blk_cell HC6.out 0
            have c1 := blk_cell HC6.out 1
            have c2 := blk_cell HC6.out 2
            have e0 := blk_frozen HC6.out 0
            have e1 := blk_frozen HC6.out 1
            have e2 := blk_frozen HC6.out 2
            simp at c0 c1 c2
            have d0 := blk_cell HR6.out 0
            have d1 := blk_cell HR6.out 1
            have d2 := blk_cell HR6.out 2
            have f0 := blk_frozen HR6.out 0
            have f1 := blk_frozen HR6.out 1
            have f2 := blk_frozen HR6.out 2
            simp at d0 d1 d2
            cases mb with
            | false =>
              have Hr := Lib.hid (left_miss HL.out (q := 5) (c := ⟨5, a, []⟩) rfl (by decide) (.inr rfl) rfl Hm.out)
              go_wp2
              refine bodyPost_ret (by simp [results, Tryd.results21, go_sem, d0, d1, d2]) rfl (refDone_zero Hr.out ?_)
              exact ((HB6.out.setCell (p := ⟨w.heap.size, 0, none⟩) (Nat.le_refl _) _).setCell (p := ⟨w.heap.size, 1, none⟩) (Nat.le_refl _) _).setCell (p := ⟨w.heap.size, 2, none⟩) (Nat.le_refl _) _
            | true =>
              have Hr := Lib.hid (left_hit HL.out (q := 5) (c := ⟨5, a, []⟩) rfl (by decide) (.inr rfl) rfl Hm.out)
              go_wp2
              refine bodyPost_ret (by simp [results, Tryd.results21, go_sem, d0, d1, d2]) rfl (refDone_hit (c := ⟨5, a, []⟩) (lv := .slice none 0 0) Hr.out.1 Hr.out.2 ?_ ?_)
              · exact intsAt_nil _
              · exact ((HB6.out.setCell (p := ⟨w.heap.size, 0, none⟩) (Nat.le_refl _) _).setCell (p := ⟨w.heap.size, 1, none⟩) (Nat.le_refl _) _).setCell (p := ⟨w.heap.size, 2, none⟩) (Nat.le_refl _) _
          · have tk : ((k : Int) == 1) = false := by rw [beq_eq_false_iff_ne]; omega
            have Hr := Lib.hid (left_many HL.out (q := 5) rfl (by decide) (by decide) (by rw [Hlen.out]; exact hk1))
            go_wp2
            refine bodyPost_ret (by simp [results, Tryd.results21, go_sem, d0, d1, d2]) rfl (refDone_zero Hr.out ?_)
            exact (((HBo.out.setCell (p := ⟨w2.heap.size, 0, none⟩) (Nat.le_of_lt hs2) (.int .i64 5)).setCell (p := ⟨w.heap.size, 0, none⟩) (Nat.le_refl _) _).setCell (p := ⟨w.heap.size, 1, none⟩) (Nat.le_refl _) _).setCell (p := ⟨w.heap.size, 2, none⟩) (Nat.le_refl _) _
        have t4 := eqS_ne h4
        by_cases h5 : u = [107, 101, 101, 112]
        · subst h5
          go_wp2_with fail
          obtain ⟨W5, eW5⟩ : ∃ W5, ((Wo.setCell ⟨w2.heap.size, 0, none⟩ (.int .i64 4)).setCell ⟨w2.heap.size, 2, none⟩ (.slice na k nc)) = W5 := ⟨_, rfl⟩
          have HC5 := Lib.hid (show W5.heap[w2.heap.size]? = some (.cells #[.int .i64 4, .int .i64 0, .slice na k nc] 36 (0, 0)) from by rw [← eW5]; exact (blk_set ((blk_set (HCo.out) 0 (.int .i64 4))) 2 (.slice na k nc)))
          have HR5 := Lib.hid (show W5.heap[w.heap.size]? = some (.cells #[.int .i64 0, .int .i64 0, .slice none 0 0] 36 (0, 0)) from by rw [← eW5]; exact ((Below.heap_setCell _ _ _ _ (show w.heap.size ≠ w2.heap.size by omega)).trans (((Below.heap_setCell _ _ _ _ (show w.heap.size ≠ w2.heap.size by omega)).trans (HRo.out)))))
          have HB5 := Lib.hid (show Below w.heap.size w W5 from by rw [← eW5]; exact ((((HBo.out).setCell (p := ⟨w2.heap.size, 0, none⟩) (Nat.le_of_lt hs2) (.int .i64 4))).setCell (p := ⟨w2.heap.size, 2, none⟩) (Nat.le_of_lt hs2) (.slice na k nc)))
          have HI5 := Lib.hid (show IntsAt W5 (.slice na k nc) L from by rw [← eW5]; exact (IntsAt.set ((IntsAt.set (HI.out) HFarC.out 0 (.int .i64 4))) HFarC.out 2 (.slice na k nc)))
          have HM : Hid (Calls Tryd.prog 15 #[.agg #[.int .i64 4, .int .i64 0, .slice na k nc]] W5 fun e w' => e = .returned (.bool (mayM ⟨4, 0, L⟩)) ∧ Below W5.heap.size W5 w') := Lib.hid (refmay_any ⟨4, 0, L⟩ _ _ HI5.out (by show L.length ≤ _; have := Hlen.out; omega))
          try rw [eW5]
          clear eW5 c0 c1 c2 d0 d1 d2 e0 e1 e2 f0 f1 f2
          obtain ⟨mb, emb⟩ : ∃ mb, mayM ⟨4, 0, L⟩ = mb := ⟨_, rfl⟩
          rw [emb] at HM
          have Hm := Lib.hid emb
          clear emb
          refine HM.out.mono ?_
          rintro e w6 ⟨rfl, hb6⟩
          have HC6 := Lib.hid ((hb6.block _ (Array.getElem?_eq_some_iff.1 HC5.out).1).trans HC5.out)
          have HR6 := Lib.hid ((hb6.block _ (Array.getElem?_eq_some_iff.1 HR5.out).1).trans HR5.out)
          have HI6 := Lib.hid (HI5.out.kept (CellsKept.of hb6))
          have HB6 := Lib.hid (below_more HB5.out hb6)
          clear hb6 HM
          have c0 := blk_cell HC6.out 0
          have c1 := blk_cell HC6.out 1
          have c2 := blk_cell HC6.out 2
          have e0 := blk_frozen HC6.out 0
          have e1 := blk_frozen HC6.out 1
          have e2 := blk_frozen HC6.out 2
          simp at c0 c1 c2
          have d0 := blk_cell HR6.out 0
          have d1 := blk_cell HR6.out 1
          have d2 := blk_cell HR6.out 2
          have f0 := blk_frozen HR6.out 0
          have f1 := blk_frozen HR6.out 1
          have f2 := blk_frozen HR6.out 2
          simp at d0 d1 d2
          cases mb with
          | false =>
            have Hr := Lib.hid (left_miss HL.out (q := 4) (c := ⟨4, 0, L⟩) rfl (by decide) (.inl rfl) rfl Hm.out)
            go_wp2
            refine bodyPost_ret (by simp [results, Tryd.results21, go_sem, d0, d1, d2]) rfl (refDone_zero Hr.out ?_)
            exact ((HB6.out.setCell (p := ⟨w.heap.size, 0, none⟩) (Nat.le_refl _) _).setCell (p := ⟨w.heap.size, 1, none⟩) (Nat.le_refl _) _).setCell (p := ⟨w.heap.size, 2, none⟩) (Nat.le_refl _) _
          | true =>
            have Hr := Lib.hid (left_hit HL.out (q := 4) (c := ⟨4, 0, L⟩) rfl (by decide) (.inl rfl) rfl Hm.out)
            go_wp2
            refine bodyPost_ret (by simp [results, Tryd.results21, go_sem, d0, d1, d2]) rfl (refDone_hit (c := ⟨4, 0, L⟩) (lv := .slice na k nc) Hr.out.1 Hr.out.2 ?_ ?_)
            · exact ((HI6.out.set HFarR.out _ _).set HFarR.out _ _).set HFarR.out _ _
            · exact ((HB6.out.setCell (p := ⟨w.heap.size, 0, none⟩) (Nat.le_refl _) _).setCell (p := ⟨w.heap.size, 1, none⟩) (Nat.le_refl _) _).setCell (p := ⟨w.heap.size, 2, none⟩) (Nat.le_refl _) _
        have t5 := eqS_ne h5
        by_cases h6 : u = [100, 114, 111, 112]
        · subst h6
          go_wp2_with fail
          obtain ⟨W5, eW5⟩ : ∃ W5, (((Wo.setCell ⟨w2.heap.size, 0, none⟩ (.int .i64 4)).setCell ⟨w2.heap.size, 2, none⟩ (.slice na k nc)).setCell ⟨w2.heap.size, 1, none⟩ (.int .i64 1)) = W5 := ⟨_, rfl⟩
          have HC5 := Lib.hid (show W5.heap[w2.heap.size]? = some (.cells #[.int .i64 4, .int .i64 1, .slice na k nc] 36 (0, 0)) from by rw [← eW5]; exact (blk_set ((blk_set ((blk_set (HCo.out) 0 (.int .i64 4))) 2 (.slice na k nc))) 1 (.int .i64 1)))
          have HR5 := Lib.hid (show W5.heap[w.heap.size]? = some (.cells #[.int .i64 0, .int .i64 0, .slice none 0 0] 36 (0, 0)) from by rw [← eW5]; exact ((Below.heap_setCell _ _ _ _ (show w.heap.size ≠ w2.heap.size by omega)).trans (((Below.heap_setCell _ _ _ _ (show w.heap.size ≠ w2.heap.size by omega)).trans (((Below.heap_setCell _ _ _ _ (show w.heap.size ≠ w2.heap.size by omega)).trans (HRo.out)))))))
          have HB5 := Lib.hid (show Below w.heap.size w W5 from by rw [← eW5]; exact ((((((HBo.out).setCell (p := ⟨w2.heap.size, 0, none⟩) (Nat.le_of_lt hs2) (.int .i64 4))).setCell (p := ⟨w2.heap.size, 2, none⟩) (Nat.le_of_lt hs2) (.slice na k nc))).setCell (p := ⟨w2.heap.size, 1, none⟩) (Nat.le_of_lt hs2) (.int .i64 1)))
          have HI5 := Lib.hid (show IntsAt W5 (.slice na k nc) L from by rw [← eW5]; exact (IntsAt.set ((IntsAt.set ((IntsAt.set (HI.out) HFarC.out 0 (.int .i64 4))) HFarC.out 2 (.slice na k nc))) HFarC.out 1 (.int .i64 1)))
          have HM : Hid (Calls Tryd.prog 15 #[.agg #[.int .i64 4, .int .i64 1, .slice na k nc]] W5 fun e w' => e = .returned (.bool (mayM ⟨4, 1, L⟩)) ∧ Below W5.heap.size W5 w') := Lib.hid (refmay_any ⟨4, 1, L⟩ _ _ HI5.out (by show L.length ≤ _; have := Hlen.out; omega))
          try rw [eW5]
          clear eW5 c0 c1 c2 d0 d1 d2 e0 e1 e2 f0 f1 f2
          obtain ⟨mb, emb⟩ : ∃ mb, mayM ⟨4, 1, L⟩ = mb := ⟨_, rfl⟩
          rw [emb] at HM
          have Hm := Lib.hid emb
          clear emb
          refine HM.out.mono ?_
          rintro e w6 ⟨rfl, hb6⟩
          have HC6 := Lib.hid ((hb6.block _ (Array.getElem?_eq_some_iff.1 HC5.out).1).trans HC5.out)
          have HR6 := Lib.hid ((hb6.block _ (Array.getElem?_eq_some_iff.1 HR5.out).1).trans HR5.out)
          have HI6 := Lib.hid (HI5.out.kept (CellsKept.of hb6))
          have HB6 := Lib.hid (below_more HB5.out hb6)
          clear hb6 HM
          have c0 := blk_cell HC6.out 0
          have c1 := blk_cell HC6.out 1
          have c2 := blk_cell HC6.out 2
          have e0 := blk_frozen HC6.out 0
          have e1 := blk_frozen HC6.out 1
          have e2 := blk_frozen HC6.out 2
          simp at c0 c1 c2
          have d0 := blk_cell HR6.out 0
          have d1 := blk_cell HR6.out 1
          have d2 := blk_cell HR6.out 2
          have f0 := blk_frozen HR6.out 0
          have f1 := blk_frozen HR6.out 1
          have f2 := blk_frozen HR6.out 2
          simp at d0 d1 d2
          cases mb with
          | false =>
            have Hr := Lib.hid (left_miss HL.out (q := 4) (c := ⟨4, 1, L⟩) rfl (by decide) (.inl rfl) rfl Hm.out)
            go_wp2
            refine bodyPost_ret (by simp [results, Tryd.results21, go_sem, d0, d1, d2]) rfl (refDone_zero Hr.out ?_)
            exact ((HB6.out.setCell (p := ⟨w.heap.size, 0, none⟩) (Nat.le_refl _) _).setCell (p := ⟨w.heap.size, 1, none⟩) (Nat.le_refl _) _).setCell (p := ⟨w.heap.size, 2, none⟩) (Nat.le_refl _) _
          | true =>
            have Hr := Lib.hid (left_hit HL.out (q := 4) (c := ⟨4, 1, L⟩) rfl (by decide) (.inl rfl) rfl Hm.out)
            go_wp2
            refine bodyPost_ret (by simp [results, Tryd.results21, go_sem, d0, d1, d2]) rfl (refDone_hit (c := ⟨4, 1, L⟩) (lv := .slice na k nc) Hr.out.1 Hr.out.2 ?_ ?_)
            · exact ((HI6.out.set HFarR.out _ _).set HFarR.out _ _).set HFarR.out _ _
            · exact ((HB6.out.setCell (p := ⟨w.heap.size, 0, none⟩) (Nat.le_refl _) _).setCell (p := ⟨w.heap.size, 1, none⟩) (Nat.le_refl _) _).setCell (p := ⟨w.heap.size, 2, none⟩) (Nat.le_refl _) _
        have t6 := eqS_ne h6
        have Hr := Lib.hid (left_none HL.out (by unfold kindB flushS keepS dropS; rw [if_neg h1, if_neg h2, if_neg h3, if_neg (fun e => e.elim h5 h6), if_neg h4]))
        clear h1 h2 h3 h4 h5 h6
        go_wp2
        refine bodyPost_ret (by simp [results, Tryd.results21, go_sem, d0, d1, d2]) rfl (refDone_zero Hr.out ?_)
        exact (((HBo.out).setCell (p := ⟨w.heap.size, 0, none⟩) (Nat.le_refl _) _).setCell (p := ⟨w.heap.size, 1, none⟩) (Nat.le_refl _) _).setCell (p := ⟨w.heap.size, 2, none⟩) (Nat.le_refl _) _
end Go.Proofs.YtkdigojjeiidmaaDoor
