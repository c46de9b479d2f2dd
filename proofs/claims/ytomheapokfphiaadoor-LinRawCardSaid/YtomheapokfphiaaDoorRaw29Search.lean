/-
  The contract of the document's search.
-/
import Derived.Test.YtomheapokfphiaaDoorRaw29Accepts
import Derived.Test.YtomheapokfphiaaDoorRawOn
namespace Go.Proofs.YtomheapokfphiaaDoor
open Go Go.RowKit Go.Shelf

/-- What search tells. -/
def FoundAt (w : World) (r : Option (List Int)) (e : Ending) (w' : World) : Prop := (∃ u, e = .returned (.tuple #[u, .bool r.isSome]) ∧ IntsAt w' u (r.getD [])) ∧ Below w.heap.size w w'
/-- The first one from place k on. -/
def fromM (l : List OpP) (sub : Nat → List (List Int)) (k m : Nat) : Option (List Int) := ((List.range' k m).flatMap sub).find? (wholeM l)
theorem fromM_succ (l : List OpP) (sub : Nat → List (List Int)) (k m : Nat) : fromM l sub k (m + 1) = ((sub k).find? (wholeM l)).or (fromM l sub (k + 1) m) := by
  unfold fromM
  rw [List.range'_succ, List.flatMap_cons, List.find?_append]
theorem from_skip {l : List OpP} {sub : Nat → List (List Int)} {k m : Nat} (h : sub k = []) : fromM l sub k (m + 1) = fromM l sub (k + 1) m := by
  rw [fromM_succ, h]; rfl

set_option maxRecDepth 6000 in
set_option maxHeartbeats 8000000 in
theorem search_step (pages : Int) (hp0 : 1 ≤ pages) (hp1 : pages ≤ 4096) (l : List OpP) (hlen : l.length ≤ 8) (hfit : ∀ i, i < l.length → (opAt l i).fits ∧ 0 ≤ 0) (F : LiveP → List Int → List (List Int)) (s : LiveP) (hs : s.length ≤ 400) (order : List Int) (hlo : order.length ≤ 400) (hin : ∀ x ∈ order, 0 ≤ x ∧ x < l.length)
    (lv ov sv : Value) (w : World) (hl : OpsAt w lv l) (ho : IntsAt w ov order) (hsv : LivesAt w sv s)
    (hrec : ∀ (i : Nat) (s' : LiveP) (ov' sv' : Value) (W : World), i < l.length → order.contains (i : Int) = false → doesM pages s (opAt l i) = some s' → OpsAt W lv l → IntsAt W ov' (order ++ [(i : Int)]) → LivesAt W sv' s' →
      Calls Tryd.prog 51 #[.int .i64 pages, lv, ov', sv'] W fun e W' => FoundAt W ((F s' (order ++ [(i : Int)])).find? (wholeM l)) e W') :
    Calls Tryd.prog 51 #[.int .i64 pages, lv, ov, sv] w fun e w' => FoundAt w ((order :: (List.range l.length).flatMap (subM pages l F s order)).find? (wholeM l)) e w' := by
  have HL := Lib.hid hl
  have HO := Lib.hid ho
  have HS := Lib.hid hsv
  have Hfit := Lib.hid hfit
  have Hrec := Lib.hid hrec
  have Hin := Lib.hid hin
  have H61 := all_any l (by omega) order (by omega) lv ov w hl ho
  obtain ⟨ld, lcap, rfl⟩ := ops_slice hl
  obtain ⟨od, ocap, rfl⟩ := ints_slice ho
  obtain ⟨sd, scap, rfl⟩ := lives_slice hsv
  obtain ⟨r, er⟩ : ∃ r, (order :: (List.range l.length).flatMap (subM pages l F s order)).find? (wholeM l) = r := ⟨_, rfl⟩
  rw [er]
  clear hl ho hsv hfit hrec hin
  obtain ⟨ln, eln⟩ : ∃ ln, l.length = ln := ⟨_, rfl⟩
  have Eln := Lib.hid eln
  obtain ⟨on, eon⟩ : ∃ on, order.length = on := ⟨_, rfl⟩
  have Eon := Lib.hid eon
  obtain ⟨sn, esn⟩ : ∃ sn, s.length = sn := ⟨_, rfl⟩
  have Esn := Lib.hid esn
  rw [eln] at er hlen HL H61 Hrec Hin ⊢
  rw [eon] at hlo HO H61 ⊢
  rw [esn] at hs HS ⊢
  clear eln eon esn
  obtain ⟨bw, ebw⟩ : ∃ bw, wholeM l order = bw := ⟨_, rfl⟩
  rw [ebw] at H61
  have Ebw := Lib.hid ebw
  have H61 := Lib.hid H61
  clear ebw
  cases bw with
  | true =>
    obtain rfl : r = some order := er.symm.trans (by rw [List.find?_cons, Ebw.out])
    clear er
    go_enter Tryd.func51, Tryd.ntmps51
    go_wp2_with fail
    refine H61.out.mono ?_
    rintro e w1 ⟨rfl, rfl⟩
    go_wp2
    go_ret2
    exact ⟨⟨_, rfl, HO.out⟩, Below.refl _ _⟩
  | false =>
    have Hr := Lib.hid (show r = fromM l (subM pages l F s order) 0 ln from er.symm.trans (by rw [List.find?_cons, Ebw.out]; unfold fromM; rw [List.range_eq_range']))
    clear er
    go_enter Tryd.func51, Tryd.ntmps51
    go_wp2_with fail
    refine H61.out.mono ?_
    rintro e w1 ⟨rfl, rfl⟩
    go_wp2_with fail
    go_loopw [10] (fun i wr => ∃ k : Nat, k ≤ ln ∧ i = .int .i64 (k : Nat) ∧ r = fromM l (subM pages l F s order) k (ln - k) ∧ Below w.heap.size w wr) (fun i _ => ln - (intOf i).toNat)
    case atStart => exact ⟨0, by omega, rfl, Hr.out, Below.refl _ _⟩
    case round =>
      obtain ⟨k, hk, rfl, hr, hbw⟩ := hrel
      obtain ⟨Wo, hWo⟩ : ∃ Wo, Wo = wr := ⟨_, rfl⟩
      subst hWo
      have HR := Lib.hid hr
      have HBw := Lib.hid hbw
      have HL1 := Lib.hid (HL.out.kept (CellsKept.of hbw))
      have HO1 := Lib.hid (HO.out.kept (CellsKept.of hbw))
      have HS1 := Lib.hid (HS.out.kept (CellsKept.of hbw))
      clear hr hbw
      by_cases hlt : k < ln
      · have hsplit : ln - k = (ln - (k + 1)) + 1 := by omega
        have Hskip := Lib.hid (fun (h : subM pages l F s order k = []) => (show r = fromM l (subM pages l F s order) (k + 1) (ln - (k + 1)) by rw [HR.out, hsplit, from_skip h]))
        have kI : (k : Int) < ln := by omega
        have H62 := has_any order (by rw [Eon.out]; omega) (k : Int) _ Wo HO1.out
        have H63 := behind_any l order (by rw [Eon.out]; omega) (fun x hx => by rw [Eln.out]; exact Hin.out x hx) k (by rw [Eln.out]; exact hlt) _ _ Wo HL1.out HO1.out
        obtain ⟨cb, ecb⟩ : ∃ cb, order.contains (k : Int) = cb := ⟨_, rfl⟩
        obtain ⟨ab, eab⟩ : ∃ ab, aheadM l order k = ab := ⟨_, rfl⟩
        rw [ecb] at H62
        rw [eab] at H63
        have H62 := Lib.hid H62
        have H63 := Lib.hid H63
        have Ecb := Lib.hid ecb
        have Eab := Lib.hid eab
        clear ecb eab
        cases cb with
        | true =>
          have Hn := Lib.hid (Hskip.out (by unfold subM; rw [Ecb.out]; rfl))
          go_wp2_with fail
          refine H62.out.mono ?_
          rintro e w2 ⟨rfl, rfl⟩
          go_wp2
          go_roundw
          case rel => exact ⟨k + 1, by omega, by go_num, Hn.out, HBw.out⟩
          case measure => simp [intOf]; omega
        | false =>
          cases ab with
          | true =>
            have Hn := Lib.hid (Hskip.out (by unfold subM; rw [Ecb.out, Eab.out]; rfl))
            go_wp2_with fail
            refine H62.out.mono ?_
            rintro e w2 ⟨rfl, rfl⟩
            go_wp2_with fail
            refine H63.out.mono ?_
            rintro e w3 ⟨rfl, hb3⟩
            have HB3 := Lib.hid (below_more HBw.out hb3)
            clear hb3
            go_wp2
            go_roundw
            case rel => exact ⟨k + 1, by omega, by go_num, Hn.out, HB3.out⟩
            case measure => simp [intOf]; omega
          | false =>
            have hsub : ∀ r', doesM pages s (opAt l k) = r' → subM pages l F s order k = (match r' with | none => [] | some s' => F s' (order ++ [(k : Int)])) := fun r' h => by
              unfold subM
              rw [Ecb.out, Eab.out, if_neg (by simp), h]
              cases r' <;> rfl
            have Hsub := Lib.hid hsub
            clear hsub
            go_wp2_with fail
            refine H62.out.mono ?_
            rintro e w2 ⟨rfl, rfl⟩
            go_wp2_with fail
            refine H63.out.mono ?_
            rintro e w3 ⟨rfl, hb3⟩
            have HB3 := Lib.hid (below_more HBw.out hb3)
            have HL3 := Lib.hid (HL1.out.kept (CellsKept.of hb3))
            have HO3 := Lib.hid (HO1.out.kept (CellsKept.of hb3))
            have HS3 := Lib.hid (HS1.out.kept (CellsKept.of hb3))
            clear hb3
            obtain ⟨gl, glo, cl, lvk, hvl, hgl, hLv, hc⟩ := opsAt_cell HL3.out (k := k) (by rw [Eln.out]; exact hlt)
            obtain ⟨rfl, rfl⟩ : ld = some ⟨gl, glo, none⟩ ∧ lcap = cl := by rw [Eln.out] at hvl; injection hvl with h1 h2 h3; exact ⟨h1, h3⟩
            obtain ⟨md, mcap, rfl⟩ := ints_slice hLv
            have hfk := Hfit.out k (by rw [Eln.out]; exact hlt)
            have H58 := accepts_any pages hp0 hp1 s (by rw [Esn.out]; exact hs) (opAt l k) hfk.1 (by omega) _ md mcap w3 HS3.out hLv
            obtain ⟨rd, erd⟩ : ∃ rd, doesM pages s (opAt l k) = rd := ⟨_, rfl⟩
            rw [erd] at H58
            have Erd := Lib.hid erd
            unfold opVal at H58
            have H58 := Lib.hid H58
            obtain ⟨y0, y1, y2, y3, y4, y5, y6⟩ := hc
            clear erd hvl hLv hfk
            generalize hop : opAt l k = op at *
            have Hop := Lib.hid hop
            clear hop
            obtain ⟨kd, sz, at_, cd, LL, b, e⟩ := op
            simp only [] at *
            go_wp2_with fail
            refine H58.out.mono ?_
            rintro e4 w4 ⟨⟨sv4, rfl, hsv4⟩, hb4⟩
            have HB4 := Lib.hid (below_more HB3.out hb4)
            have HL4 := Lib.hid (HL3.out.kept (CellsKept.of hb4))
            have HO4 := Lib.hid (HO3.out.kept (CellsKept.of hb4))
            have HS4 := Lib.hid hsv4
            clear hsv4 hb4 y0 y1 y2 y3 y4 y5 y6
            cases rd with
            | none =>
              have Hn := Lib.hid (Hskip.out (Hsub.out none Erd.out))
              go_wp2
              go_roundw
              case rel => exact ⟨k + 1, by omega, by go_num, Hn.out, HB4.out⟩
              case measure => simp [intOf]; omega
            | some s' =>
              simp only [Option.isSome_some, Option.getD_some] at *
              have Hs := Lib.hid (Hsub.out (some s') Erd.out)
              have Hrk := Lib.hid (fun (ov' : Value) (W : World) (hl : OpsAt W (.slice (some ⟨gl, glo, none⟩) ln lcap) l) (ho : IntsAt W ov' (order ++ [(k : Int)])) (hsv : LivesAt W sv4 s') => Hrec.out k s' ov' sv4 W hlt Ecb.out (by rw [Hop.out]; exact Erd.out) hl ho hsv)
              have Hsplit := Lib.hid (show r = ((F s' (order ++ [(k : Int)])).find? (wholeM l)).or (fromM l (subM pages l F s order) (k + 1) (ln - (k + 1))) by rw [HR.out, hsplit, fromM_succ, Hs.out])
              obtain ⟨rr, err⟩ : ∃ rr, (F s' (order ++ [(k : Int)])).find? (wholeM l) = rr := ⟨_, rfl⟩
              rw [err] at Hrk Hsplit
              clear err
              obtain ⟨i0, hi0, hz0, hz1, hz2⟩ := info_parts' lInfo3
              obtain ⟨W4, hW4⟩ : ∃ W4, W4 = w4 := ⟨_, rfl⟩
              subst hW4
              have hone2 : ∀ v ∈ [Value.int .i64 (k : Nat)], v.oneCell' = true := by simp [Value.oneCell']
              have Hone2 := Lib.hid hone2
              clear hone2
              obtain ⟨ad, cap', hv', hcase⟩ := HO4.out
              cases od with
              | none =>
                obtain ⟨rfl, rfl⟩ : on = 0 ∧ order = [] := by
                  have hord : order = [] := by
                    rcases hcase with h | ⟨g, c, h, _⟩
                    · exact h
                    · rw [h] at hv'
                      injection hv' with h1 _ _
                      cases h1
                  refine ⟨?_, hord⟩
                  have := Eon.out
                  rw [hord] at this
                  exact this.symm
                have hs2 : (W4.alloc (.cells #[] 3)).heap.size = W4.heap.size + 1 := by simp
                have Hnews := Lib.hid (World.news_of_block (World.alloc_heap_new (W4.alloc (.cells #[] 3)) (.cells #[.int .i64 (k : Nat)] 3)))
                rw [hs2] at Hnews
                have Hl2 := Lib.hid ((lOwn0 W4).alloc (.cells #[.int .i64 (k : Nat)] 3))
                clear hv' hcase
                go_wp2_with (at_builtin; refine wpList_append_lies _ rfl _ _ 41 rfl W4.heap.size 3 i0 (.int .i64 0) 1 8 Tryd.underlying41 hi0 hz0 hz1 hz2 rfl (by decide) _ _ _ rfl Hl2.out _ 1 1 _ rfl rfl Hnews.out Hone2.out (by omega) (by unfold maxLen; omega) (by omega) (by simp; omega) _ rfl ?_; intro g' cap9 w9 hown9 hgrow9 _ _)
                have HI9 := Lib.hid (ints_of_owns (L := [] ++ [(k : Int)]) hown9)
                have HB9 := Lib.hid (((new_below (w := W4) (.cells #[] 3)).alloc (by simp) (.cells #[.int .i64 (k : Nat)] 3)).grown hgrow9 (by simp; omega) (own_later Hl2.out))
                clear hown9 hgrow9
                refine (Hrk.out _ w9 (HL4.out.kept (CellsKept.of HB9.out)) HI9.out (HS4.out.kept (CellsKept.of HB9.out))).mono ?_
                rintro e10 w10 ⟨⟨u, rfl, hu⟩, hb10⟩
                have HU := Lib.hid hu
                have HB10 := Lib.hid (below_more (below_more HB4.out HB9.out) hb10)
                clear hu hb10
                cases rr with
                | none =>
                  go_wp2
                  go_roundw
                  case rel => exact ⟨k + 1, by omega, by go_num, Hsplit.out, HB10.out⟩
                  case measure => simp [intOf]; omega
                | some x =>
                  obtain rfl : r = some x := Hsplit.out
                  simp only [Option.isSome_some, Option.getD_some] at *
                  go_wp2
                  go_ret2
                  exact ⟨⟨_, rfl, HU.out⟩, HB10.out⟩
              | some A =>
                have hnews1 : ∀ j u, (order.map iV)[j]? = some u → (W4.alloc (.cells #[] 3)).cell? (A.add j) = some u := fun j u hu => by
                  rcases hcase with h | ⟨g, c, h, hg, hcell, _⟩
                  · rw [h] at hu
                    simp at hu
                  · rw [h] at hv'
                    injection hv' with h1 _ _
                    injection h1 with h1
                    rw [h1, addc]
                    rw [List.getElem?_map] at hu
                    obtain ⟨y, hy, rfl⟩ := Option.map_eq_some_iff.1 hu
                    rw [(new_below (w := W4) (.cells #[] 3)).cell (p := ⟨g, c + j, none⟩) hg]
                    exact hcell j y hy
                have hone1 : ∀ u ∈ order.map iV, u.oneCell' = true := fun u hu => by
                  obtain ⟨y, _, rfl⟩ := List.mem_map.1 hu
                  rfl
                have Hnews1 := Lib.hid hnews1
                have Hone1 := Lib.hid hone1
                clear hnews1 hone1 hv' hcase
                go_wp2_with (first
                  | (at_builtin; refine wpList_append_own_at _ rfl _ _ 41 rfl W4.heap.size 3 i0 (.int .i64 0) 1 8 Tryd.underlying41 hi0 hz0 hz1 hz2 rfl (by decide) _ 0 [] rfl (lOwn0 W4) A _ _ (order.map iV) rfl (by simp [Eon.out]) Hnews1.out Hone1.out (by unfold maxLen; omega) (by omega) (by simp) ?_; intro v' w5 hown5' hgrow5 _ _; have hown5 := hown5'; rw [Nat.zero_add, List.nil_append] at hown5; obtain ⟨vd, vc, rfl⟩ := own_slice hown5; have Hown5 := Lib.hid (hown5.alloc (.cells #[.int .i64 (k : Nat)] 3)); have Hnews5 := Lib.hid (World.news_of_block (World.alloc_heap_new w5 (.cells #[.int .i64 (k : Nat)] 3))); have HB5 := Lib.hid ((new_below (w := W4) (.cells #[] 3)).grown hgrow5 (by simp) (fun k e => by cases e; exact Nat.le_refl _)); clear hown5 hown5' hgrow5)
                  | (at_builtin; refine wpList_append_lies _ rfl _ _ 41 rfl W4.heap.size 3 i0 (.int .i64 0) 1 8 Tryd.underlying41 hi0 hz0 hz1 hz2 rfl (by decide) _ _ _ rfl Hown5.out _ 1 1 _ rfl rfl Hnews5.out Hone2.out (by omega) (by unfold maxLen; omega) (by omega) (by have := HB5.out.size; simp; omega) _ rfl ?_; intro g' cap9 w9 hown9 hgrow9 _ _))
                have HI9 := Lib.hid (ints_of_owns (L := order ++ [(k : Int)]) (by rw [List.map_append]; exact hown9))
                have HB9 := Lib.hid ((HB5.out.alloc HB5.out.size (.cells #[.int .i64 (k : Nat)] 3)).grown hgrow9 (by have := HB5.out.size; simp; omega) (own_later Hown5.out))
                clear hown9 hgrow9
                refine (Hrk.out _ w9 (HL4.out.kept (CellsKept.of HB9.out)) HI9.out (HS4.out.kept (CellsKept.of HB9.out))).mono ?_
                rintro e10 w10 ⟨⟨u, rfl, hu⟩, hb10⟩
                have HU := Lib.hid hu
                have HB10 := Lib.hid (below_more (below_more HB4.out HB9.out) hb10)
                clear hu hb10
                cases rr with
                | none =>
                  go_wp2
                  go_roundw
                  case rel => exact ⟨k + 1, by omega, by go_num, Hsplit.out, HB10.out⟩
                  case measure => simp [intOf]; omega
                | some x =>
                  obtain rfl : r = some x := Hsplit.out
                  simp only [Option.isSome_some, Option.getD_some] at *
                  go_wp2
                  go_ret2
                  exact ⟨⟨_, rfl, HU.out⟩, HB10.out⟩
      · obtain rfl : k = ln := by omega
        obtain rfl : r = none := by rw [HR.out, Nat.sub_self]; rfl
        go_wp2
        go_ret2
        exact ⟨⟨_, rfl, intsAt_nil _⟩, HBw.out⟩
end Go.Proofs.YtomheapokfphiaaDoor
