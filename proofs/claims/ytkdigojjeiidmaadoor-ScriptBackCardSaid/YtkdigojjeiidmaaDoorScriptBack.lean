/-
  ScriptBack's walk.
-/
import Derived.Test.YtkdigojjeiidmaaDoorBackCall
import Derived.Test.YtkdigojjeiidmaaDoorBackRegion
import Derived.Test.YtkdigojjeiidmaaDoorNumber
import Derived.Test.YtkdigojjeiidmaaDoorAwake
namespace Go.Proofs.YtkdigojjeiidmaaDoor
open Go Go.RowKit Go.Shelf

theorem text_small {o : CallP} (h : mayM o = true) (ok : CallOk o) : (textM o).length ≤ 300 := by
  have hn := nums_ok h ok
  rw [(text_words h ok).1, List.length_append, ← namesT_join]
  have h1 := namesT_len (L := numsOf o) (fun n hm => by have := hn n hm; unfold i64ok; omega)
  have h2 : (numsOf o).length ≤ 8 := by
    by_cases h4 : o.kind = 4
    · obtain ⟨k, a, L⟩ := o
      obtain rfl : k = 4 := h4
      have := may_len h
      unfold numsOf
      rw [if_pos rfl]
      exact this
    · rw [nums_len h4]
      unfold wantN
      split <;> omega
  have h3 : (headM o).length ≤ 7 := by
    unfold headM flushS dropS keepS
    repeat (first | decide | split)
  omega

theorem places_start {t : List UInt8} {m : Nat} (h : t.length = m) : ∀ x ∈ [(0 : Int), (m : Int)], Place t x := by
  intro x hx
  rcases List.mem_cons.1 hx with rfl | hx
  · exact ⟨0, rfl, Nat.zero_le _, .inl rfl⟩
  · obtain rfl := List.mem_singleton.1 hx
    exact ⟨m, rfl, by omega, .inr (.inl h.symm)⟩
theorem last_get {t : List UInt8} {m m' : Nat} (h : t.length = m) (h1 : m' < m) (h2 : m ≤ m' + 1) : t.getLast? = some (t[m']'(by omega)) := by
  rw [List.getLast?_eq_getElem?, List.getElem?_eq_getElem (by omega)]
  congr 1
  congr 1
  omega
theorem last_dense {t : List UInt8} {m m' : Nat} {b : UInt8} (hl : t.getLast? = some b) (h : t.length = m) (h1 : m' < m) (h2 : m ≤ m' + 1) (hb : 48 ≤ b.toNat) : Dense (t.drop m') := by
  rw [last_get h h1 h2] at hl
  obtain rfl := Option.some.inj hl
  rw [List.drop_eq_getElem_cons (show m' < t.length by omega), List.drop_eq_nil_of_le (by omega)]
  intro c hc
  obtain rfl := List.mem_singleton.1 hc
  intro e
  rw [e] at hb
  exact absurd hb (by decide)
theorem drop_dense {l : List UInt8} {i : Nat} (h : i < l.length) (hc : l[i] ≠ 32) (hd : Dense (l.drop (i + 1))) : Dense (l.drop i) := by
  rw [List.drop_eq_getElem_cons h]
  intro c hm
  rcases List.mem_cons.1 hm with rfl | hm
  · exact hc
  · exact hd c hm
theorem places_more {t : List UInt8} {L : List Int} (h : ∀ x ∈ L, Place t x) {y : Int} (hy : Place t y) : ∀ x ∈ L ++ [y], Place t x := by
  intro x hx
  rcases List.mem_append.1 hx with hx | hx
  · exact h x hx
  · obtain rfl := List.mem_singleton.1 hx
    exact hy
theorem own_base {w : World} {B e s n : Nat} {v : Value} {xs : List Value} (h : w.ownsRow B e s v n xs) (hn : 0 < n) : B ≤ w.heap.size := by
  rcases h.2 with ⟨_, h0⟩ | ⟨g, cap, cur, _, hb, hg, _⟩
  · omega
  · have := (Array.getElem?_eq_some_iff.1 hg).1
    omega
set_option maxRecDepth 100000 in
set_option maxHeartbeats 8000000 in
theorem scriptBack_any (k a n : Nat) (hk : k ≤ 255) (ha : a ≤ 255) (hn : n < 18446744073709551616) (sv : Value) (ls : List Nat) (at' : Nat) (hat : at' ≤ 255) (w : World) (hs : ShortsAt w sv ls) (h65 : ∀ x ∈ ls, x ≤ 65535) (hmax : ls.length ≤ 9223372036854775807) (hv : Vars w) :
    Calls Tryd.prog 8 #[.int .u8 k, .int .u8 a, .int .u64 n, sv, .int .u8 at'] w fun e w' => e = .returned (.bool true) ∧ Below w.heap.size w w' := by
  have HC := Lib.hid (callB_any k a n hk ha hn sv ls w hs h65 hmax)
  have hmay : mayM (callB k a n ls) = true := callB_may h65
  have hok : CallOk (callB k a n ls) := callB_ok hn h65
  have HS := Lib.hid hs
  obtain ⟨sd, sc, rfl, _⟩ := hs
  generalize callB k a n ls = c at *
  obtain ⟨t, et⟩ : ∃ t, textM c = t := ⟨_, rfl⟩
  have hrt := read_text hmay hok
  have hts := text_small hmay hok
  have htne := head_text_ne hmay hok
  rw [et] at hrt hts htne
  have Hbl := Lib.hid (fun (j : Nat) (hj : j ≤ t.length) (h : j = 0 ∨ j = t.length ∨ t[j]? = some 32) => back_blank (l := t) (by omega) hj h)
  have Hno := Lib.hid (fun (j : Nat) (b : UInt8) (h1 : j < t.length) (h2 : Dense (t.drop j)) (h3 : t.getLast? = some b) (h4 : 48 ≤ b.toNat ∧ b.toNat ≤ 57) (h5 : j = 0 ∨ t[j - 1]? = some 32) => by
    have := back_nought hmay hok (j := j) (b := b) (by rw [et]; omega) (by rw [et]; exact h1) (by rw [et]; exact h2) (by rw [et]; exact h3) h4 (by rw [et]; exact h5)
    rw [et] at this
    exact this)
  have HRd := Lib.hid (fun (wx : World) (hb : Below w.heap.size w wx) => read_any t (by omega) wx (hv.below hb))
  have HRn := Lib.hid (fun (s : List UInt8) (hs : s.length ≤ 2097152) (h : (readM s).2 = false) (wx : World) (hb : Below w.heap.size w wx) => (read_all s hs wx (hv.below hb)).mono (fun e w' hh => (⟨hh.2 h, hh.1.2⟩ : e = .returned (.tuple #[.agg #[.int .i64 0, .int .i64 0, .slice none 0 0], .bool false]) ∧ Below wx.heap.size wx w')))
  have HAw := Lib.hid (fun (wx : World) (hb : Below w.heap.size w wx) => awake_any wx (hv.below hb).pow)
  have HT := Lib.hid (fun (lv : Value) (wx : World) (h : IntsAt wx lv c.L) (hb : Below w.heap.size w wx) => by
    have := text_any c lv wx h hok.2.1 hok.1 hok.2.2 (hv.below hb).pow
    rw [et] at this
    exact this)
  have HM := Lib.hid (fun (lv : Value) (wx : World) (h : IntsAt wx lv c.L) => by
    have := may_any c lv wx h hok.2.1
    rw [hmay] at this
    exact this)
  have HSc := Lib.hid (fun (lv mv : Value) (wx : World) (h : IntsAt wx lv c.L) (h2 : IntsAt wx mv c.L) => by
    have := sameCall_any c c lv mv wx h h2 hok.2.1
    rw [sameC_self] at this
    exact this)
  have Hrt := Lib.hid hrt
  clear hmay hok hv hrt h65 et
  go_enter Tryd.func8, Tryd.ntmps8
  go_wp2_with fail
  refine HC.out.mono ?_
  rintro e w1 ⟨lv, rfl, hi, hb1⟩
  obtain ⟨la, lc, rfl⟩ := intsAt_shape hi
  obtain ⟨W2, eW2⟩ : ∃ W2, w1.alloc (.cells #[.int .i64 c.kind, .int .i64 c.a, .slice la c.L.length lc] 36) = W2 := ⟨_, rfl⟩
  have HX2 := Lib.hid (show W2.heap[w1.heap.size]? = some (.cells #[.int .i64 c.kind, .int .i64 c.a, .slice la c.L.length lc] 36 (0, 0)) from by rw [← eW2]; exact World.alloc_heap_new _ _)
  have hI2 : IntsAt W2 (.slice la c.L.length lc) c.L := by rw [← eW2]; exact hi.kept (CellsKept.of (new_below _))
  have hB2 : Below w.heap.size w W2 := by rw [← eW2]; exact below_more hb1 (new_below _)
  have HI2 := Lib.hid hI2
  have HB2 := Lib.hid hB2
  have HT2 := Lib.hid (HT.out _ W2 hI2 hB2)
  clear hi hb1 hI2 hB2 HT HC HS
  unfold callV at *
  obtain ⟨ck, ca, cL⟩ := c
  simp only at *
  have hx0 := blk_cell HX2.out 0
  have hx1 := blk_cell HX2.out 1
  have hx2 := blk_cell HX2.out 2
  simp at hx0 hx1 hx2
  obtain ⟨cn, ecn⟩ : ∃ cn, cL.length = cn := ⟨_, rfl⟩
  rw [ecn] at HT2 HX2 HI2 hx2 eW2 ⊢
  have Ecn := Lib.hid ecn
  have Htne := Lib.hid htne
  clear ecn htne
  go_wp2_with fail
  try rw [eW2]
  clear eW2
  refine HT2.out.mono ?_
  rintro e w3 ⟨rfl, hb3⟩
  have HB3 := Lib.hid (below_more HB2.out hb3)
  have HX3 := Lib.hid ((hb3.block _ (Array.getElem?_eq_some_iff.1 HX2.out).1).trans HX2.out)
  have HI3 := Lib.hid (HI2.out.kept (CellsKept.of hb3))
  have HR3 := Lib.hid (HRd.out w3 HB3.out)
  clear hb3 HT2 HB2 HX2 HI2 hx0 hx1 hx2
  go_wp2_with fail
  refine HR3.out.mono ?_
  rintro e w4 ⟨⟨xv, rfl, hxi⟩, hb4⟩
  rw [Hrt.out] at hxi ⊢
  simp only [callV] at hxi ⊢
  obtain ⟨xa, xc, rfl⟩ := intsAt_shape hxi
  rw [Ecn.out] at hxi ⊢
  obtain ⟨W5, eW5⟩ : ∃ W5, w4.alloc (.cells #[.int .i64 ck, .int .i64 ca, .slice xa cn xc] 36) = W5 := ⟨_, rfl⟩
  have hb35 : Below w3.heap.size w3 W5 := by rw [← eW5]; exact below_more hb4 (new_below _)
  have hY5 : W5.heap[w4.heap.size]? = some (.cells #[.int .i64 ck, .int .i64 ca, .slice xa cn xc] 36 (0, 0)) := by rw [← eW5]; exact World.alloc_heap_new _ _
  have hX5 := (hb35.block _ (Array.getElem?_eq_some_iff.1 HX3.out).1).trans HX3.out
  have HIx := Lib.hid (show IntsAt W5 (.slice xa cn xc) cL from by rw [← eW5]; exact hxi.kept (CellsKept.of (new_below _)))
  have HI5 := Lib.hid (HI3.out.kept (CellsKept.of hb35))
  have HB5 := Lib.hid (below_more HB3.out hb35)
  have HM5 := Lib.hid (HM.out _ W5 HI5.out)
  have HX5 := Lib.hid hX5
  have HY5 := Lib.hid hY5
  have x0 := blk_cell hX5 0
  have x1 := blk_cell hX5 1
  have x2 := blk_cell hX5 2
  simp at x0 x1 x2
  clear hxi hb4 hb35 hX5 hY5 HX3 HI3 HB3 HR3 HRd HM
  go_wp2_with fail
  try rw [eW5]
  clear eW5
  refine HM5.out.mono ?_
  rintro e w6 ⟨rfl, hb6⟩
  have hX6 := (hb6.block _ (Array.getElem?_eq_some_iff.1 HX5.out).1).trans HX5.out
  have hY6 := (hb6.block _ (Array.getElem?_eq_some_iff.1 HY5.out).1).trans HY5.out
  have HB6 := Lib.hid (below_more HB5.out hb6)
  have HSc6 := Lib.hid (HSc.out _ _ w6 (HIx.out.kept (CellsKept.of hb6)) (HI5.out.kept (CellsKept.of hb6)))
  clear hb6 x0 x1 x2 HM5 HX5 HY5 HB5 HIx HI5 HSc
  have x0 := blk_cell hX6 0
  have x1 := blk_cell hX6 1
  have x2 := blk_cell hX6 2
  have y0 := blk_cell hY6 0
  have y1 := blk_cell hY6 1
  have y2 := blk_cell hY6 2
  simp at x0 x1 x2 y0 y1 y2
  clear hX6 hY6
  have hte : (t == []) = false := by simpa using Htne.out
  go_wp2_with fail
  refine HSc6.out.mono ?_
  rintro e w7 ⟨rfl, hb7⟩
  have HB7 := Lib.hid (below_more HB6.out hb7)
  clear hb7 HSc6 HB6 x0 x1 x2 y0 y1 y2 hte
  have hS := strIs t
  have Hmb := Lib.hid (fun (p : Nat) (b : UInt8) => moreB_eq t p b)
  generalize (⟨t.toArray⟩ : ByteArray) = s at *
  obtain ⟨hsz, hget, _⟩ := hS
  obtain ⟨m, hm⟩ : ∃ m, t.length = m := ⟨_, rfl⟩
  rw [hm] at hsz hts Hbl Hno
  have Hm := Lib.hid hm
  have hm0 : 0 < m := by rw [← hm]; exact List.length_pos_iff.2 Htne.out
  clear hm Hrt Ecn Htne
  obtain ⟨m', em'⟩ : ∃ m', m = m' + 1 := ⟨m - 1, by omega⟩
  have hm1 : (m : Int) - 1 = (m' : Int) := by omega
  have hmm : m' < m ∧ m ≤ m' + 1 := by omega
  clear em'
  obtain ⟨i0, hi0, hz0, hz1, hz2⟩ := info_parts' info3
  go_wp2_with fail
  have hown0 := World.ownsRow_lit (base := w7.heap.size) (e := 3) (size := 1) w7 #[.int .i64 0, .int .i64 m] 2 (Nat.le_refl _) (by decide) rfl
  have HB8 := Lib.hid (below_more HB7.out (new_below (w := w7) (.cells #[.int .i64 0, .int .i64 m] 3)))
  obtain ⟨W8, eW8⟩ : ∃ W8, w7.alloc (.cells #[.int .i64 0, .int .i64 m] 3) = W8 := ⟨_, rfl⟩
  rw [eW8] at hown0 HB8
  try rw [eW8]
  clear eW8
  have HO8 := Lib.hid hown0
  clear hown0
  go_loopw [15, 16] (fun v i wr => ∃ (j q : Nat) (L : List Int), j ≤ m ∧ i = .int .i64 j ∧ (2 ≤ q ∧ q ≤ j + 2) ∧ Hid (∀ x ∈ L, Place t x) ∧ wr.ownsRow w7.heap.size 3 1 v q (L.map iV) ∧ Hid (Below w.heap.size w wr)) (fun _ i _ => m - (intOf i).toNat)
  case atStart => exact ⟨0, 2, [0, m], by omega, rfl, ⟨by omega, by omega⟩, Lib.hid (places_start Hm.out), HO8.out, HB8⟩
  case round =>
    obtain ⟨j, q, L, hj, rfl, ⟨hq1, hq2⟩, HP, hown, HBo⟩ := hrel
    obtain ⟨Wo, hWo⟩ : ∃ Wo, Wo = wr := ⟨_, rfl⟩
    subst hWo
    obtain ⟨pa, pc, rfl⟩ := own_slice hown
    have HO := Lib.hid hown
    clear hown
    by_cases hlt : j < m
    · have hji : (j : Int) < m := by omega
      have hjl : j < t.length := by rw [Hm.out]; exact hlt
      have hb := bN_get hjl
      by_cases hsp : t[j] = 32
      · have t1 : (bN t j == 32) = true := by rw [hb, hsp]; rfl
        have HG := Lib.hid (places_more HP.out (show Place t (j : Nat) from ⟨j, rfl, by omega, .inr (.inr (by rw [List.getElem?_eq_getElem hjl, hsp]))⟩))
        clear hb hsp
        have Hnews := Lib.hid (World.news_of_block (World.alloc_heap_new Wo (.cells #[.int .i64 j] 3)))
        have Hone := Lib.hid (show ∀ v ∈ [Value.int .i64 j], v.oneCell' = true by simp [Value.oneCell'])
        have Hl2 := Lib.hid (HO.out.alloc (.cells #[.int .i64 j] 3))
        have hsz3 := HBo.out.size
        have hsz7 := own_base HO.out (by omega)
        go_wp2_with (at_builtin; refine wpList_append_lies _ rfl _ _ 27 rfl w7.heap.size 3 i0 (.int .i64 0) 1 8 Tryd.underlying27 hi0 hz0 hz1 hz2 rfl (by decide) _ _ _ rfl Hl2.out _ 1 1 _ rfl rfl Hnews.out Hone.out (by omega) (by unfold maxLen; omega) (by omega) (by simp; omega) _ rfl ?_; intro g' cap' w9 hown' hgrow _ _)
        have HB9 := Lib.hid ((HBo.out.alloc hsz3 (.cells #[.int .i64 j] 3)).grown hgrow (by simp; omega) (fun j e => by have := own_later HO.out j e; have := HB7.out.size; omega))
        go_roundw
        case rel => exact ⟨j + 1, q + 1, L ++ [(j : Int)], by omega, by go_num, ⟨by omega, by omega⟩, HG, by rw [List.map_append]; exact hown', HB9⟩
        case measure => simp [intOf]; omega
      · have t1 : (bN t j == 32) = false := by
          rw [beq_eq_false_iff_ne, hb]
          intro e
          exact hsp (UInt8.toNat_inj.1 (show t[j].toNat = 32 by omega))
        clear hb hsp
        go_wp2_with fail
        go_roundw
        case rel => exact ⟨j + 1, q, L, by omega, by go_num, ⟨by omega, by omega⟩, HP, HO.out, HBo⟩
        case measure => simp [intOf]; omega
    · obtain rfl : j = m := by omega
      have qt : (at' : Int).tmod (q : Nat) = ((at' % q : Nat) : Int) := tmod_nat at' q
      have hq0 : ((q : Int) == 0) = false := by rw [beq_eq_false_iff_ne]; omega
      have hqm : at' % q < q := Nat.mod_lt _ (by omega)
      obtain ⟨g, cap, hv, hg, hcell⟩ := own_cell HO.out (Below.refl _ Wo) (Nat.le_refl _) (j := at' % q) (by omega) (by omega)
      obtain rfl : pa = some ⟨g, 0, none⟩ := by injection hv
      obtain ⟨x, hxm, hx⟩ := map_get (f := iV) (l := L) (j := at' % q) (by have := HO.out.1; rw [List.length_map] at this; omega)
      rw [hx] at hcell
      simp only [iV] at hcell
      obtain ⟨p, rfl, hple, hpl⟩ := HP.out x (List.mem_of_getElem? hxm)
      have Hpl := Lib.hid (Hbl.out p (by have := Hm.out; omega) (by have := Hm.out; rw [← this]; exact hpl))
      rw [Hm.out] at hple
      have Hbr := Lib.hid (fun wx (h : Below w.heap.size w wx) => HRn.out _ (by have := Hm.out; rw [List.length_append, List.length_cons, List.length_take, List.length_drop]; omega) Hpl.out wx h)
      clear hv hx hxm hpl
      generalize at' % q = r at *
      go_upto_region 13 with (fail)
      refine blank_region s p (by omega) (by omega) ?text rfl rfl rfl rfl ?hC ?rest
      case text =>
        intro i o ho
        have hi : i < 15 := (Array.getElem?_eq_some_iff.1 ho).1
        rcases (show i = 0 ∨ i = 1 ∨ i = 2 ∨ i = 3 ∨ i = 4 ∨ i = 5 ∨ i = 6 ∨ i = 7 ∨ i = 8 ∨ i = 9 ∨ i = 10 ∨ i = 11 ∨ i = 12 ∨ i = 13 ∨ i = 14 by omega) with rfl | rfl | rfl | rfl | rfl | rfl | rfl | rfl | rfl | rfl | rfl | rfl | rfl | rfl | rfl
        all_goals
          obtain rfl := Option.some.inj ho
          exact ⟨_, _, _, rfl, rfl, rfl, rfl, rfl, rfl⟩
      case hC =>
        intro wx hwx
        rw [Hmb.out]
        exact Hbr.out wx (below_more HBo.out hwx)
      case rest =>
        intro a W1 ha1 ha2 ha3 h19 hB1
        obtain ⟨u, hu, ea⟩ : ∃ u : Nat → Value, (∀ t, Tm a t = u t) ∧ a = putL [77, 78, 79, 80, 81, 82, 83, 84, 85, 86, 87, 88, 18, 19] u _ := ⟨Tm a, fun _ => rfl, act_eq _ ha1 ha2 fun t ht => ha3 t (by simp at ht; omega) (by simp at ht; omega) (by simp at ht; omega)⟩
        have h19' := (hu 19).symm.trans h19
        clear hu ha1 ha2 ha3 h19
        subst ea
        simp only [putL, h19', Act.put, List.setIfInBounds_toArray, List.set_cons_succ, List.set_cons_zero]
        clear h19'
        have HB1 := Lib.hid (below_more HBo.out hB1)
        clear hB1 HBo
        have hml : m' < t.length := by rw [Hm.out]; omega
        have hb := bN_get hml
        have Hlast := Lib.hid (last_get Hm.out hmm.1 hmm.2)
        generalize t[m'] = b at *
        by_cases h48 : 48 ≤ b.toNat
        · have t1 : decide ((48 : Int) ≤ bN t m') = true := decide_eq_true (by omega)
          by_cases h57 : b.toNat ≤ 57
          · have t2 : decide (bN t m' ≤ (57 : Int)) = true := decide_eq_true (by omega)
            have Hdig := Lib.hid (And.intro h48 h57)
            have Hd0 := Lib.hid (last_dense Hlast.out Hm.out hmm.1 hmm.2 (by omega))
            clear hb h48 h57
            go_wp2_with fail
            go_loopw [20] (fun v wr => ∃ i : Nat, i ≤ m' ∧ v = .int .i64 i ∧ Hid (Dense (t.drop i)) ∧ Hid (Below w.heap.size w wr)) (fun v _ => (intOf v).toNat)
            case atStart => exact ⟨m', by omega, rfl, Hd0, HB1⟩
            case round =>
              obtain ⟨i, hi, rfl, Hd, HBr⟩ := hrel
              obtain ⟨Wq, hWq⟩ : ∃ Wq, Wq = wr := ⟨_, rfl⟩
              subst hWq
              by_cases h0 : i = 0
              · have d0 : decide ((0 : Int) < (i : Int)) = false := decide_eq_false (by omega)
                have d0' : decide (0 < i) = false := decide_eq_false (by omega)
                have He := Lib.hid (show i = 0 ∨ t[i - 1]? = some 32 from .inl h0)
                clear h0
                have Hnr := Lib.hid (fun wx (h : Below w.heap.size w wx) => HRn.out _ (by have := Hm.out; rw [List.length_append, List.length_cons, List.length_take, List.length_drop]; omega) (Hno.out i b (by omega) Hd.out Hlast.out Hdig.out He.out) wx h)
                clear He
                go_upto_region 20 with (fail)
                refine nought_region s i (by omega) (by omega) ?text2 rfl rfl rfl rfl ?hC2 ?rest2
                case text2 =>
                  intro i' o ho
                  have hi : i' < 15 := (Array.getElem?_eq_some_iff.1 ho).1
                  rcases (show i' = 0 ∨ i' = 1 ∨ i' = 2 ∨ i' = 3 ∨ i' = 4 ∨ i' = 5 ∨ i' = 6 ∨ i' = 7 ∨ i' = 8 ∨ i' = 9 ∨ i' = 10 ∨ i' = 11 ∨ i' = 12 ∨ i' = 13 ∨ i' = 14 by omega) with rfl | rfl | rfl | rfl | rfl | rfl | rfl | rfl | rfl | rfl | rfl | rfl | rfl | rfl | rfl
                  all_goals
                    obtain rfl := Option.some.inj ho
                    exact ⟨_, _, _, rfl, rfl, rfl, rfl, rfl, rfl⟩
                case hC2 =>
                  intro wx hwx
                  rw [Hmb.out]
                  exact Hnr.out wx (below_more HBr.out hwx)
                case rest2 =>
                  intro a W2 ha1 ha2 ha3 h22 hB2
                  obtain ⟨u, hu, ea⟩ : ∃ u : Nat → Value, (∀ t, Tm a t = u t) ∧ a = putL [118, 119, 120, 121, 122, 123, 124, 125, 126, 127, 128, 129, 21, 22] u _ := ⟨Tm a, fun _ => rfl, act_eq _ ha1 ha2 fun t ht => ha3 t (by simp at ht; omega) (by simp at ht; omega) (by simp at ht; omega)⟩
                  have h22' := (hu 22).symm.trans h22
                  clear hu ha1 ha2 ha3 h22
                  subst ea
                  simp only [putL, h22', Act.put, List.setIfInBounds_toArray, List.set_cons_succ, List.set_cons_zero]
                  clear h22'
                  have HB2' := Lib.hid (below_more HBr.out hB2)
                  clear hB2 HBr
                  have HA := HAw.out W2 HB2'.out
                  go_wp2_with fail
                  refine HA.mono ?_
                  rintro e w9 ⟨rfl, hb9⟩
                  have HB9 := Lib.hid (below_more HB2'.out hb9)
                  clear hb9
                  go_wp2
                  go_ret
                  exact ⟨rfl, HB9.out⟩
              · obtain ⟨i', ei⟩ : ∃ i', i = i' + 1 := ⟨i - 1, by omega⟩
                have hil : i' < t.length := by rw [Hm.out]; omega
                have hbi := bN_get hil
                have hpos : decide ((0 : Int) < (i : Int)) = true := decide_eq_true (by omega)
                have hpos' : decide (0 < i) = true := decide_eq_true (by omega)
                have hi1 : (i : Int) - 1 = (i' : Int) := by omega
                have hdr : Dense (t.drop (i' + 1)) := by rw [← ei]; exact Hd.out
                have he1 : t[i']? = some 32 → i = 0 ∨ t[i - 1]? = some 32 := fun h => .inr (by rw [ei, Nat.add_sub_cancel]; exact h)
                have hii : i' < i ∧ i ≤ i' + 1 := by omega
                clear ei h0
                have hdrop := drop_dense (l := t) hil
                have hget' : t[i']? = some t[i'] := List.getElem?_eq_getElem hil
                generalize t[i'] = c at *
                by_cases h32 : c = 32
                · have t3 : (bN t i' != 32) = false := by rw [hbi, h32]; rfl
                  have t4 : (bN t i' == 32) = true := by rw [hbi, h32]; rfl
                  have He := Lib.hid (he1 (by rw [hget', h32]))
                  clear hbi hdrop hget' h32 hdr he1
                  have Hnr := Lib.hid (fun wx (h : Below w.heap.size w wx) => HRn.out _ (by have := Hm.out; rw [List.length_append, List.length_cons, List.length_take, List.length_drop]; omega) (Hno.out i b (by omega) Hd.out Hlast.out Hdig.out He.out) wx h)
                  clear He
                  go_upto_region 20 with (fail)
                  refine nought_region s i (by omega) (by omega) ?text3 rfl rfl rfl rfl ?hC3 ?rest3
                  case text3 =>
                    intro i2 o ho
                    have hi : i2 < 15 := (Array.getElem?_eq_some_iff.1 ho).1
                    rcases (show i2 = 0 ∨ i2 = 1 ∨ i2 = 2 ∨ i2 = 3 ∨ i2 = 4 ∨ i2 = 5 ∨ i2 = 6 ∨ i2 = 7 ∨ i2 = 8 ∨ i2 = 9 ∨ i2 = 10 ∨ i2 = 11 ∨ i2 = 12 ∨ i2 = 13 ∨ i2 = 14 by omega) with rfl | rfl | rfl | rfl | rfl | rfl | rfl | rfl | rfl | rfl | rfl | rfl | rfl | rfl | rfl
                    all_goals
                      obtain rfl := Option.some.inj ho
                      exact ⟨_, _, _, rfl, rfl, rfl, rfl, rfl, rfl⟩
                  case hC3 =>
                    intro wx hwx
                    rw [Hmb.out]
                    exact Hnr.out wx (below_more HBr.out hwx)
                  case rest3 =>
                    intro a W2 ha1 ha2 ha3 h22 hB2
                    obtain ⟨u, hu, ea⟩ : ∃ u : Nat → Value, (∀ t, Tm a t = u t) ∧ a = putL [118, 119, 120, 121, 122, 123, 124, 125, 126, 127, 128, 129, 21, 22] u _ := ⟨Tm a, fun _ => rfl, act_eq _ ha1 ha2 fun t ht => ha3 t (by simp at ht; omega) (by simp at ht; omega) (by simp at ht; omega)⟩
                    have h22' := (hu 22).symm.trans h22
                    clear hu ha1 ha2 ha3 h22
                    subst ea
                    simp only [putL, h22', Act.put, List.setIfInBounds_toArray, List.set_cons_succ, List.set_cons_zero]
                    clear h22'
                    have HB2' := Lib.hid (below_more HBr.out hB2)
                    clear hB2 HBr
                    have HA := HAw.out W2 HB2'.out
                    go_wp2_with fail
                    refine HA.mono ?_
                    rintro e w9 ⟨rfl, hb9⟩
                    have HB9 := Lib.hid (below_more HB2'.out hb9)
                    clear hb9
                    go_wp2
                    go_ret
                    exact ⟨rfl, HB9.out⟩
                · have t3 : (bN t i' != 32) = true := by
                    rw [bne_iff_ne, hbi]
                    intro e
                    exact h32 (UInt8.toNat_inj.1 (show c.toNat = 32 by omega))
                  have t4 : (bN t i' == 32) = false := by
                    rw [beq_eq_false_iff_ne, hbi]
                    intro e
                    exact h32 (UInt8.toNat_inj.1 (show c.toNat = 32 by omega))
                  have HG := Lib.hid (hdrop h32 hdr)
                  clear hbi hdrop hget' h32 hdr he1
                  go_wp2_with fail
                  go_roundw
                  case rel => exact ⟨i', by omega, rfl, HG, HBr⟩
                  case measure => simp [intOf]; omega
          · have t2 : decide (bN t m' ≤ (57 : Int)) = false := decide_eq_false (by omega)
            clear hb h48 h57
            have HA := HAw.out W1 HB1.out
            go_wp2_with fail
            refine HA.mono ?_
            rintro e w9 ⟨rfl, hb9⟩
            have HB9 := Lib.hid (below_more HB1.out hb9)
            clear hb9
            go_wp2
            go_ret
            exact ⟨rfl, HB9.out⟩
        · have t1 : decide ((48 : Int) ≤ bN t m') = false := decide_eq_false (by omega)
          clear hb h48
          have HA := HAw.out W1 HB1.out
          go_wp2_with fail
          refine HA.mono ?_
          rintro e w9 ⟨rfl, hb9⟩
          have HB9 := Lib.hid (below_more HB1.out hb9)
          clear hb9
          go_wp2
          go_ret
          exact ⟨rfl, HB9.out⟩
end Go.Proofs.YtkdigojjeiidmaaDoor
