/-
  LinAll: it returns true for every input.
-/
import Derived.Test.YtomheapokfphiaaDoorLin29Fits
namespace Go.Proofs.YtomheapokfphiaaDoor
open Go Go.RowKit Go.Shelf

theorem opsM_fits2 {ns : List Nat} {most : Nat} : ∀ i, i < (opsM ns most).length → (opAt (opsM ns most) i).fits ∧ (opAt (opsM ns most) i).L.length ≤ 100 := by
  intro i hi
  have h := opsM_small (ns := ns) (most := most) (opAt (opsM ns most) i) (by
    unfold opAt
    rw [List.getD_eq_getElem?_getD, List.getElem?_eq_getElem hi]
    exact List.getElem_mem hi)
  refine ⟨(small_fits h).1, ?_⟩
  obtain ⟨_, _, _, _, _, _, _, _, _, h10, _⟩ := h
  omega

set_option maxRecDepth 6000 in
set_option maxHeartbeats 8000000 in
theorem linAll_any (x0 : Int) (a1 : Option Addr) (l1 c1 : Nat) (z1 : List Nat) (a2 : Option Addr) (l2 c2 : Nat) (z2 : List Nat) (h0 : 0 ≤ x0) (h1 : x0 ≤ 255) (W : World) (w1 : BytesAt W a1 z1 ∧ z1.length = l1) (w2 : BytesAt W a2 z2 ∧ z2.length = l2) (hT : Tab W) :
    Calls Tryd.prog 11 #[.int .u8 x0, .slice a1 l1 c1, .slice a2 l2 c2] W fun e w' => e = .returned (.bool true) ∧ Below W.heap.size W w' := by
  obtain ⟨hz1, rfl⟩ := w1
  obtain ⟨hz2, e2⟩ := w2
  have hmax2 := hz2.1
  unfold maxLen at hmax2
  rw [e2] at hmax2
  have E2 := Lib.hid e2
  clear e2
  obtain ⟨p, rfl⟩ := Int.eq_ofNat_of_zero_le h0
  have r6 : (p : Int).tmod 6 = ((p % 6 : Nat) : Int) := by rw [Int.tmod_eq_emod_of_nonneg (by omega)]; omega
  have hm6 : p % 6 < 6 := Nat.mod_lt _ (by decide)
  generalize p % 6 = m at *
  have hHT := Lib.hid hT
  have HZ2 := Lib.hid hz2
  have H1 := Lib.hid (ops_any z1 8 (by omega) a1 c1 W hz1)
  have hlen : (opsM z1 8).length ≤ 8 := by rw [opsM_len]; omega
  have hfit : ∀ i, i < (opsM z1 8).length → (opAt (opsM z1 8) i).fits ∧ (opAt (opsM z1 8) i).L.length ≤ 65000 := opsM_fits
  have hfit2 : ∀ i, i < (opsM z1 8).length → (opAt (opsM z1 8) i).fits ∧ (opAt (opsM z1 8) i).L.length ≤ 100 := opsM_fits2
  generalize opsM z1 8 = l at *
  have hN : (1 : Int) ≤ 1 + (m : Int) ∧ 1 + (m : Int) ≤ 4096 := by omega
  have Hfit := Lib.hid hfit
  have Hfit2 := Lib.hid hfit2
  clear hfit hfit2 hz1 hz2 hT
  obtain ⟨i0, hi0, hz0, hz1, hz2⟩ := info_parts' lInfo3
  go_enter Tryd.func11, Tryd.ntmps11
  go_wp2_with fail
  refine H1.out.mono ?_
  rintro e w1 ⟨⟨lv, rfl, hown⟩, hb1⟩
  have HL1 := Lib.hid hown.at
  obtain ⟨ld, lcap, rfl⟩ := ops_slice HL1.out
  have HB1 := Lib.hid hb1
  obtain ⟨W3, hW3⟩ : ∃ W3, W3 = w1 := ⟨_, rfl⟩
  subst hW3
  clear hown hb1
  go_upto_block 0 with (fail)
  go_cut [9] (fun s9 wx => ∃ (L : List Int) (od : Option Addr) (oc : Nat), L.length ≤ 9 ∧ s9 = .slice od L.length oc ∧ wx.ownsRow W3.heap.size 3 1 (.slice od L.length oc) L.length (L.map iV) ∧ Below W3.heap.size W3 wx)
  case first =>
    go_wp2_with fail
    go_loopw [9, 10] (fun o i wr => ∃ (k : Nat) (L : List Int) (od : Option Addr) (oc : Nat), k ≤ 9 ∧ k ≤ l2 ∧ L.length = k ∧ o = .slice od k oc ∧ i = .int .i64 (k : Nat) ∧ wr.ownsRow W3.heap.size 3 1 (.slice od k oc) k (L.map iV) ∧ Below W3.heap.size W3 wr) (fun _ i _ => 9 - (intOf i).toNat)
    case atStart => exact ⟨0, [], none, 0, by omega, by omega, rfl, rfl, rfl, nilRow _ _, Below.refl _ _⟩
    case round =>
      obtain ⟨k, L, od, oc, hk6, hkl, hLk, rfl, rfl, hown, hbw⟩ := hrel
      obtain ⟨Wo, hWo⟩ : ∃ Wo, Wo = wr := ⟨_, rfl⟩
      subst hWo
      have HO := Lib.hid hown
      have HBw := Lib.hid hbw
      have HBW := Lib.hid (below_more HB1.out hbw)
      have HLk := Lib.hid hLk
      clear hown hbw
      by_cases hlt : k < 9
      · by_cases hl2 : k < l2
        · obtain ⟨gn, cn, rfl, hx, hc⟩ := bytes_cell (HZ2.out.kept (CellsKept.of HBW.out)) (k := k) (by rw [E2.out]; exact hl2)
          obtain ⟨c0, b0⟩ := hc k (by rw [E2.out]; exact hl2)
          clear hc hLk
          have q9 : ((z2.getD k 0 : Nat) : Int).tmod 9 = ((z2.getD k 0 % 9 : Nat) : Int) := by rw [Int.tmod_eq_emod_of_nonneg (by omega)]; omega
          have hy9 : z2.getD k 0 % 9 < 9 := Nat.mod_lt _ (by decide)
          have q8 : (k : Int).tdiv 8 = ((k / 8 : Nat) : Int) := by rw [Int.tdiv_eq_ediv_of_nonneg (by omega)]; omega
          have hd8 : k / 8 ≤ 1 := by omega
          generalize z2.getD k 0 % 9 = y at *
          generalize z2.getD k 0 = x at *
          generalize k / 8 = d at *
          have qw : IntKind.i64.wrap ((y : Int) - (d : Int)) = (y : Int) - (d : Int) := by rw [IntKind.wrap_i64]; omega
          have hone : ∀ v ∈ [Value.int .i64 ((y : Int) - (d : Int))], v.oneCell' = true := by simp [Value.oneCell']
          have Hone := Lib.hid hone
          clear hone
          have Hnews := Lib.hid (World.news_of_block (World.alloc_heap_new Wo (.cells #[.int .i64 ((y : Int) - (d : Int))] 3)))
          have Hl2 := Lib.hid (HO.out.alloc (.cells #[.int .i64 ((y : Int) - (d : Int))] 3))
          go_wp2_with (at_builtin; refine wpList_append_lies _ rfl _ _ 41 rfl W3.heap.size 3 i0 (.int .i64 0) 1 8 Tryd.underlying41 hi0 hz0 hz1 hz2 rfl (by decide) _ _ _ rfl Hl2.out _ 1 1 _ rfl rfl Hnews.out Hone.out (by omega) (by unfold maxLen; omega) (by omega) (by have := HBw.out.size; simp; omega) _ rfl ?_; intro g' cap' w1 hown' hgrow _ _)
          have HO7 := Lib.hid hown'
          have HB7 := Lib.hid ((HBw.out.alloc HBw.out.size (.cells #[.int .i64 ((y : Int) - (d : Int))] 3)).grown hgrow (by have := HBw.out.size; simp; omega) (own_later Hl2.out))
          clear hown' hgrow
          go_roundw
          case rel =>
            refine ⟨k + 1, L ++ [(y : Int) - (d : Int)], _, _, by omega, by omega, by rw [List.length_append, HLk.out]; rfl, rfl, by go_num, ?_, HB7.out⟩
            rw [List.map_append]
            exact HO7.out
          case measure => simp [intOf]; omega
        · go_wp2
          go_meet
          exact ⟨L, od, oc, by omega, by rw [HLk.out], by rw [HLk.out]; exact HO.out, HBw.out⟩
      · by_cases hl2 : k < l2
        · go_wp2
          go_meet
          exact ⟨L, od, oc, by omega, by rw [HLk.out], by rw [HLk.out]; exact HO.out, HBw.out⟩
        · go_wp2
          go_meet
          exact ⟨L, od, oc, by omega, by rw [HLk.out], by rw [HLk.out]; exact HO.out, HBw.out⟩
  case rest =>
    obtain ⟨oo, od, oc, hoo, rfl, hown, hbw⟩ := hcut
    have HIo := Lib.hid (ints_of_owns hown)
    have HL2 := Lib.hid (HL1.out.kept (CellsKept.of hbw))
    have HB2 := Lib.hid (below_more HB1.out hbw)
    clear hown hbw
    obtain ⟨r, er⟩ : ∃ r, orderM (1 + (m : Int)) l = r := ⟨_, rfl⟩
    have Hr := Lib.hid er
    have hlr : (r.getD []).length ≤ 8 := by
      cases r with
      | none => simp
      | some a =>
        have hgo := order_go er
        have := go_len _ _ _ hgo
        have := miss_le [] l.length
        show a.length ≤ 8
        omega
    clear er
    have H3 := order_any (1 + (m : Int)) l (by omega) Hfit.out _ _ HL2.out (hHT.out.below HB2.out)
    rw [Hr.out] at H3
    have H3 := Lib.hid H3
    go_wp2_with fail
    refine H3.out.mono ?_
    rintro e w3 ⟨⟨av, rfl, ha⟩, hb3⟩
    have HA3 := Lib.hid ha
    have HL3 := Lib.hid (HL2.out.kept (CellsKept.of hb3))
    have HI3 := Lib.hid (HIo.out.kept (CellsKept.of hb3))
    have HB3 := Lib.hid (below_more HB2.out hb3)
    clear ha hb3
    have H4 := rorder_any (1 + (m : Int)) hN.1 hN.2 l hlen Hfit2.out _ w3 HL3.out
    rw [Hr.out] at H4
    have H4 := Lib.hid H4
    go_wp2_with fail
    refine H4.out.mono ?_
    rintro e w4 ⟨⟨bv, rfl, hbv⟩, hb4⟩
    have HC4 := Lib.hid hbv
    have HA4 := Lib.hid (HA3.out.kept (CellsKept.of hb4))
    have HL4 := Lib.hid (HL3.out.kept (CellsKept.of hb4))
    have HI4 := Lib.hid (HI3.out.kept (CellsKept.of hb4))
    have HB4 := Lib.hid (below_more HB3.out hb4)
    clear hbv hb4
    have H5 := sameInts_any (r.getD []) (r.getD []) (by omega) av bv w4 HA4.out HC4.out
    rw [decide_eq_true (rfl : r.getD [] = r.getD [])] at H5
    have H5 := Lib.hid H5
    generalize r.isSome = bo at *
    go_wp2_with fail
    refine H5.out.mono ?_
    rintro e w5 ⟨rfl, hb5⟩
    have HC5 := Lib.hid (HC4.out.kept (CellsKept.of hb5))
    have HA5 := Lib.hid (HA4.out.kept (CellsKept.of hb5))
    have HL5 := Lib.hid (HL4.out.kept (CellsKept.of hb5))
    have HI5 := Lib.hid (HI4.out.kept (CellsKept.of hb5))
    have HB5 := Lib.hid (below_more HB4.out hb5)
    clear hb5
    have H6 := Lib.hid (may_any l (by omega) _ w5 HL5.out)
    go_wp2_with fail
    refine H6.out.mono ?_
    rintro e w6 ⟨rfl, hb6⟩
    have HC6 := Lib.hid (HC5.out.kept (CellsKept.of hb6))
    have HA6 := Lib.hid (HA5.out.kept (CellsKept.of hb6))
    have HL6 := Lib.hid (HL5.out.kept (CellsKept.of hb6))
    have HI6 := Lib.hid (HI5.out.kept (CellsKept.of hb6))
    have HB6 := Lib.hid (below_more HB5.out hb6)
    clear hb6
    have H7 := Lib.hid (rmay_any l (by omega) _ w6 HL6.out)
    go_wp2_with fail
    refine H7.out.mono ?_
    rintro e w7 ⟨rfl, hb7⟩
    have HC7 := Lib.hid (HC6.out.kept (CellsKept.of hb7))
    have HA7 := Lib.hid (HA6.out.kept (CellsKept.of hb7))
    have HL7 := Lib.hid (HL6.out.kept (CellsKept.of hb7))
    have HI7 := Lib.hid (HI6.out.kept (CellsKept.of hb7))
    have HB7 := Lib.hid (below_more HB6.out hb7)
    clear hb7
    have H8 := Lib.hid (fits_any (1 + (m : Int)) l (by omega) Hfit.out oo (by omega) _ _ w7 HL7.out HI7.out (hHT.out.below HB7.out))
    go_wp2_with fail
    refine H8.out.mono ?_
    rintro e w8 ⟨rfl, hb8⟩
    have HC8 := Lib.hid (HC7.out.kept (CellsKept.of hb8))
    have HA8 := Lib.hid (HA7.out.kept (CellsKept.of hb8))
    have HL8 := Lib.hid (HL7.out.kept (CellsKept.of hb8))
    have HI8 := Lib.hid (HI7.out.kept (CellsKept.of hb8))
    have HB8 := Lib.hid (below_more HB7.out hb8)
    clear hb8
    have H9 := Lib.hid (rfits_any (1 + (m : Int)) hN.1 hN.2 l hlen Hfit2.out oo (by omega) _ _ w8 HL8.out HI8.out)
    go_wp2_with fail
    refine H9.out.mono ?_
    rintro e w9 ⟨rfl, hb9⟩
    have HC9 := Lib.hid (HC8.out.kept (CellsKept.of hb9))
    have HA9 := Lib.hid (HA8.out.kept (CellsKept.of hb9))
    have HL9 := Lib.hid (HL8.out.kept (CellsKept.of hb9))
    have HB9 := Lib.hid (below_more HB8.out hb9)
    clear hb9
    have H10 := Lib.hid (fits_any (1 + (m : Int)) l (by omega) Hfit.out (r.getD []) (by omega) _ _ w9 HL9.out HA9.out (hHT.out.below HB9.out))
    go_wp2_with fail
    refine H10.out.mono ?_
    rintro e w10 ⟨rfl, hb10⟩
    have HC10 := Lib.hid (HC9.out.kept (CellsKept.of hb10))
    have HL10 := Lib.hid (HL9.out.kept (CellsKept.of hb10))
    have HB10 := Lib.hid (below_more HB9.out hb10)
    clear hb10
    have H11 := Lib.hid (rfits_any (1 + (m : Int)) hN.1 hN.2 l hlen Hfit2.out (r.getD []) (by omega) _ _ w10 HL10.out HC10.out)
    go_wp2_with fail
    refine H11.out.mono ?_
    rintro e w11 ⟨rfl, hb11⟩
    have HB11 := Lib.hid (below_more HB10.out hb11)
    clear hb11
    go_wp2_with fail
    refine (awake_any _ (hHT.out.below HB11.out)).mono ?_
    rintro e w12 ⟨rfl, hb12⟩
    have HB12 := Lib.hid (below_more HB11.out hb12)
    clear hb12
    go_wp2
    go_ret
    exact ⟨rfl, HB12.out⟩
end Go.Proofs.YtomheapokfphiaaDoor
