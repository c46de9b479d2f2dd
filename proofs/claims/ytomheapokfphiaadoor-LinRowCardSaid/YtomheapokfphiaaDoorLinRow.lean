/-
  LinRow: it returns true for every input.
-/
import Derived.Test.YtomheapokfphiaaDoorLinRowKit
import Derived.Test.YtomheapokfphiaaDoorLinBytes
namespace Go.Proofs.YtomheapokfphiaaDoor
open Go Go.RowKit Go.Shelf

theorem once_L {l : List OpP} {q j : Nat} {o : OpP} (h : (onceTo l q)[j]? = some o) : ∃ o0, l[j]? = some o0 ∧ o.L = o0.L := by
  unfold onceTo at h
  by_cases hj : j < (l.take q).length
  · rw [List.getElem?_append_left (by simpa using hj), List.getElem?_map] at h
    obtain ⟨o0, h0, rfl⟩ := Option.map_eq_some_iff.1 h
    rw [List.getElem?_take_of_lt (by simp at hj; omega)] at h0
    exact ⟨o0, h0, rfl⟩
  · rw [List.getElem?_append_right (by simpa using hj), List.getElem?_drop] at h
    refine ⟨o, ?_, rfl⟩
    rw [← h]
    congr 1
    simp at hj ⊢
    have := (List.getElem?_eq_some_iff.1 h).1
    omega
theorem map_L {l : List OpP} {j : Nat} {o : OpP} (h : (l.map atOnce)[j]? = some o) : ∃ o0, l[j]? = some o0 ∧ o.L = o0.L := by
  rw [List.getElem?_map] at h
  obtain ⟨o0, h0, rfl⟩ := Option.map_eq_some_iff.1 h
  exact ⟨o0, h0, rfl⟩
theorem cells_of {base g cap n : Nat} {w : World} {l : List OpP} {lvs : List Value} (hn : n = l.length) (h2 : w.ownsRow base 50 7 (.slice (some ⟨g, 0, none⟩) n cap) n (flatOps l lvs)) {j : Nat} {o : OpP} {v : Value} (hj : l[j]? = some o) (hv : lvs[j]? = some v) : OpCells w g (j * 7) o v := by
  have hjl := (List.getElem?_eq_some_iff.1 hj).1
  have key : ∀ r, r < 7 → w.cell? ⟨g, j * 7 + r, none⟩ = (opRow o v)[r]? := fun r hr => by
    rw [World.ownsRow.cellAt h2 (j * 7 + r) (by omega), flat_get l lvs j r o v hj hv hr]
  exact ⟨by simpa [opRow] using key 0 (by omega), by simpa [opRow] using key 1 (by omega), by simpa [opRow] using key 2 (by omega), by simpa [opRow] using key 3 (by omega), by simpa [opRow] using key 4 (by omega), by simpa [opRow] using key 5 (by omega), by simpa [opRow] using key 6 (by omega)⟩
theorem row_blk {base e s n : Nat} {g cap : Nat} {w : World} {xs : List Value} (h : w.ownsRow base e s (.slice (some ⟨g, 0, none⟩) n cap) n xs) : ∃ cur, w.heap[g]? = some (.cells cur e (0, 0)) := by
  rcases h.2 with ⟨h, _⟩ | ⟨g', cap', cur, hv, _, hh, _⟩
  · cases h
  · injection hv with h1 h2 h3
    injection h1 with h1
    injection h1 with h1
    subst h1
    exact ⟨cur, hh⟩
/-- The call that is to be told twice, among the first t; -1: there is none yet. -/
def KOk (l : List OpP) (t : Nat) (v : Value) : Prop := v = .int .i64 (-1) ∨ ∃ j : Nat, j < t ∧ v = .int .i64 (j : Nat) ∧ (opAt l j).kind = 1 ∧ (opAt l j).code = 0
theorem KOk.succ {l : List OpP} {t : Nat} {v : Value} (h : KOk l t v) : KOk l (t + 1) v := h.imp id fun ⟨j, h1, h2⟩ => ⟨j, by omega, h2⟩
/-- Blocks that were there stay as they were, but for one. -/
def Still (B : Nat) (w1 : World) (v : Value) (w : World) : Prop := ∀ g, g < B → v.ownBlock ≠ some g → w.heap[g]? = w1.heap[g]?

set_option maxRecDepth 6000 in
set_option maxHeartbeats 8000000 in
theorem linRow_any (a0 : Option Addr) (l0 c0 : Nat) (z0 : List Nat) (x1 : Int) (h0 : 0 ≤ x1) (h1 : x1 ≤ 255) (W : World) (w0 : BytesAt W a0 z0 ∧ z0.length = l0) (hT : Tab W) :
    Calls Tryd.prog 14 #[.slice a0 l0 c0, .int .u8 x1] W fun e w' => e = .returned (.bool true) ∧ Below W.heap.size W w' := by
  obtain ⟨hz0, rfl⟩ := w0
  obtain ⟨tw, rfl⟩ := Int.eq_ofNat_of_zero_le h0
  have hHT := Lib.hid hT
  have H1 := Lib.hid (row_any z0 a0 c0 W hz0)
  have hb := hz0.2.1
  have Hmay := Lib.hid (rowM_may z0)
  have Hfit1 := Lib.hid (rowM_fits hb)
  have Hfit2 := Lib.hid (onceM_fits hb)
  have Htiny := Lib.hid (rowM_tiny hb)
  have hl40 : (rowM z0 40).length ≤ 40 := by rw [rowM_len]; omega
  generalize rowM z0 40 = l at *
  clear hb hT
  obtain ⟨ln, eln⟩ : ∃ ln, l.length = ln := ⟨_, rfl⟩
  have Eln := Lib.hid eln
  rw [eln] at hl40 Hfit1 Hfit2
  obtain ⟨i0, hi0, hz0', hz1, hz2⟩ := info_parts' lInfo3
  go_enter Tryd.func14, Tryd.ntmps14
  go_wp2_with fail
  refine H1.out.mono ?_
  rintro e w1 ⟨⟨lv, rfl, hown⟩, hb1⟩
  obtain ⟨lvs, hv1, hv2, hv3⟩ := hown
  rw [eln] at hv1 hv2
  obtain ⟨ld, lcap, rfl⟩ := own_slice hv2
  have HB1 := Lib.hid hb1
  have HV1 := Lib.hid hv1
  have HV2 := Lib.hid hv2
  have HV3 := Lib.hid hv3
  clear hv1 hv2 hv3 hb1 eln
  obtain ⟨W1, hW1⟩ : ∃ W1, W1 = w1 := ⟨_, rfl⟩
  subst hW1
  go_wp2_with fail
  go_loopw [6, 7] (fun o i wr => ∃ (k : Nat) (od : Option Addr) (oc : Nat), k ≤ ln ∧ o = .slice od k oc ∧ i = .int .i64 (k : Nat) ∧ wr.ownsRow W1.heap.size 3 1 (.slice od k oc) k ((ownOrder k).map iV) ∧ Below W1.heap.size W1 wr) (fun _ i _ => ln - (intOf i).toNat)
  case atStart => exact ⟨0, none, 0, by omega, rfl, rfl, nilRow _ _, Below.refl _ _⟩
  case round =>
    obtain ⟨k, od, oc, hk, rfl, rfl, hown, hbw⟩ := hrel
    obtain ⟨Wo, hWo⟩ : ∃ Wo, Wo = wr := ⟨_, rfl⟩
    subst hWo
    have HO := Lib.hid hown
    have HBw := Lib.hid hbw
    clear hown hbw
    by_cases hlt : k < ln
    · have Hsucc := Lib.hid (ownOrder_succ k)
      have hone : ∀ v ∈ [Value.int .i64 (k : Nat)], v.oneCell' = true := by simp [Value.oneCell']
      have Hone := Lib.hid hone
      clear hone
      have Hnews := Lib.hid (World.news_of_block (World.alloc_heap_new Wo (.cells #[.int .i64 (k : Nat)] 3)))
      have Hl2 := Lib.hid (HO.out.alloc (.cells #[.int .i64 (k : Nat)] 3))
      go_wp2_with (at_builtin; refine wpList_append_lies _ rfl _ _ 41 rfl W1.heap.size 3 i0 (.int .i64 0) 1 8 Tryd.underlying41 hi0 hz0' hz1 hz2 rfl (by decide) _ _ _ rfl Hl2.out _ 1 1 _ rfl rfl Hnews.out Hone.out (by omega) (by unfold maxLen; omega) (by omega) (by have := HBw.out.size; simp; omega) _ rfl ?_; intro g' cap' w1 hown' hgrow _ _)
      have HO7 := Lib.hid hown'
      have HB7 := Lib.hid ((HBw.out.alloc HBw.out.size (.cells #[.int .i64 (k : Nat)] 3)).grown hgrow (by have := HBw.out.size; simp; omega) (own_later Hl2.out))
      clear hown' hgrow
      go_roundw
      case rel =>
        refine ⟨k + 1, _, _, by omega, rfl, by go_num, ?_, HB7.out⟩
        rw [Hsucc.out, List.map_append]
        exact HO7.out
      case measure => simp [intOf]; omega
    · obtain rfl : k = ln := by omega
      have hL := (OpsOwn.at (⟨lvs, HV1.out.trans Eln.out.symm, by rw [Eln.out]; exact HV2.out, HV3.out⟩ : OpsOwn W.heap.size W1 (.slice ld k lcap) l))
      have HL := Lib.hid (hL.kept (CellsKept.of HBw.out))
      have HB2 := Lib.hid (below_more HB1.out HBw.out)
      clear hL
      go_wp2_with fail
      refine (may_any l (by rw [Eln.out]; omega) _ _ HL.out).mono ?_
      rintro e w2 ⟨rfl, hb2⟩
      rw [Hmay.out]
      have HL2 := Lib.hid (HL.out.kept (CellsKept.of hb2))
      have HO2 := Lib.hid (own_kept HO.out (w' := w2) (fun g hg => hb2.block g (own_lt HO.out hg).1))
      have HS2 := Lib.hid (show Below W1.heap.size W1 w2 from below_more HBw.out hb2)
      have HB3 := Lib.hid (below_more HB2.out hb2)
      have H3 := fits_any 60 l (by rw [Eln.out]; omega) (tiny_at Htiny.out) (ownOrder k) (by rw [ownOrder_len]; omega) _ _ w2 HL2.out (ints_of_owns HO2.out) (hHT.out.below HB3.out)
      rw [Hfit1.out] at H3
      have H3 := Lib.hid H3
      clear hb2
      go_wp2_with fail
      refine H3.out.mono ?_
      rintro e w3 ⟨rfl, hb3⟩
      have HS3 := Lib.hid (show Below W1.heap.size W1 w3 from below_more HS2.out hb3)
      have HO3 := Lib.hid (own_kept HO2.out (w' := w3) (fun g hg => hb3.block g (own_lt HO2.out hg).1))
      have HB4 := Lib.hid (below_more HB3.out hb3)
      clear hb3
      have hrow3 := own_kept HV2.out (w' := w3) (fun g hg => HS3.out.block g (own_lt HV2.out hg).1)
      have hst3 : Still W1.heap.size W1 (.slice ld k lcap) w3 := fun g hg _ => HS3.out.block g hg
      have Hrow3 := Lib.hid hrow3
      have Hst3 := Lib.hid hst3
      clear hrow3 hst3
      go_wp2_with fail
      go_loopw [8] (fun i wr => ∃ q : Nat, q ≤ k ∧ i = .int .i64 (q : Nat) ∧ wr.ownsRow W.heap.size 50 7 (.slice ld k lcap) k (flatOps (onceTo l q) lvs) ∧ Still W1.heap.size W1 (.slice ld k lcap) wr ∧ wr.ownsRow W1.heap.size 3 1 (.slice od k oc) k ((ownOrder k).map iV) ∧ Below W.heap.size W wr) (fun i _ => k - (intOf i).toNat)
      case atStart => exact ⟨0, by omega, rfl, by rw [onceTo_none]; exact Hrow3.out, Hst3.out, HO3.out, HB4.out⟩
      case round =>
        obtain ⟨q, hq, rfl, hrow, hst, ho, hbw⟩ := hrel
        obtain ⟨Wo, hWo⟩ : ∃ Wo, Wo = wr := ⟨_, rfl⟩
        subst hWo
        have HR := Lib.hid hrow
        have HS := Lib.hid hst
        have HOo := Lib.hid ho
        have HBo := Lib.hid hbw
        clear hrow hst ho hbw
        by_cases hlt : q < k
        · have hql : q < l.length := by rw [Eln.out]; exact hlt
          have hlvq : lvs[q]? = some (lvs.getD q (.slice none 0 0)) := by rw [List.getD_eq_getElem?_getD, List.getElem?_eq_getElem (by rw [HV1.out]; exact hlt)]; rfl
          obtain ⟨gl, rfl⟩ : ∃ gl, ld = some ⟨gl, 0, none⟩ := by
            rcases HR.out.2 with ⟨_, h⟩ | ⟨g, cap, cur, hv, _⟩
            · omega
            · injection hv with h1 h2 h3
              exact ⟨g, h1⟩
          obtain ⟨cur, hcur⟩ := row_blk HR.out
          have hc := cells_of (by rw [onceTo_len, Eln.out]) HR.out (onceTo_get hql) hlvq
          have cb := hc.2.2.2.2.2.1
          have ce := hc.2.2.2.2.2.2
          have fb : Wo.frozen? ⟨gl, q * 7 + 5, none⟩ = false := blk_frozen hcur _
          have fe : Wo.frozen? ⟨gl, q * 7 + 6, none⟩ = false := blk_frozen hcur _
          have hge : W.heap.size ≤ gl := (own_lt HR.out rfl).2
          have hput := ownsRow_put (ownsRow_put (i := q * 7 + 5) HR.out (.int .i64 0)) (i := q * 7 + 6) (.int .i64 9)
          have hlen' : lvs.length = (onceTo l q).length := by rw [onceTo_len, Eln.out, HV1.out]
          rw [← flat_set5 (onceTo l q) lvs q (opAt l q) 0 hlen' (onceTo_get hql), ← flat_set ((onceTo l q).set q { opAt l q with b := 0 }) lvs q { opAt l q with b := 0 } 9 (by rw [List.length_set]; exact hlen') (by rw [List.getElem?_set_self (by rw [onceTo_len]; exact hql)]), List.set_set] at hput
          have Hput := Lib.hid (show ((Wo.setCell ⟨gl, q * 7 + 5, none⟩ (.int .i64 0)).setCell ⟨gl, q * 7 + 6, none⟩ (.int .i64 9)).ownsRow W.heap.size 50 7 (.slice (some ⟨gl, 0, none⟩) k lcap) k (flatOps (onceTo l (q + 1)) lvs) by rw [onceTo_succ hql]; exact hput)
          have HSp := Lib.hid (show Still W1.heap.size W1 (.slice (some ⟨gl, 0, none⟩) k lcap) ((Wo.setCell ⟨gl, q * 7 + 5, none⟩ (.int .i64 0)).setCell ⟨gl, q * 7 + 6, none⟩ (.int .i64 9)) from fun g hg hne => by
            have hne' : gl ≠ g := fun e => hne (by rw [e]; rfl)
            rw [set_block _ hne', set_block _ hne']
            exact HS.out g hg hne)
          have HOp := Lib.hid (own_store (own_store HOo.out hcur (q * 7 + 5) (.int .i64 0)) (blk_set hcur (q * 7 + 5) (.int .i64 0)) (q * 7 + 6) (.int .i64 9))
          have HBp := Lib.hid ((HBo.out.setCell (p := ⟨gl, q * 7 + 5, none⟩) hge (.int .i64 0)).setCell (p := ⟨gl, q * 7 + 6, none⟩) hge (.int .i64 9))
          generalize (opAt l q).b = bb at *
          generalize (opAt l q).e = ee at *
          clear hput hc hlvq hcur
          go_wp2
          go_roundw
          case rel => exact ⟨q + 1, by omega, by go_num, Hput.out, HSp.out, HOp.out, HBp.out⟩
          case measure => simp [intOf]; omega
        · obtain rfl : q = k := by omega
          have hone : onceTo l q = l.map atOnce := by rw [← Eln.out]; exact onceTo_all l
          have hR := HR.out
          rw [hone] at hR
          have HR5 := Lib.hid hR
          have hL5 : OpsAt Wo (.slice ld q lcap) (l.map atOnce) := OpsOwn.at (base := W.heap.size) ⟨lvs, by rw [List.length_map, Eln.out]; exact HV1.out, by rw [List.length_map, Eln.out]; exact hR, fun j o v hj hv => by
            obtain ⟨o0, ho0, hL⟩ := map_L hj
            rw [hL]
            have h3 := HV3.out j o0 v ho0 hv
            exact own_kept h3 fun g hg => HS.out g (own_lt h3 hg).1 (own_ne h3 HV2.out (by decide) hg)⟩
          have HL5 := Lib.hid hL5
          have H5 := fits_any 60 (l.map atOnce) (by rw [List.length_map, Eln.out]; omega) (tiny_at (fun o ho => by obtain ⟨o0, h0, rfl⟩ := List.mem_map.1 ho; exact once_tiny (Htiny.out o0 h0))) (ownOrder q) (by rw [ownOrder_len]; omega) _ _ Wo HL5.out (ints_of_owns HOo.out) (hHT.out.below HBo.out)
          rw [Hfit2.out] at H5
          have H5 := Lib.hid H5
          clear hR hL5 hone
          go_wp2_with fail
          refine H5.out.mono ?_
          rintro e w5 ⟨rfl, hb5⟩
          have HRow6 := Lib.hid (own_kept HR5.out (w' := w5) (fun g hg => hb5.block g (own_lt HR5.out hg).1))
          have HO6 := Lib.hid (own_kept HOo.out (w' := w5) (fun g hg => hb5.block g (own_lt HOo.out hg).1))
          have HB6 := Lib.hid (below_more HBo.out hb5)
          have HS6 := Lib.hid (show Still W1.heap.size W1 (.slice ld q lcap) w5 from fun g hg hne => by
            have e := HS.out g hg hne
            have hlt : g < Wo.heap.size := by
              rcases Nat.lt_or_ge g Wo.heap.size with h | h
              · exact h
              · rw [Array.getElem?_eq_none h, Array.getElem?_eq_getElem hg] at e
                cases e
            exact (hb5.block g hlt).trans e)
          clear hb5
          obtain ⟨W5, hW5⟩ : ∃ W5, W5 = w5 := ⟨_, rfl⟩
          subst hW5
          go_wp2_with fail
          go_loopw [9, 10] (fun kk i wr => ∃ t : Nat, t ≤ q ∧ i = .int .i64 (t : Nat) ∧ KOk l t kk ∧ wr = W5) (fun _ i _ => q - (intOf i).toNat)
          case atStart => exact ⟨0, by omega, rfl, .inl rfl, rfl⟩
          case round =>
            obtain ⟨t, ht, rfl, hkk, hwr⟩ := hrel
            have hwr := hwr.symm
            subst hwr
            by_cases hlt2 : t < q
            · have htl : t < l.length := by rw [Eln.out]; exact hlt2
              have hlvt : lvs[t]? = some (lvs.getD t (.slice none 0 0)) := by rw [List.getD_eq_getElem?_getD, List.getElem?_eq_getElem (by rw [HV1.out]; exact hlt2)]; rfl
              obtain ⟨gl, rfl⟩ : ∃ gl, ld = some ⟨gl, 0, none⟩ := by
                rcases HRow6.out.2 with ⟨_, h⟩ | ⟨g, cap, cur, hv, _⟩
                · omega
                · injection hv with h1 h2 h3
                  exact ⟨g, h1⟩
              have hc := cells_of (by rw [List.length_map, Eln.out]) HRow6.out (show (l.map atOnce)[t]? = some (atOnce (opAt l t)) by rw [List.getElem?_map, opAt_get htl]; rfl) hlvt
              have ck := hc.1
              have cd := hc.2.2.2.1
              have Hkk := Lib.hid hkk
              have htw : (tw : Int).tmod ((t : Int) + 1) = ((tw % (t + 1) : Nat) : Int) := by rw [Int.tmod_eq_emod_of_nonneg (by omega), Int.natCast_emod, Int.natCast_add]; rfl
              have hz1' : ¬ ((t : Int) + 1 = 0) := by omega
              have hz2' : ((t : Int) + 1 == 0) = false := by simp; omega
              have htq : (t : Int) < q := by omega
              generalize tw % (t + 1) = rr at *
              have Hnew := Lib.hid (fun (h1 : (opAt l t).kind = 1) (h2 : (opAt l t).code = 0) => (show KOk l (t + 1) (.int .i64 (t : Nat)) from .inr ⟨t, by omega, rfl, h1, h2⟩))
              have Hold := Lib.hid hkk.succ
              change _ = some (Value.int .i64 (opAt l t).kind) at ck
              change _ = some (Value.int .i64 (opAt l t).code) at cd
              generalize (opAt l t).kind = kd at *
              generalize (opAt l t).code = cdv at *
              clear hc hlvt hkk
              by_cases hk1 : kd = 1
              · subst hk1
                by_cases hc0 : cdv = 0
                · subst hc0
                  by_cases hr0 : rr = 0
                  · subst hr0
                    go_wp2
                    go_roundw
                    case rel => exact ⟨t + 1, by omega, by go_num, Hnew.out rfl rfl, trivial⟩
                    case measure => simp [intOf]; omega
                  · have er : ((rr : Int) == 0) = false := by simp; omega
                    go_wp2
                    go_roundw
                    case rel => exact ⟨t + 1, by omega, by go_num, Hold.out, trivial⟩
                    case measure => simp [intOf]; omega
                · have ec : (cdv == 0) = false := by simpa using hc0
                  go_wp2
                  go_roundw
                  case rel => exact ⟨t + 1, by omega, by go_num, Hold.out, trivial⟩
                  case measure => simp [intOf]; omega
              · have ek : (kd == 1) = false := by simpa using hk1
                go_wp2
                go_roundw
                case rel => exact ⟨t + 1, by omega, by go_num, Hold.out, trivial⟩
                case measure => simp [intOf]; omega
            · obtain rfl : t = q := by omega
              rcases hkk with rfl | ⟨j, hj, rfl, hjk, hjc⟩
              · go_wp2_with fail
                refine (awake_any _ (hHT.out.below HB6.out)).mono ?_
                rintro e w6 ⟨rfl, hb6⟩
                have HB7 := Lib.hid (below_more HB6.out hb6)
                clear hb6
                go_wp2
                go_ret
                exact ⟨rfl, HB7.out⟩
              · have hjl : j < l.length := by rw [Eln.out]; exact hj
                have hlvj : lvs[j]? = some (lvs.getD j (.slice none 0 0)) := by rw [List.getD_eq_getElem?_getD, List.getElem?_eq_getElem (by rw [HV1.out]; exact hj)]; rfl
                generalize hlvx : lvs.getD j (.slice none 0 0) = lvx at *
                have hoj : (l.map atOnce)[j]? = some (opAt (l.map atOnce) j) := opAt_get (by rw [List.length_map]; exact hjl)
                obtain ⟨gl, rfl⟩ : ∃ gl, ld = some ⟨gl, 0, none⟩ := by
                  rcases HRow6.out.2 with ⟨_, h⟩ | ⟨g, cap, cur, hv, _⟩
                  · omega
                  · injection hv with h1 h2 h3
                    exact ⟨g, h1⟩
                have h3 := fun (w : World) (hS : Still W1.heap.size W1 (.slice (some ⟨gl, 0, none⟩) t lcap) w) (i : Nat) (o : OpP) (v : Value) (hi : (l.map atOnce)[i]? = some o) (hv : lvs[i]? = some v) => (show w.ownsRow W.heap.size 3 1 v o.L.length (o.L.map iV) from by
                  obtain ⟨o0, ho0, hL⟩ := map_L hi
                  rw [hL]
                  have h3 := HV3.out i o0 v ho0 hv
                  exact own_kept h3 fun g hg => hS g (own_lt h3 hg).1 (own_ne h3 HV2.out (by decide) hg))
                obtain ⟨xd, xc, rfl⟩ := own_slice (h3 W5 HS6.out j _ lvx hoj hlvj)
                have hcells := cells_of (by rw [List.length_map, Eln.out]) HRow6.out hoj hlvj
                have H3 := Lib.hid h3
                have Hjk := Lib.hid (show (opAt (l.map atOnce) j).kind = 1 by rw [once_at hjl]; exact hjk)
                have Hjc := Lib.hid (show (opAt (l.map atOnce) j).code = 0 by rw [once_at hjl]; exact hjc)
                have hone := flat_one (ld := none) (n := 0) (c := 0) (l.map atOnce) lvs (fun v hv => by
                  obtain ⟨i, hi⟩ := List.getElem?_of_mem hv
                  obtain ⟨o, ho⟩ : ∃ o, (l.map atOnce)[i]? = some o := ⟨_, List.getElem?_eq_getElem (by have := (List.getElem?_eq_some_iff.1 hi).1; rw [HV1.out] at this; rw [List.length_map, Eln.out]; exact this)⟩
                  obtain ⟨d, c, e⟩ := own_slice (h3 W5 HS6.out i o v ho hi)
                  rw [e]; rfl)
                have Hcells := Lib.hid hcells
                have Hone := Lib.hid hone
                have hj0 : ¬ ((j : Int) < 0) := by omega
                clear h3 hcells hone hlvx
                go_upto_region 23 with (fail)
                refine tw_region W.heap.size gl t lcap j (flatOps (l.map atOnce) lvs) _ (opAt (l.map atOnce) j) xd _ xc ?text rfl rfl rfl rfl hj hl40 rfl HRow6.out Hone.out Hcells.out ?rest
                case text =>
                  intro i o ho
                  have hi : i < 18 := (Array.getElem?_eq_some_iff.1 ho).1
                  rcases (show i = 0 ∨ i = 1 ∨ i = 2 ∨ i = 3 ∨ i = 4 ∨ i = 5 ∨ i = 6 ∨ i = 7 ∨ i = 8 ∨ i = 9 ∨ i = 10 ∨ i = 11 ∨ i = 12 ∨ i = 13 ∨ i = 14 ∨ i = 15 ∨ i = 16 ∨ i = 17 by omega) with rfl | rfl | rfl | rfl | rfl | rfl | rfl | rfl | rfl | rfl | rfl | rfl | rfl | rfl | rfl | rfl | rfl | rfl
                  all_goals
                    obtain rfl := Option.some.inj ho
                    exact ⟨_, _, _, rfl, rfl, rfl, rfl, rfl, rfl⟩
                case rest =>
                  intro a w7 ha1 ha2 ha3 hb7 hrow7
                  obtain ⟨u, hu, ea⟩ : ∃ u : Nat → Value, (∀ t, Tm a t = u t) ∧ a = putL [11, 12, 13, 14, 15, 16, 17, 18, 19, 20, 21, 22, 23, 24, 25, 26, 27, 28, 29, 30, 31, 32, 33, 34, 35, 36, 37, 38, 39, 40, 41, 42, 43, 44, 45, 46, 47, 48, 49, 50, 51, 52, 53, 54, 55, 56, 57, 58, 59, 60, 61, 62, 63, 64, 65, 66, 67, 68, 69, 70, 71, 72, 73, 74, 75, 76, 77, 78, 79, 80, 81, 82, 83, 84, 85, 86, 87, 88, 89, 90, 91, 92, 93, 94, 95, 96, 97, 98, 99] u _ := ⟨Tm a, fun _ => rfl, act_eq _ ha1 ha2 fun t ht => ha3 t (by simp at ht; omega)⟩
                  rw [hu 11] at hrow7
                  clear hu ha1 ha2 ha3
                  subst ea
                  obtain ⟨od2, oc2, e11⟩ := own_slice hrow7
                  rw [e11] at hrow7
                  have hSt7 : Still W1.heap.size W1 (.slice (some ⟨gl, 0, none⟩) t lcap) w7 := fun g hg hne => by
                    have e := HS6.out g hg hne
                    have hlt : g < W5.heap.size := by
                      rcases Nat.lt_or_ge g W5.heap.size with h | h
                      · exact h
                      · rw [Array.getElem?_eq_none h, Array.getElem?_eq_getElem hg] at e
                        cases e
                    exact (hb7.block g hlt).trans e
                  have HS7 := Lib.hid hSt7
                  have HO7 := Lib.hid (own_kept HO6.out (w' := w7) (fun g hg => hb7.block g (own_lt HO6.out hg).1))
                  have HB7 := Lib.hid (below_more HB6.out hb7)
                  have HR7 := Lib.hid hrow7
                  obtain ⟨go, co, ego, hgo1, hgo2⟩ := HO7.out.form (by omega)
                  have Hlow := Lib.hid (fun g (h : (Value.slice od t oc).ownBlock = some g) => (own_lt HO7.out h).2)
                  clear hSt7 hb7 ego
                  have Hnot := Lib.hid (twice_fits (l := l.map atOnce) (k := j) (by rw [List.length_map]; exact hjl) Hjk.out Hjc.out 60)
                  rw [show (l.map atOnce).length = t by rw [List.length_map]; exact Eln.out] at Hnot
                  have Htw := Lib.hid (tiny_at (l := twiceL (l.map atOnce) j) (fun o ho => by
                    have ho := twice_mem (by rw [List.length_map]; exact hjl) ho
                    obtain ⟨o0, h0, rfl⟩ := List.mem_map.1 ho
                    exact once_tiny (Htiny.out o0 h0)))
                  have Htl := Lib.hid (show (twiceL (l.map atOnce) j).length = t + 1 by rw [twice_len (by rw [List.length_map]; exact hjl), List.length_map, Eln.out])
                  have Hmk := Lib.hid (fun (w : World) (hr : w.ownsRow W5.heap.size 50 7 (.slice od2 (t + 1) oc2) (t + 1) ((flatOps (l.map atOnce) lvs).take ((j + 1) * 7) ++ opRow (opAt (l.map atOnce) j) (.slice xd (opAt (l.map atOnce) j).L.length xc) ++ (flatOps (l.map atOnce) lvs).drop ((j + 1) * 7))) (hS : Still W1.heap.size W1 (.slice (some ⟨gl, 0, none⟩) t lcap) w) =>
                    (OpsOwn.at (opsOwn_twice (base := W.heap.size) (bs := W5.heap.size) HB6.out.size (by rw [List.length_map, Eln.out]; exact HV1.out) (by rw [List.length_map]; exact hjl) hlvj (by rw [List.length_map, Eln.out]; exact hr) (H3.out w hS)) : OpsAt w (.slice od2 (t + 1) oc2) (twiceL (l.map atOnce) j)))
                  have hone2 : ∀ v ∈ [Value.int .i64 (t : Nat)], v.oneCell' = true := by simp [Value.oneCell']
                  have Hone2 := Lib.hid hone2
                  clear hone2
                  have Hnews := Lib.hid (World.news_of_block (World.alloc_heap_new w7 (.cells #[.int .i64 (t : Nat)] 3)))
                  have Hl2 := Lib.hid (HO7.out.alloc (.cells #[.int .i64 (t : Nat)] 3))
                  clear hlvj hoj hjk hjc
                  simp only [putL, Act.put, List.setIfInBounds_toArray, List.set_cons_succ, List.set_cons_zero]
                  rw [e11]
                  clear e11
                  go_wp2_with (at_builtin; refine wpList_append_lies _ rfl _ _ 41 rfl W1.heap.size 3 i0 (.int .i64 0) 1 8 Tryd.underlying41 hi0 hz0' hz1 hz2 rfl (by decide) _ _ _ rfl Hl2.out _ 1 1 _ rfl rfl Hnews.out Hone2.out (by omega) (by unfold maxLen; omega) (by omega) (by simp; omega) _ rfl ?_; intro g' cap' w9 hown' hgrow _ _)
                  have hgr : (w7.alloc (.cells #[.int .i64 (t : Nat)] 3)).grownBy w9 (Value.slice od t oc).ownBlock := hgrow
                  have hSt9 : Still W1.heap.size W1 (.slice (some ⟨gl, 0, none⟩) t lcap) w9 := fun g hg hne =>
                    (hgr.block g (by simp; omega) (fun e => by have := Hlow.out g e.symm; omega)).trans ((Below.heap_alloc w7 _ g (by omega)).trans (HS7.out g hg hne))
                  have hr9 := own_kept HR7.out (w' := w9) (fun g hg => (hgr.block g (by have := (own_lt HR7.out hg).1; simp; omega) (fun e => own_ne HR7.out HO7.out (by decide) hg e.symm)).trans (Below.heap_alloc w7 _ g (own_lt HR7.out hg).1))
                  have HB9 := Lib.hid ((HB7.out.alloc HB7.out.size (.cells #[.int .i64 (t : Nat)] 3)).grown hgr (by have := HB7.out.size; simp; omega) (fun g e => by have := Hlow.out g e; have := HB1.out.size; omega))
                  refine (fits_any 60 (twiceL (l.map atOnce) j) (by rw [Htl.out]; omega) Htw.out (ownOrder (t + 1)) (by rw [ownOrder_len]; omega) _ _ w9 (Hmk.out w9 hr9 hSt9) (ints_of_owns (L := ownOrder (t + 1)) (by rw [ownOrder_succ, List.map_append]; exact hown')) (hHT.out.below HB9.out)).mono ?_
                  rintro e w10 ⟨rfl, hb10⟩
                  rw [Hnot.out]
                  have HB10 := Lib.hid (below_more HB9.out hb10)
                  clear hb10 hr9 hSt9 hgr hgrow hown'
                  go_wp2_with fail
                  refine (awake_any _ (hHT.out.below HB10.out)).mono ?_
                  rintro e w11 ⟨rfl, hb11⟩
                  have HB11 := Lib.hid (below_more HB10.out hb11)
                  clear hb11
                  go_wp2
                  go_ret
                  exact ⟨rfl, HB11.out⟩
end Go.Proofs.YtomheapokfphiaaDoor
