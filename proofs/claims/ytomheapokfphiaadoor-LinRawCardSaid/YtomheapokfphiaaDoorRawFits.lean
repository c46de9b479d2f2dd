/-
  The contract of lin.Fits.
-/
import Derived.Test.YtomheapokfphiaaDoorRawOrder
import Derived.Deep.RegionWith
namespace Go.Proofs.YtomheapokfphiaaDoor
open Go Go.RowKit Go.Shelf

theorem ints_set3 {W : World} {u : Value} {x : List Int} {b : Nat} {p : Int} {v1 y2 : Value} (h : IntsAt W u x) (h0 : W.cell? ⟨b, 0, none⟩ = some (.int .i64 p)) (h1 : W.cell? ⟨b, 1, none⟩ = some v1) (hv : ∀ n : Int, v1 ≠ .int .i64 n) (hv2 : ∀ n : Int, y2 ≠ .int .i64 n) (h2 : W.cell? ⟨b, 2, none⟩ = some y2) (z1 z2 : Value) :
    IntsAt (((W.setCell ⟨b, 0, none⟩ (.int .i64 p)).setCell ⟨b, 1, none⟩ z1).setCell ⟨b, 2, none⟩ z2) u x := by
  obtain ⟨ad, cap, rfl, h | ⟨g, c, rfl, hg, hcl, hcap⟩⟩ := h
  · exact ⟨_, _, rfl, .inl h⟩
  · refine ⟨_, _, rfl, .inr ⟨g, c, rfl, by simpa using hg, fun j n hj => ?_, hcap⟩⟩
    have hcj := hcl j n hj
    by_cases hne : b = g
    · subst hne
      rcases (show c + j = 0 ∨ c + j = 1 ∨ c + j = 2 ∨ 3 ≤ c + j by omega) with e | e | e | e
      · rw [e, h0] at hcj
        rw [e, (set3 h0 h1 h2 (.int .i64 p) z1 z2).1, hcj]
      · rw [e, h1] at hcj
        injection hcj with hcj
        exact absurd hcj (hv _)
      · rw [e, h2] at hcj
        injection hcj with hcj
        exact absurd hcj (hv2 _)
      · rw [World.cell?_setCell_other _ _ _ _ (fun e' => by injection e' with _ e'; omega), World.cell?_setCell_other _ _ _ _ (fun e' => by injection e' with _ e'; omega), World.cell?_setCell_other _ _ _ _ (fun e' => by injection e' with _ e'; omega)]
        exact hcj
    · rw [World.cell?_of_block (a := ⟨g, c + j, none⟩) (set3_block W (fun e => hne e.symm) (.int .i64 p) z1 z2)]
      exact hcj

/-- Whether a call was accepted, and what lives then. -/
def RelAt (w : World) (pages : Int) (r : Option LiveP) (b : Bool) (v : Value) : Prop :=
  match r with
  | none => b = false
  | some s => b = true ∧ LiveAt w v pages s
theorem rel_of {b1 b2 : Nat} {w W' : World} {pages : Int} {r : Option LiveP} {b : Bool} {v : Value}
    (h : match r with
      | none => b = false
      | some s => b = true ∧ ∀ W' : World, w.heap.size ≤ W'.heap.size → (∀ g, g < w.heap.size → (g < b1 ∨ b2 ≤ g) → W'.heap[g]? = w.heap[g]?) → LiveAt W' v pages s)
    (hs : w.heap.size ≤ W'.heap.size) (hk : ∀ g, g < w.heap.size → (g < b1 ∨ b2 ≤ g) → W'.heap[g]? = w.heap[g]?) : RelAt W' pages r b v := by
  cases r with
  | none => exact h
  | some s => exact ⟨h.1, h.2 W' hs hk⟩
theorem ne_mid {g : Nat} {w : World} {o : Obj} (h : g < w.heap.size ∨ (w.alloc o).drew.heap.size ≤ g) : g ≠ w.heap.size := by
  have hs : (w.alloc o).drew.heap.size = w.heap.size + 1 := by simp
  omega
theorem below_two {w w5 : World} {o : Obj} (h : Below (w.alloc o).drew.heap.size (w.alloc o).drew w5) : Below w.heap.size w w5 :=
  ((Below.refl _ w).alloc (Nat.le_refl _) o).drew.trans (h.mono (by simp))
theorem take_next {L : List Int} {k : Nat} (hk : k < L.length) : L.take (k + 1) = L.take k ++ [L.getD k 0] := by
  rw [List.take_add_one, getD_get hk]; rfl
theorem drop_next {L : List Int} {k : Nat} (hk : k < L.length) : L.drop k = L.getD k 0 :: L.drop (k + 1) := by
  rw [List.drop_eq_getElem_cons hk, List.getD_eq_getElem?_getD, List.getElem?_eq_getElem hk]; rfl

set_option maxHeartbeats 4000000 in
theorem fits_any (pages : Int) (l : List OpP) (hlen : l.length ≤ 500) (hfit : ∀ i, i < l.length → (opAt l i).fits ∧ 0 ≤ 0) (order : List Int) (hlo : order.length ≤ 500) (lv ov : Value) (w : World) (hl : OpsAt w lv l) (ho : IntsAt w ov order) (hT : Tab w) :
    Calls Tryd.prog 40 #[.int .i64 pages, lv, ov] w fun e w' => e = .returned (.bool (fitsM pages l order)) ∧ Below w.heap.size w w' := by
  have HL := Lib.hid hl
  have HO := Lib.hid ho
  have hov := over_any pages w
  have Hmay := Lib.hid (may_any l (by omega) lv w hl)
  obtain ⟨ld, lcap, rfl, _⟩ := hl
  obtain ⟨od, ocap, rfl, _⟩ := ho
  by_cases hp : 1 ≤ pages ∧ pages ≤ 4096
  · rw [decide_eq_true hp] at hov
    have Hov := Lib.hid hov
    clear hov
    cases hm : mayL l with
    | false =>
      have HF := Lib.hid (show fitsM pages l order = false by unfold fitsM; rw [hm, Bool.and_false, Bool.false_and, Bool.false_and])
      rw [hm] at Hmay
      clear hm
      go_enter Tryd.func40, Tryd.ntmps40
      go_wp2_with fail
      refine Hov.out.mono ?_
      rintro e w1 ⟨rfl, rfl⟩
      go_wp2_with fail
      refine Hmay.out.mono ?_
      rintro e w2 ⟨rfl, hb2⟩
      have Hb2 := Lib.hid hb2
      clear hb2
      go_wp2
      go_ret
      exact ⟨by rw [HF.out]; rfl, Hb2.out⟩
    | true =>
      have HF := Lib.hid (show fitsM pages l order = ((goM pages l [] [] order).isSome && wholeM l order) by unfold fitsM; rw [hm, decide_eq_true hp, Bool.true_and, Bool.true_and])
      rw [hm] at Hmay
      clear hm
      go_enter Tryd.func40, Tryd.ntmps40
      go_wp2_with fail
      refine Hov.out.mono ?_
      rintro e w1 ⟨rfl, rfl⟩
      go_wp2_with fail
      refine Hmay.out.mono ?_
      rintro e w2 ⟨rfl, hb2⟩
      have hbA : Below w.heap.size w (w2.alloc (.cells #[.int .i64 pages, .slice none 0 0, .slice none 0 0] 63)) := hb2.alloc hb2.size _
      have q1 : (w2.alloc (.cells #[.int .i64 pages, .slice none 0 0, .slice none 0 0] 63)).heap[w2.heap.size]? = some (.cells #[.int .i64 pages, .slice none 0 0, .slice none 0 0] 63 (0, 0)) := World.alloc_heap_new w2 _
      have hs2 := hb2.size
      have hsA : w2.heap.size < (w2.alloc (.cells #[.int .i64 pages, .slice none 0 0, .slice none 0 0] 63)).heap.size := by simp
      go_wp2_with fail
      obtain ⟨WA, hWA⟩ : ∃ WA, w2.alloc (.cells #[.int .i64 pages, .slice none 0 0, .slice none 0 0] 63) = WA := ⟨_, rfl⟩
      try rw [hWA] at hbA q1 hsA
      try rw [hWA]
      have HbA := Lib.hid hbA
      have Q1 := Lib.hid q1
      clear hb2 hbA q1 hWA
      go_loopw [24] (fun i wr => ∃ (k : Nat) (s : LiveP) (d1 : Option Addr) (n1 k1 : Nat) (d2 : Option Addr) (n2 k2 : Nat), k ≤ order.length ∧ i = .int .i64 k ∧ goM pages l [] [] order = goM pages l (order.take k) s (order.drop k) ∧ InL l (order.take k) ∧ s.length ≤ 65000 + k ∧
        wr.cell? ⟨w2.heap.size, 0, none⟩ = some (.int .i64 pages) ∧ wr.cell? ⟨w2.heap.size, 1, none⟩ = some (.slice d1 n1 k1) ∧ wr.cell? ⟨w2.heap.size, 2, none⟩ = some (.slice d2 n2 k2) ∧ wr.frozen? ⟨w2.heap.size, 0, none⟩ = false ∧ wr.frozen? ⟨w2.heap.size, 1, none⟩ = false ∧ wr.frozen? ⟨w2.heap.size, 2, none⟩ = false ∧
        LiveAt wr (.agg #[.int .i64 pages, .slice d1 n1 k1, .slice d2 n2 k2]) pages s ∧ w2.heap.size < wr.heap.size ∧ Below w.heap.size w wr) (fun i _ => order.length - (intOf i).toNat)
      case atStart => exact ⟨0, [], _, _, _, _, _, _, Nat.zero_le _, rfl, rfl, fun x hx => by simp at hx, by simp, blk_cell Q1.out 0, blk_cell Q1.out 1, blk_cell Q1.out 2, blk_frozen Q1.out 0, blk_frozen Q1.out 1, blk_frozen Q1.out 2, ⟨_, _, rfl, intsAt_nil _, intsAt_nil _⟩, hsA, HbA.out⟩
      case round =>
        obtain ⟨k, s, d1, n1, k1, d2, n2, k2, hk, rfl, hgo, hin, hsl, c0, c1, c2, z0, z1, z2, hlv, hsz, hbw⟩ := hrel
        obtain ⟨Wo, hWo⟩ : ∃ Wo, Wo = wr := ⟨_, rfl⟩
        subst hWo
        have Hgo := Lib.hid hgo
        have Hin := Lib.hid hin
        have HLV := Lib.hid hlv
        have HBw := Lib.hid hbw
        clear hgo hin hlv hbw
        by_cases hlt : k < order.length
        · obtain ⟨g, go, cap', hv, hg, cx⟩ := intsAt_cell (HO.out.kept (CellsKept.of HBw.out)) hlt
          obtain ⟨rfl, rfl⟩ : od = some ⟨g, go, none⟩ ∧ ocap = cap' := by injection hv with h1 h2 h3; exact ⟨h1, h3⟩
          have Hdn := Lib.hid (drop_next hlt)
          have Htn := Lib.hid (take_next hlt)
          obtain ⟨x, ex⟩ : ∃ x, order.getD k 0 = x := ⟨_, rfl⟩
          rw [ex] at cx Hdn Htn
          have hkI : (k : Int) < order.length := by omega
          have Hgo2 := Lib.hid (show goM pages l [] [] order = goM pages l (order.take k) s (x :: order.drop (k + 1)) by rw [Hgo.out, Hdn.out])
          have HOk := Lib.hid (intsAt_take (HO.out.kept (CellsKept.of HBw.out)) (show k ≤ order.length by omega))
          have hkc : k ≤ ocap := by
            rcases intsAt_cap HO.out with h | h
            · omega
            · rw [h] at hlt; simp at hlt
          have hlk : (order.take k).length = k := by rw [List.length_take]; omega
          clear hv ex
          by_cases hx0 : x < 0
          · have HF2 := Lib.hid (show fitsM pages l order = false by rw [HF.out, Hgo2.out, goM, if_pos (.inl hx0)]; rfl)
            go_wp2_with fail
            go_ret
            exact ⟨by rw [HF2.out]; rfl, HBw.out⟩
          · by_cases hx1 : (l.length : Int) ≤ x
            · have HF2 := Lib.hid (show fitsM pages l order = false by rw [HF.out, Hgo2.out, goM, if_pos (.inr (.inl hx1))]; rfl)
              go_wp2_with fail
              go_ret
              exact ⟨by rw [HF2.out]; rfl, HBw.out⟩
            · obtain ⟨i, rfl⟩ := Int.eq_ofNat_of_zero_le (show 0 ≤ x by omega)
              have hil : i < l.length := by omega
              have hct := Lib.hid (contains_any (order.take k) (by rw [hlk]; omega) (i : Int) _ Wo HOk.out)
              have hah := Lib.hid (ahead_any l (by omega) i hil (order.take k) Hin.out (by rw [hlk]; omega) _ _ Wo (HL.out.kept (CellsKept.of HBw.out)) HOk.out)
              obtain ⟨ca, eca⟩ : ∃ ca, (order.take k).contains (i : Int) = ca := ⟨_, rfl⟩
              obtain ⟨aa, eaa⟩ : ∃ aa, aheadM l (order.take k) i = aa := ⟨_, rfl⟩
              rw [eca] at hct
              rw [eaa] at hah
              cases ca with
              | true =>
                have HF2 := Lib.hid (show fitsM pages l order = false by rw [HF.out, Hgo2.out, goM, if_pos (.inr (.inr (.inl eca)))]; rfl)
                clear eca eaa
                go_wp2_with fail
                refine hct.out.mono ?_
                rintro e w3 ⟨rfl, rfl⟩
                go_wp2
                go_ret
                exact ⟨by rw [HF2.out]; rfl, HBw.out⟩
              | false =>
                cases aa with
                | true =>
                  have HF2 := Lib.hid (show fitsM pages l order = false by rw [HF.out, Hgo2.out, goM, if_pos (.inr (.inr (.inr (by rw [Int.toNat_natCast]; exact eaa))))]; rfl)
                  clear eca eaa
                  go_wp2_with fail
                  refine hct.out.mono ?_
                  rintro e w3 ⟨rfl, rfl⟩
                  go_wp2_with fail
                  refine hah.out.mono ?_
                  rintro e w4 ⟨rfl, hb4⟩
                  have HB4 := Lib.hid (HBw.out.trans (hb4.mono HBw.out.size))
                  clear hb4
                  go_wp2
                  go_ret
                  exact ⟨by rw [HF2.out]; rfl, HB4.out⟩
                | false =>
                  have Hstep := Lib.hid (show goM pages l [] [] order = match doesM pages s (opAt l i) with | none => none | some s' => goM pages l (order.take k ++ [(i : Int)]) s' (order.drop (k + 1)) by
                    rw [Hgo2.out, goM, if_neg]
                    · rw [Int.toNat_natCast]; rfl
                    · rintro (h | h | h | h)
                      · omega
                      · omega
                      · rw [eca] at h; cases h
                      · rw [Int.toNat_natCast, eaa] at h; cases h)
                  clear eca eaa
                  go_wp2_with fail
                  refine hct.out.mono ?_
                  rintro e w3 ⟨rfl, rfl⟩
                  go_wp2_with fail
                  refine hah.out.mono ?_
                  rintro e w4 ⟨rfl, hb4⟩
                  have HB4 := Lib.hid (HBw.out.trans (hb4.mono HBw.out.size))
                  have Hb4 := Lib.hid hb4
                  clear hb4
                  obtain ⟨gl, glo, lcap', lvv, hv2, hgl, hLv, hc⟩ := opsAt_cell (HL.out.kept (CellsKept.of HB4.out)) hil
                  obtain ⟨rfl, rfl⟩ : ld = some ⟨gl, glo, none⟩ ∧ lcap = lcap' := by injection hv2 with h1 h2 h3; exact ⟨h1, h3⟩
                  have HLo := Lib.hid hLv
                  obtain ⟨md, mcap, rfl, _⟩ := hLv
                  obtain ⟨y0, y1, y2, y3, y4, y5, y6⟩ := hc
                  have hofit := hfit i hil
                  obtain ⟨o, eo⟩ : ∃ o, opAt l i = o := ⟨_, rfl⟩
                  rw [eo] at y0 y1 y2 y3 y4 y5 y6 HLo hofit Hstep
                  have b0 := (Hb4.out.cell (p := ⟨w2.heap.size, 0, none⟩) hsz).trans c0
                  have b1 := (Hb4.out.cell (p := ⟨w2.heap.size, 1, none⟩) hsz).trans c1
                  have b2 := (Hb4.out.cell (p := ⟨w2.heap.size, 2, none⟩) hsz).trans c2
                  have bz0 := (Hb4.out.frozen (p := ⟨w2.heap.size, 0, none⟩) hsz).trans z0
                  have bz1 := (Hb4.out.frozen (p := ⟨w2.heap.size, 1, none⟩) hsz).trans z1
                  have bz2 := (Hb4.out.frozen (p := ⟨w2.heap.size, 2, none⟩) hsz).trans z2
                  have hiI : (i : Int) < l.length := by omega
                  have hs4 := Nat.lt_of_lt_of_le hsz Hb4.out.size
                  have hdo := fun (W : World) (hb : Below w4.heap.size w4 W) => does_any2 w4 pages hp.1 hp.2 s (by omega) o hofit.1 (by omega) _ md mcap W (HLV.out.kept (CellsKept.of Hb4.out)) hb (HLo.out.kept (CellsKept.of hb)) ((hT.below HB4.out).cells (CellsKept.of hb))
                  unfold opVal at hdo
                  have Hdo := Lib.hid hdo
                  clear hdo eo hv2
                  obtain ⟨r, er⟩ : ∃ r, doesM pages s o = r := ⟨_, rfl⟩
                  have Er := Lib.hid er
                  rw [er] at Hdo Hstep
                  clear er
                  go_upto_region 9 with (fail)
                  go_cut [10, 11] (fun s10 s11 wx => ∃ (G : Nat) (p : Int) (e1 : Option Addr) (m1 j1 : Nat) (e2 : Option Addr) (m2 j2 : Nat) (b : Bool), s10 = .pointer (some ⟨G, 0, none⟩) ∧ s11 = .bool b ∧ wx.cell? ⟨G, 0, none⟩ = some (.int .i64 p) ∧ wx.cell? ⟨G, 1, none⟩ = some (.slice e1 m1 j1) ∧ wx.cell? ⟨G, 2, none⟩ = some (.slice e2 m2 j2) ∧
                    RelAt wx pages r b (.agg #[.int .i64 p, .slice e1 m1 j1, .slice e2 m2 j2]) ∧ Below w4.heap.size w4 wx)
                  case first =>
                    go_region_with (go_at_call 56; refine (Hdo.out _ (by first | exact (Below.refl _ _).drew | exact ((Below.refl _ _).alloc (Nat.le_refl _) _).drew)).mono ?_; rintro e w5 ⟨⟨u, rfl, p, e1, m1, j1, e2, m2, j2, b, rfl, hm⟩, hb5⟩; try (have k0 := (hb5.cell (p := ⟨w4.heap.size, 0, none⟩) (show w4.heap.size < (w4.alloc (.cells #[.int .i64 0, .slice none 0 0, .slice none 0 0] 63)).heap.size by simp)).trans (blk_cell (World.alloc_heap_new w4 (.cells #[.int .i64 0, .slice none 0 0, .slice none 0 0] 63)) 0); have k1' := (hb5.cell (p := ⟨w4.heap.size, 1, none⟩) (show w4.heap.size < (w4.alloc (.cells #[.int .i64 0, .slice none 0 0, .slice none 0 0] 63)).heap.size by simp)).trans (blk_cell (World.alloc_heap_new w4 (.cells #[.int .i64 0, .slice none 0 0, .slice none 0 0] 63)) 1); have k2' := (hb5.cell (p := ⟨w4.heap.size, 2, none⟩) (show w4.heap.size < (w4.alloc (.cells #[.int .i64 0, .slice none 0 0, .slice none 0 0] 63)).heap.size by simp)).trans (blk_cell (World.alloc_heap_new w4 (.cells #[.int .i64 0, .slice none 0 0, .slice none 0 0] 63)) 2); have t0 := (hb5.frozen (p := ⟨w4.heap.size, 0, none⟩) (show w4.heap.size < (w4.alloc (.cells #[.int .i64 0, .slice none 0 0, .slice none 0 0] 63)).heap.size by simp)).trans (blk_frozen (World.alloc_heap_new w4 (.cells #[.int .i64 0, .slice none 0 0, .slice none 0 0] 63)) 0); have t1 := (hb5.frozen (p := ⟨w4.heap.size, 1, none⟩) (show w4.heap.size < (w4.alloc (.cells #[.int .i64 0, .slice none 0 0, .slice none 0 0] 63)).heap.size by simp)).trans (blk_frozen (World.alloc_heap_new w4 (.cells #[.int .i64 0, .slice none 0 0, .slice none 0 0] 63)) 1); have t2 := (hb5.frozen (p := ⟨w4.heap.size, 2, none⟩) (show w4.heap.size < (w4.alloc (.cells #[.int .i64 0, .slice none 0 0, .slice none 0 0] 63)).heap.size by simp)).trans (blk_frozen (World.alloc_heap_new w4 (.cells #[.int .i64 0, .slice none 0 0, .slice none 0 0] 63)) 2)))
                    all_goals
                      go_wp2
                      go_meet
                      first
                      | (obtain ⟨v0, v1, v2⟩ := set3 k0 k1' k2' (.int .i64 p) (.slice e1 m1 j1) (.slice e2 m2 j2); exact ⟨w4.heap.size, p, e1, m1, j1, e2, m2, j2, b, rfl, rfl, v0, v1, v2, rel_of hm (by simp) (fun g _ hor => set3_block w5 (ne_mid hor) _ _ _), set3_below (below_two hb5) (Nat.le_refl _)⟩)
                      | exact ⟨w5.heap.size, p, e1, m1, j1, e2, m2, j2, b, rfl, rfl, blk_cell (World.alloc_heap_new w5 _) 0, blk_cell (World.alloc_heap_new w5 _) 1, blk_cell (World.alloc_heap_new w5 _) 2, rel_of hm (by simp) (fun g hg _ => Below.heap_alloc w5 _ g hg), ((Below.refl _ w4).drew.trans hb5).alloc hb5.size _⟩
                  case rest =>
                    obtain ⟨G, p, e1, m1, j1, e2, m2, j2, b, rfl, rfl, v0, v1, v2, hrel', hbc⟩ := hcut
                    have a0 := (hbc.cell (p := ⟨w2.heap.size, 0, none⟩) hs4).trans b0
                    have a1 := (hbc.cell (p := ⟨w2.heap.size, 1, none⟩) hs4).trans b1
                    have a2 := (hbc.cell (p := ⟨w2.heap.size, 2, none⟩) hs4).trans b2
                    have az0 := (hbc.frozen (p := ⟨w2.heap.size, 0, none⟩) hs4).trans bz0
                    have az1 := (hbc.frozen (p := ⟨w2.heap.size, 1, none⟩) hs4).trans bz1
                    have az2 := (hbc.frozen (p := ⟨w2.heap.size, 2, none⟩) hs4).trans bz2
                    have HBc := Lib.hid (HB4.out.trans (hbc.mono HB4.out.size))
                    have hszc := Nat.lt_of_lt_of_le hs4 hbc.size
                    have Hrel := Lib.hid hrel'
                    clear hrel' hbc b0 b1 b2 bz0 bz1 bz2 c0 c1 c2 z0 z1 z2
                    cases r with
                    | none =>
                      obtain rfl : b = false := Hrel.out
                      have HF2 := Lib.hid (show fitsM pages l order = false by rw [HF.out, Hstep.out]; rfl)
                      go_wp2
                      go_ret
                      exact ⟨by rw [HF2.out]; rfl, HBc.out⟩
                    | some s' =>
                      obtain ⟨rfl, hlv'⟩ : b = true ∧ LiveAt wc (.agg #[.int .i64 p, .slice e1 m1 j1, .slice e2 m2 j2]) pages s' := Hrel.out
                      obtain ⟨ua, un, hv3, hA, hN⟩ := hlv'
                      obtain ⟨rfl, rfl, rfl⟩ : p = pages ∧ .slice e1 m1 j1 = ua ∧ .slice e2 m2 j2 = un := by
                        injection hv3 with hv3
                        have := congrArg Array.toList hv3
                        simp at this
                        exact this
                      have HA' := Lib.hid (ints_set3 hA a0 a1 (fun n => by simp) (fun n => by simp) a2 (.slice e1 m1 j1) (.slice e2 m2 j2))
                      have HN' := Lib.hid (ints_set3 hN a0 a1 (fun n => by simp) (fun n => by simp) a2 (.slice e1 m1 j1) (.slice e2 m2 j2))
                      obtain ⟨t0, t1, t2⟩ := set3 a0 a1 a2 (.int .i64 p) (.slice e1 m1 j1) (.slice e2 m2 j2)
                      have T0 := Lib.hid t0
                      have T1 := Lib.hid t1
                      have T2 := Lib.hid t2
                      have hls := doesM_lengthR Er.out
                      clear hA hN hv3 t0 t1 t2
                      go_wp2
                      go_roundw
                      case rel =>
                        refine ⟨k + 1, s', e1, m1, j1, e2, m2, j2, hlt, by go_num, by rw [Htn.out]; exact Hstep.out, ?_, by omega, T0.out, T1.out, T2.out, ?_, ?_, ?_, ⟨_, _, rfl, HA'.out, HN'.out⟩, by simpa using hszc, set3_below HBc.out (Nat.le_trans (Nat.le_of_lt_succ (Nat.lt_succ_of_le (Nat.le_refl _))) hs2)⟩
                        · rw [Htn.out]
                          intro y hy
                          rcases List.mem_append.1 hy with hy | hy
                          · exact Hin.out y hy
                          · simp at hy; omega
                        · rw [World.frozen?_setCell, World.frozen?_setCell, World.frozen?_setCell]; exact az0
                        · rw [World.frozen?_setCell, World.frozen?_setCell, World.frozen?_setCell]; exact az1
                        · rw [World.frozen?_setCell, World.frozen?_setCell, World.frozen?_setCell]; exact az2
                      case measure => simp [intOf]; omega
        · obtain rfl : k = order.length := by omega
          have hwh := Lib.hid (whole_any l (by omega) order (by omega) _ _ Wo (HL.out.kept (CellsKept.of HBw.out)) (HO.out.kept (CellsKept.of HBw.out)))
          have HF2 := Lib.hid (show fitsM pages l order = wholeM l order by rw [HF.out, Hgo.out, List.drop_of_length_le (Nat.le_refl _), goM]; rfl)
          go_wp2_with fail
          refine hwh.out.mono ?_
          rintro e w3 ⟨rfl, hb3⟩
          have HB3 := Lib.hid (HBw.out.trans (hb3.mono HBw.out.size))
          clear hb3
          go_wp2
          go_ret
          exact ⟨by rw [HF2.out]; rfl, HB3.out⟩
  · have HF := Lib.hid (show fitsM pages l order = false by unfold fitsM; rw [decide_eq_false hp, Bool.false_and, Bool.false_and, Bool.false_and])
    rw [decide_eq_false hp] at hov
    have Hov := Lib.hid hov
    clear hov hp
    go_enter Tryd.func40, Tryd.ntmps40
    go_wp2_with fail
    refine Hov.out.mono ?_
    rintro e w1 ⟨rfl, rfl⟩
    go_wp2
    go_ret
    exact ⟨by rw [HF.out]; rfl, Below.refl _ _⟩
end Go.Proofs.YtomheapokfphiaaDoor
