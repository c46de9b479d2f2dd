/-
  LinFirst: it returns true for every input.
-/
import Derived.Test.YtomheapokfphiaaDoorLinFirstLaw
import Derived.Test.YtomheapokfphiaaDoorLinBytes
namespace Go.Proofs.YtomheapokfphiaaDoor
open Go Go.RowKit Go.Shelf

theorem ints_slice {w : World} {v : Value} {L : List Int} (h : IntsAt w v L) : ∃ ad cap, v = .slice ad L.length cap := by
  obtain ⟨ad, cap, rfl, _⟩ := h
  exact ⟨ad, cap, rfl⟩
theorem ops_slice {w : World} {v : Value} {L : List OpP} (h : OpsAt w v L) : ∃ ad cap, v = .slice ad L.length cap := by
  obtain ⟨ad, cap, rfl, _⟩ := h
  exact ⟨ad, cap, rfl⟩
theorem below_more {w a b : World} (h : Below w.heap.size w a) (k : Below a.heap.size a b) : Below w.heap.size w b := h.trans (k.mono h.size)
theorem draw_below {B : Nat} {a w : World} (h : Below B a w) (n : Nat) : Below B a (w.drewN n) := ⟨h.os, h.tape, h.output, h.size, h.block⟩
theorem undraw_below {w w' : World} {n : Nat} (h : Below (w.drewN n).heap.size (w.drewN n) w') : Below w.heap.size w w' := ⟨h.os, h.tape, h.output, h.size, h.block⟩
def sixL (ns : List Nat) (k : Nat) : List Int := (List.range k).map fun i => ((ns.getD i 0 % 6 : Nat) : Int)
theorem sixL_len (ns : List Nat) (k : Nat) : (sixL ns k).length = k := by simp [sixL]
theorem sixL_succ (ns : List Nat) (k : Nat) : sixL ns (k + 1) = sixL ns k ++ [((ns.getD k 0 % 6 : Nat) : Int)] := by simp [sixL, List.range_succ]

set_option maxRecDepth 6000 in
set_option maxHeartbeats 8000000 in
theorem linFirst_any (x0 : Int) (a1 : Option Addr) (l1 c1 : Nat) (z1 : List Nat) (a2 : Option Addr) (l2 c2 : Nat) (z2 : List Nat) (h0 : 0 ≤ x0) (h1 : x0 ≤ 255) (W : World) (w1 : BytesAt W a1 z1 ∧ z1.length = l1) (w2 : BytesAt W a2 z2 ∧ z2.length = l2) (hT : Tab W) :
    Calls Tryd.prog 13 #[.int .u8 x0, .slice a1 l1 c1, .slice a2 l2 c2] W fun e w' => e = .returned (.bool true) ∧ Below W.heap.size W w' := by
  obtain ⟨hz1, rfl⟩ := w1
  obtain ⟨hz2, e2⟩ := w2
  have hmax2 := hz2.1
  unfold maxLen at hmax2
  rw [e2] at hmax2
  have E2 := Lib.hid e2
  clear e2
  obtain ⟨p, rfl⟩ := Int.eq_ofNat_of_zero_le h0
  have r6 : (p : Int).tmod 6 = ((p % 6 : Nat) : Int) := by rw [Int.tmod_eq_emod_of_nonneg (by omega)]; omega
  have hm6 : p % 6 < 6 := Nat.mod_lt _ (by decide)
  generalize p % 6 = m at *
  have hHT := Lib.hid hT
  have HZ2 := Lib.hid hz2
  have H1 := Lib.hid (ops_any z1 6 (by omega) a1 c1 W hz1)
  have hlen : (opsM z1 6).length ≤ 6 := by rw [opsM_len]; omega
  have hfit : ∀ i, i < (opsM z1 6).length → (opAt (opsM z1 6) i).fits ∧ (opAt (opsM z1 6) i).L.length ≤ 65000 := opsM_fits
  generalize opsM z1 6 = l at *
  have hN : (1 : Int) ≤ 1 + (m : Int) ∧ 1 + (m : Int) ≤ 4096 := by omega
  have Hfit := Lib.hid hfit
  have Hlaw := Lib.hid (order_fits (l := l) hN (by omega))
  have Hlaw2 := Lib.hid (fun o h => fits_order (pages := 1 + (m : Int)) (l := l) (by omega) (o := o) h)
  clear hfit hz1 hz2 hT
  obtain ⟨r, er⟩ : ∃ r, orderM (1 + (m : Int)) l = r := ⟨_, rfl⟩
  rw [er] at Hlaw
  have Hr := Lib.hid er
  clear er
  go_enter Tryd.func13, Tryd.ntmps13
  go_wp2_with fail
  refine H1.out.mono ?_
  rintro e w1 ⟨⟨lv, rfl, hown⟩, hb1⟩
  have HL1 := Lib.hid hown.at
  obtain ⟨ld, lcap, rfl⟩ := ops_slice HL1.out
  have HB1 := Lib.hid hb1
  have H2 := Lib.hid (order_any (1 + (m : Int)) l (by omega) Hfit.out _ _ HL1.out (hHT.out.below HB1.out))
  rw [Hr.out] at H2
  clear hown hb1
  go_wp2_with fail
  refine H2.out.mono ?_
  rintro e w2 ⟨⟨av, rfl, ha⟩, hb2⟩
  have HL2 := Lib.hid (HL1.out.kept (CellsKept.of hb2))
  have HB2 := Lib.hid (below_more HB1.out hb2)
  have hlr : (r.getD []).length ≤ 6 := by
    cases r with
    | none => simp
    | some a =>
      obtain ⟨r', e, hr'⟩ := dfs_go _ _ _ _ (List.mem_of_find?_eq_some (show (dfsM (1 + (m : Int)) l l.length [] []).find? (wholeM l) = some a from by
        have := Hr.out
        unfold orderM at this
        split at this
        · exact this
        · cases this))
      rw [List.nil_append] at e
      subst e
      have := go_len _ _ _ hr'
      have := miss_le [] l.length
      show a.length ≤ 6
      omega
  obtain ⟨ad, acap, rfl⟩ := ints_slice ha
  have HA2 := Lib.hid ha
  have H3 := Lib.hid (fits_any (1 + (m : Int)) l (by omega) Hfit.out (r.getD []) (by omega) _ _ _ HL2.out HA2.out (hHT.out.below HB2.out))
  rw [Hlaw.out] at H3
  clear ha hb2
  go_upto_region 4 with (fail)
  go_cut [40] (fun s40 wx => s40 = .bool false ∧ Below w2.heap.size w2 wx)
  case first =>
    go_wp2_with fail
    refine H3.out.mono ?_
    rintro e w3 ⟨rfl, hb3⟩
    have HB := Lib.hid hb3
    clear hb3
    cases r with
    | none =>
      go_wp2
      go_meet
      exact ⟨rfl, HB.out⟩
    | some a =>
      go_wp2
      go_meet
      exact ⟨rfl, HB.out⟩
  case rest =>
    obtain ⟨rfl, hb3⟩ := hcut
    have HL3 := Lib.hid (HL2.out.kept (CellsKept.of hb3))
    have HA3 := Lib.hid (HA2.out.kept (CellsKept.of hb3))
    have HB3 := Lib.hid (below_more HB2.out hb3)
    clear hb3
    obtain ⟨W3, hW3⟩ : ∃ W3, W3 = wc := ⟨_, rfl⟩
    subst hW3
    obtain ⟨i0, hi0, hz0, hz1, hz2⟩ := info_parts' lInfo3
    go_upto_block 0 with (fail)
    go_cut [11] (fun s11 wx => ∃ (k : Nat) (od : Option Addr) (oc : Nat), k ≤ 6 ∧ s11 = .slice od k oc ∧ wx.ownsRow W3.heap.size 3 1 (.slice od k oc) k ((sixL z2 k).map iV) ∧ Below W3.heap.size W3 wx)
    case first =>
      go_wp2_with fail
      go_loopw [11, 12] (fun o i wr => ∃ (k : Nat) (od : Option Addr) (oc : Nat), k ≤ 6 ∧ k ≤ l2 ∧ o = .slice od k oc ∧ i = .int .i64 k ∧ wr.ownsRow W3.heap.size 3 1 (.slice od k oc) k ((sixL z2 k).map iV) ∧ Below W3.heap.size W3 wr) (fun _ i _ => 6 - (intOf i).toNat)
      case atStart => exact ⟨0, none, 0, by omega, by omega, rfl, rfl, nilRow _ _, Below.refl _ _⟩
      case round =>
        obtain ⟨k, od, oc, hk6, hkl, rfl, rfl, hown, hbw⟩ := hrel
        obtain ⟨Wo, hWo⟩ : ∃ Wo, Wo = wr := ⟨_, rfl⟩
        subst hWo
        have HO := Lib.hid hown
        have HBw := Lib.hid hbw
        have HBW := Lib.hid (below_more HB3.out hbw)
        clear hown hbw
        by_cases hlt : k < 6
        · by_cases hl2 : k < l2
          · obtain ⟨gn, cn, rfl, hx, hc⟩ := bytes_cell (HZ2.out.kept (CellsKept.of HBW.out)) (k := k) (by rw [E2.out]; exact hl2)
            obtain ⟨c0, b0⟩ := hc k (by rw [E2.out]; exact hl2)
            clear hc
            have Hsix := Lib.hid (sixL_succ z2 k)
            have q6 : ((z2.getD k 0 : Nat) : Int).tmod 6 = ((z2.getD k 0 % 6 : Nat) : Int) := by rw [Int.tmod_eq_emod_of_nonneg (by omega)]; omega
            generalize z2.getD k 0 % 6 = y at *
            generalize z2.getD k 0 = x at *
            have hone : ∀ v ∈ [Value.int .i64 (y : Nat)], v.oneCell' = true := by simp [Value.oneCell']
            have Hone := Lib.hid hone
            clear hone
            have Hnews := Lib.hid (World.news_of_block (World.alloc_heap_new Wo (.cells #[.int .i64 (y : Nat)] 3)))
            have Hl2 := Lib.hid (HO.out.alloc (.cells #[.int .i64 (y : Nat)] 3))
            go_wp2_with (at_builtin; refine wpList_append_lies _ rfl _ _ 41 rfl W3.heap.size 3 i0 (.int .i64 0) 1 8 Tryd.underlying41 hi0 hz0 hz1 hz2 rfl (by decide) _ _ _ rfl Hl2.out _ 1 1 _ rfl rfl Hnews.out Hone.out (by omega) (by unfold maxLen; omega) (by omega) (by have := HBw.out.size; simp; omega) _ rfl ?_; intro g' cap' w1 hown' hgrow _ _)
            have HO7 := Lib.hid hown'
            have HB7 := Lib.hid ((HBw.out.alloc HBw.out.size (.cells #[.int .i64 (y : Nat)] 3)).grown hgrow (by have := HBw.out.size; simp; omega) (own_later Hl2.out))
            clear hown' hgrow
            go_roundw
            case rel =>
              refine ⟨k + 1, _, _, by omega, by omega, rfl, by go_num, ?_, HB7.out⟩
              rw [Hsix.out, List.map_append]
              exact HO7.out
            case measure => simp [intOf]; omega
          · go_wp2
            go_meet
            exact ⟨k, od, oc, hk6, rfl, HO.out, HBw.out⟩
        · by_cases hl2 : k < l2
          · go_wp2
            go_meet
            exact ⟨k, od, oc, hk6, rfl, HO.out, HBw.out⟩
          · go_wp2
            go_meet
            exact ⟨k, od, oc, hk6, rfl, HO.out, HBw.out⟩
    case rest =>
      obtain ⟨k, od, oc, hk6, rfl, hown, hbw⟩ := hcut
      have HIo := Lib.hid (ints_of_owns hown)
      have HL4 := Lib.hid (HL3.out.kept (CellsKept.of hbw))
      have HA4 := Lib.hid (HA3.out.kept (CellsKept.of hbw))
      have HB4 := Lib.hid (below_more HB3.out hbw)
      have hsl := sixL_len z2 k
      clear hown hbw
      have H4 := fits_any (1 + (m : Int)) l (by omega) Hfit.out (sixL z2 k) (by omega) _ _ _ HL4.out HIo.out (hHT.out.below HB4.out)
      obtain ⟨bf, ebf⟩ : ∃ bf, fitsM (1 + (m : Int)) l (sixL z2 k) = bf := ⟨_, rfl⟩
      rw [ebf] at H4
      have H4 := Lib.hid H4
      have Hbf := Lib.hid ebf
      clear ebf
      cases bf with
      | false =>
        go_wp2_with fail
        refine H4.out.mono ?_
        rintro e w5 ⟨rfl, hb5⟩
        have HB5 := Lib.hid (below_more HB4.out hb5)
        clear hb5
        go_wp2_with fail
        refine (awake_any _ (hHT.out.below HB5.out)).mono ?_
        rintro e w6 ⟨rfl, hb6⟩
        have HB6 := Lib.hid (below_more HB5.out hb6)
        clear hb6
        go_wp2
        go_ret
        exact ⟨rfl, HB6.out⟩
      | true =>
        obtain ⟨aa, hra, hok⟩ := Hlaw2.out _ Hbf.out
        obtain rfl : r = some aa := Hr.out.symm.trans hra
        have Hok := Lib.hid hok
        clear hok hra
        generalize sixL z2 k = oo at *
        simp only [Option.getD_some, Option.isSome_some] at *
        go_wp2_with fail
        refine H4.out.mono ?_
        rintro e w5 ⟨rfl, hb5⟩
        have HA5 := Lib.hid (HA4.out.kept (CellsKept.of hb5))
        have HI5 := Lib.hid (HIo.out.kept (CellsKept.of hb5))
        have HB5 := Lib.hid (below_more HB4.out hb5)
        clear hb5
        obtain ⟨an, ean⟩ : ∃ an, aa.length = an := ⟨_, rfl⟩
        rw [ean] at hlr HA5 ⊢
        have Ean := Lib.hid ean
        clear ean
        obtain ⟨W5, hW5⟩ : ∃ W5, W5 = w5 := ⟨_, rfl⟩
        subst hW5
        go_wp2_with fail
        go_loopw [13] (fun i wr => ∃ q : Nat, q ≤ an ∧ i = .int .i64 q ∧ firstOk (aa.drop q) (oo.drop q) = true ∧ Below W5.heap.size W5 wr) (fun i _ => an - (intOf i).toNat)
        case atStart => exact ⟨0, by omega, rfl, by simpa using Hok.out, Below.refl _ _⟩
        case round =>
          obtain ⟨q, hq, rfl, hfo, hbw⟩ := hrel
          obtain ⟨Wo, hWo⟩ : ∃ Wo, Wo = wr := ⟨_, rfl⟩
          subst hWo
          have HBw := Lib.hid hbw
          have HBW := Lib.hid (below_more HB5.out hbw)
          by_cases hlt : q < an
          · obtain ⟨s1, s2, s3⟩ := firstOk_step (by rw [Ean.out]; exact hlt) hfo
            obtain ⟨ga, ca, hva, hga, ka⟩ := intsAt_cell (HA5.out.kept (CellsKept.of hbw)) (k := q) (by rw [Ean.out]; exact hlt)
            obtain ⟨go, co, hvo, hgo, ko⟩ := intsAt_cell (HI5.out.kept (CellsKept.of hbw)) (k := q) s1
            obtain ⟨rfl, rfl⟩ : ad = some ⟨ga, 0, none⟩ ∧ acap = ca := by rw [Ean.out] at hva; injection hva with h1 h2 h3; exact ⟨h1, h3⟩
            obtain ⟨on, eon⟩ : ∃ on, oo.length = on := ⟨_, rfl⟩
            rw [eon] at hvo s1
            obtain ⟨rfl, rfl, rfl⟩ : od = some ⟨go, 0, none⟩ ∧ k = on ∧ oc = co := by injection hvo with h1 h2 h3; exact ⟨h1, h2, h3⟩
            obtain ⟨x, ex⟩ : ∃ x, aa.getD q 0 = x := ⟨_, rfl⟩
            obtain ⟨y, ey⟩ : ∃ y, oo.getD q 0 = y := ⟨_, rfl⟩
            rw [ex] at ka s2 s3
            rw [ey] at ko s2 s3
            have S3 := Lib.hid s3
            clear s3 ex ey hva hvo hfo hbw eon
            have qa : (q : Int) < an := by omega
            have qo : (q : Int) < k := by omega
            have qge : decide ((k : Int) ≤ (q : Int)) = false := decide_eq_false (by omega)
            have qlt : decide (y < x) = false := decide_eq_false (by omega)
            by_cases hgt : x < y
            · have qgt : decide (x < y) = true := decide_eq_true hgt
              go_wp2_with fail
              go_quiet (fail)
              go_wp2_with fail
              go_quiet (fail)
              go_wp2_with fail
              refine (awake_any _ (hHT.out.below (draw_below HBW.out _))).mono ?_
              rintro e w6 ⟨rfl, hb6⟩
              have HB6 := Lib.hid (below_more HBW.out (undraw_below hb6))
              clear hb6
              go_wp2
              go_ret
              exact ⟨rfl, HB6.out⟩
            · have qgt : decide (x < y) = false := decide_eq_false hgt
              go_wp2_with fail
              go_quiet (fail)
              go_wp2_with fail
              go_quiet (fail)
              go_wp2
              go_roundw
              case rel => exact ⟨q + 1, by omega, by go_num, S3.out (by omega), draw_below HBw.out _⟩
              case measure => simp [intOf]; omega
          · go_wp2_with fail
            refine (awake_any _ (hHT.out.below HBW.out)).mono ?_
            rintro e w6 ⟨rfl, hb6⟩
            have HB6 := Lib.hid (below_more HBW.out hb6)
            clear hb6 hbw
            go_wp2
            go_ret
            exact ⟨rfl, HB6.out⟩
end Go.Proofs.YtomheapokfphiaaDoor
