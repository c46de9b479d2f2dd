/-
  LinTimes: it returns true for every input.
-/
import Derived.Test.YtomheapokfphiaaDoorLinTimesLaw
namespace Go.Proofs.YtomheapokfphiaaDoor
open Go Go.RowKit Go.Shelf

set_option maxRecDepth 6000 in
set_option maxHeartbeats 8000000 in
theorem linTimes_any (x0 : Int) (a1 : Option Addr) (l1 c1 : Nat) (z1 : List Nat) (x2 : Int) (h0 : 0 ≤ x0) (h1 : x0 ≤ 255) (g0 : 0 ≤ x2) (g1 : x2 ≤ 255) (W : World) (w1 : BytesAt W a1 z1 ∧ z1.length = l1) (hT : Tab W) :
    Calls Tryd.prog 15 #[.int .u8 x0, .slice a1 l1 c1, .int .u8 x2] W fun e w' => e = .returned (.bool true) ∧ Below W.heap.size W w' := by
  obtain ⟨hz1, rfl⟩ := w1
  obtain ⟨p, rfl⟩ := Int.eq_ofNat_of_zero_le h0
  have r6 : (p : Int).tmod 6 = ((p % 6 : Nat) : Int) := by rw [Int.tmod_eq_emod_of_nonneg (by omega)]; omega
  have hm6 : p % 6 < 6 := Nat.mod_lt _ (by decide)
  generalize p % 6 = m at *
  have hHT := Lib.hid hT
  have H1 := Lib.hid (ops_any z1 6 (by omega) a1 c1 W hz1)
  have hlen : (opsM z1 6).length ≤ 6 := by rw [opsM_len]; omega
  have hfit : ∀ i, i < (opsM z1 6).length → (opAt (opsM z1 6) i).fits ∧ (opAt (opsM z1 6) i).L.length ≤ 65000 := opsM_fits
  have hsm : ∀ o ∈ opsM z1 6, o.small := opsM_small
  generalize opsM z1 6 = l at *
  have hN : (1 : Int) ≤ 1 + (m : Int) ∧ 1 + (m : Int) ≤ 4096 := by omega
  have Hfit := Lib.hid hfit
  have Hsm := Lib.hid hsm
  have Hlaw := Lib.hid (order_fits (l := l) hN (by omega))
  clear hfit hz1 hT hsm
  obtain ⟨r, er⟩ : ∃ r, orderM (1 + (m : Int)) l = r := ⟨_, rfl⟩
  rw [er] at Hlaw
  have Hr := Lib.hid er
  clear er
  obtain ⟨ln, eln⟩ : ∃ ln, l.length = ln := ⟨_, rfl⟩
  have Eln := Lib.hid eln
  go_enter Tryd.func15, Tryd.ntmps15
  go_wp2_with fail
  refine H1.out.mono ?_
  rintro e w1 ⟨⟨lv, rfl, hown⟩, hb1⟩
  have HO1 := Lib.hid hown
  obtain ⟨ld, lcap, rfl⟩ := ops_slice hown.at
  have HB1 := Lib.hid hb1
  have H2 := Lib.hid (order_any (1 + (m : Int)) l (by omega) Hfit.out _ _ hown.at (hHT.out.below HB1.out))
  rw [Hr.out] at H2
  rw [eln] at hlen hown HO1 H2 ⊢
  clear hown hb1 eln
  go_wp2_with fail
  refine H2.out.mono ?_
  rintro e w2 ⟨⟨av, rfl, ha⟩, hb2⟩
  have HO2 := Lib.hid (HO1.out.old (fun g hg => hb2.block g hg))
  have HB2 := Lib.hid (below_more HB1.out hb2)
  obtain ⟨ad, acap, rfl⟩ := ints_slice ha
  have HA2 := Lib.hid ha
  clear ha hb2
  cases r with
  | none =>
    go_wp2_with fail
    refine (awake_any _ (hHT.out.below HB2.out)).mono ?_
    rintro e w3 ⟨rfl, hb3⟩
    have HB3 := Lib.hid (below_more HB2.out hb3)
    clear hb3
    go_wp2
    go_ret
    exact ⟨rfl, HB3.out⟩
  | some aa =>
    have Hgo := Lib.hid (order_go Hr.out)
    have hla : aa.length ≤ 6 := by
      have := go_len _ _ _ Hgo.out
      have := miss_le [] l.length
      have := Eln.out
      omega
    simp only [Option.getD_some, Option.isSome_some] at *
    obtain ⟨an, ean⟩ : ∃ an, aa.length = an := ⟨_, rfl⟩
    rw [ean] at hla HA2 ⊢
    have Ean := Lib.hid ean
    clear ean
    obtain ⟨W2, hW2⟩ : ∃ W2, W2 = w2 := ⟨_, rfl⟩
    subst hW2
    go_upto_block 0 with (fail)
    go_cut [7] (fun s7 wx => s7 = .slice ld ln lcap ∧ Below W2.heap.size W2 wx)
    case first =>
      go_wp2_with fail
      go_loopw [11] (fun i wr => ∃ q : Nat, q ≤ an ∧ i = .int .i64 q ∧ Below W2.heap.size W2 wr) (fun i _ => an - (intOf i).toNat)
      case atStart => exact ⟨0, by omega, rfl, Below.refl _ _⟩
      case round =>
        obtain ⟨q, hq, rfl, hbw⟩ := hrel
        obtain ⟨Wo, hWo⟩ : ∃ Wo, Wo = wr := ⟨_, rfl⟩
        subst hWo
        have HBw := Lib.hid hbw
        clear hbw
        by_cases hlt : q < an
        · go_wp2_with fail
          go_loopw [12] (fun i wr => ∃ t : Nat, t ≤ q ∧ i = .int .i64 t ∧ Below W2.heap.size W2 wr) (fun i _ => q - (intOf i).toNat)
          case atStart => exact ⟨0, by omega, rfl, HBw.out⟩
          case round =>
            obtain ⟨t, ht, rfl, hbi⟩ := hrel
            obtain ⟨Wi, hWi⟩ : ∃ Wi, Wi = wr := ⟨_, rfl⟩
            subst hWi
            have HBi := Lib.hid hbi
            by_cases htq : t < q
            · obtain ⟨ga, ca, hva, hga, ka⟩ := intsAt_cell (HA2.out.kept (CellsKept.of hbi)) (k := q) (by rw [Ean.out]; exact hlt)
              obtain ⟨gb, cb, hvb, hgb, kb⟩ := intsAt_cell (HA2.out.kept (CellsKept.of hbi)) (k := t) (by rw [Ean.out]; omega)
              obtain ⟨rfl, rfl⟩ : ad = some ⟨ga, 0, none⟩ ∧ acap = ca := by rw [Ean.out] at hva; injection hva with h1 h2 h3; exact ⟨h1, h3⟩
              obtain rfl : ga = gb := by injection hvb with h1 h2 h3; injection h1 with h1; injection h1
              have q1 := go_get Hgo.out (i := q) (by rw [Ean.out]; exact hlt)
              have q2 := go_get Hgo.out (i := t) (by rw [Ean.out]; omega)
              have q3 := go_times Hgo.out (i := q) (j := t) (by rw [Ean.out]; exact hlt) htq
              obtain ⟨x, ex⟩ := Int.eq_ofNat_of_zero_le q1.1
              obtain ⟨y, ey⟩ := Int.eq_ofNat_of_zero_le q2.1
              rw [ex] at ka q1 q3
              rw [ey] at kb q2 q3
              rw [Int.toNat_natCast, Int.toNat_natCast] at q3
              rw [Eln.out] at q1 q2
              have q1' := q1.2
              have q2' := q2.2
              obtain ⟨gl, cl, lvx, hvl, hgl, _, hcx⟩ := opsAt_cell (HO2.out.at.kept (CellsKept.of hbi)) (k := x) (by rw [Eln.out]; omega)
              obtain ⟨gl', cl', lvy, hvl', hgl', _, hcy⟩ := opsAt_cell (HO2.out.at.kept (CellsKept.of hbi)) (k := y) (by rw [Eln.out]; omega)
              obtain ⟨rfl, rfl⟩ : ld = some ⟨gl, 0, none⟩ ∧ lcap = cl := by rw [Eln.out] at hvl; injection hvl with h1 h2 h3; exact ⟨h1, h3⟩
              obtain rfl : gl = gl' := by injection hvl' with h1 h2 h3; injection h1 with h1; injection h1
              have ce := hcx.2.2.2.2.2.2
              have cbb := hcy.2.2.2.2.2.1
              generalize (opAt l x).e = ee at *
              generalize (opAt l y).b = bb at *
              have qa : (q : Int) < an := by omega
              have qb : (t : Int) < an := by omega
              have hxl : (x : Int) < ln := by omega
              have hyl : (y : Int) < ln := by omega
              clear hva hvb hvl hvl' hcx hcy ex ey q1 q2 hbi
              by_cases he : ee = -1
              · have qe : (ee != -1) = false := by rw [he]; rfl
                clear q3
                go_wp2_with fail
                go_quiet (fail)
                go_wp2
                go_roundw
                case rel => exact ⟨t + 1, by omega, by go_num, draw_below HBi.out _⟩
                case measure => simp [intOf]; omega
              · have qe : (ee != -1) = true := by simpa using he
                have q4 : bb ≤ ee := q3.resolve_left he
                have qlt : decide (ee < bb) = false := decide_eq_false (by omega)
                clear q3
                go_wp2_with fail
                go_quiet (fail)
                go_wp2
                go_roundw
                case rel => exact ⟨t + 1, by omega, by go_num, draw_below HBi.out _⟩
                case measure => simp [intOf]; omega
            · go_wp2
              go_roundw
              case rel => exact ⟨q + 1, by omega, by go_num, HBi.out⟩
              case measure => simp [intOf]; omega
        · go_wp2
          go_meet
          exact ⟨rfl, HBw.out⟩
    case rest =>
      obtain ⟨rfl, hbw⟩ := hcut
      obtain ⟨d, rfl⟩ := Int.eq_ofNat_of_zero_le g0
      have hO3 := HO2.out.old (fun g hg => hbw.block g hg)
      have hA3 := HA2.out.kept (CellsKept.of hbw)
      have HB3 := Lib.hid (below_more HB2.out hbw)
      have HO3 := Lib.hid hO3
      have HA3 := Lib.hid hA3
      clear hbw hO3 hA3
      go_wp2_with fail
      go_loopw [13] (fun i wr => ∃ q : Nat, q ≤ ln ∧ i = .int .i64 q ∧ OpsOwn W.heap.size wr (.slice ld ln lcap) (lateTo (d : Int) l q) ∧ IntsAt wr (.slice ad an acap) aa ∧ Below W.heap.size W wr) (fun i _ => ln - (intOf i).toNat)
      case atStart => exact ⟨0, by omega, rfl, by rw [lateTo_none]; exact HO3.out, HA3.out, HB3.out⟩
      case round =>
        obtain ⟨q, hq, rfl, hown, hai, hbw⟩ := hrel
        obtain ⟨Wo, hWo⟩ : ∃ Wo, Wo = wr := ⟨_, rfl⟩
        subst hWo
        have HO := Lib.hid hown
        have HA := Lib.hid hai
        have HBw := Lib.hid hbw
        clear hown hai hbw
        by_cases hlt : q < ln
        · have hql : q < l.length := by rw [Eln.out]; exact hlt
          have hln : (lateTo (d : Int) l q).length = ln := (lateTo_len _ _ _).trans Eln.out
          have hopq : opAt (lateTo (d : Int) l q) q = opAt l q := by
            have h1 := lateTo_get (d := (d : Int)) hql
            have h2 := opAt_get (l := lateTo (d : Int) l q) (k := q) (by omega)
            rw [h1] at h2
            exact (Option.some.inj h2).symm
          obtain ⟨gl, cl, lvx, hvl, hgl, _, hcx⟩ := opsAt_cell HO.out.at (k := q) (by omega)
          rw [hopq] at hcx
          obtain ⟨rfl, rfl⟩ : ld = some ⟨gl, 0, none⟩ ∧ lcap = cl := by rw [hln] at hvl; injection hvl with h1 h2 h3; exact ⟨h1, h3⟩
          have ce := hcx.2.2.2.2.2.2
          have hown' := HO.out
          rw [← hln] at hown'
          have hput := hown'.put (lateTo_get (d := (d : Int)) hql) ((opAt l q).e + d)
          rw [hln] at hput
          have hfz : Wo.frozen? ⟨gl, q * 7 + 6, none⟩ = false := by
            obtain ⟨lvs, _, h2, _⟩ := hown'
            exact World.ownsRow.frozenAt h2 _
          have hsm := Hsm.out (opAt l q) (by
            unfold opAt
            rw [List.getD_eq_getElem?_getD, List.getElem?_eq_getElem hql]
            exact List.getElem_mem hql)
          obtain ⟨_, _, _, _, _, _, _, _, _, _, _, _, he1, he2⟩ := hsm
          have hblk : gl ≠ W.heap.size ∨ True := .inr trivial
          have hge : W.heap.size ≤ gl := by
            obtain ⟨lvs, _, h2, _⟩ := hown'
            exact (own_lt h2 rfl).2
          have hints := ints_far HA.out (g := gl) (by
            obtain ⟨lvs, _, h2, _⟩ := hown'
            rcases h2.2 with ⟨h2, _⟩ | ⟨g', cap', cur, hv, _, hh, _⟩
            · cases h2
            · injection hv with h1 h2 h3
              injection h1 with h1
              injection h1 with h1
              subst h1
              rintro ⟨c', f', h'⟩
              rw [hh] at h'
              injection h' with h'
              injection h' with _ h'
              cases h') (q * 7 + 6) (.int .i64 ((opAt l q).e + d))
          have Hsucc := Lib.hid (lateTo_succ (d := (d : Int)) hql)
          have Hput := Lib.hid hput
          have Hints := Lib.hid hints
          have HBp := Lib.hid (HBw.out.setCell (p := ⟨gl, q * 7 + 6, none⟩) hge (.int .i64 ((opAt l q).e + d)))
          clear hput hints hown' hvl hcx hopq
          by_cases he : (opAt l q).e = -1
          · have hl : lateOp (d : Int) (opAt l q) = opAt l q := by unfold lateOp; rw [if_pos he]
            have Hsame := Lib.hid (show lateTo (d : Int) l (q + 1) = lateTo (d : Int) l q by
              rw [Hsucc.out, hl]
              apply List.ext_getElem?
              intro j
              rw [List.getElem?_set]
              split
              · rename_i e
                subst e
                rw [lateTo_get hql]
                simp [lateTo_len, hql]
              · rfl)
            generalize (opAt l q).e = ee at *
            have qe : (ee != -1) = false := by rw [he]; rfl
            go_wp2
            go_roundw
            case rel => exact ⟨q + 1, by omega, by go_num, by rw [Hsame.out]; exact HO.out, HA.out, HBw.out⟩
            case measure => simp [intOf]; omega
          · have hl : lateOp (d : Int) (opAt l q) = { opAt l q with e := (opAt l q).e + d } := by unfold lateOp; rw [if_neg he]
            have Hnew := Lib.hid (show lateTo (d : Int) l (q + 1) = (lateTo (d : Int) l q).set q { opAt l q with e := (opAt l q).e + d } by rw [Hsucc.out, hl])
            clear hl
            have qe : ((opAt l q).e != -1) = true := by simpa using he
            have qw : IntKind.i64.wrap ((opAt l q).e + d) = (opAt l q).e + d := by rw [IntKind.wrap_i64]; omega
            obtain ⟨ee, eee⟩ : ∃ ee, (opAt l q).e = ee := ⟨_, rfl⟩
            rw [eee] at ce qe qw Hput Hints HBp Hnew he1 he2
            clear eee he
            go_wp2
            go_roundw
            case rel => exact ⟨q + 1, by omega, by go_num, by rw [Hnew.out]; exact Hput.out, Hints.out, HBp.out⟩
            case measure => simp [intOf]; omega
        · obtain rfl : q = ln := by omega
          have hall : lateTo (d : Int) l q = l.map (lateOp d) := by rw [← Eln.out]; exact lateTo_all _ _
          have H4 := fits_any (1 + (m : Int)) (l.map (lateOp d)) (by rw [List.length_map, Eln.out]; omega) (late_fit (by omega) (by omega) Hsm.out) aa (by rw [Ean.out]; omega) _ _ Wo (by rw [← hall]; exact HO.out.at) HA.out (hHT.out.below HBw.out)
          rw [late_fits (by omega) (by omega) Hsm.out (by rw [Hlaw.out])] at H4
          have H4 := Lib.hid H4
          go_wp2_with fail
          refine H4.out.mono ?_
          rintro e w5 ⟨rfl, hb5⟩
          have HB5 := Lib.hid (below_more HBw.out hb5)
          clear hb5
          go_wp2_with fail
          refine (awake_any _ (hHT.out.below HB5.out)).mono ?_
          rintro e w6 ⟨rfl, hb6⟩
          have HB6 := Lib.hid (below_more HB5.out hb6)
          clear hb6
          go_wp2
          go_ret
          exact ⟨rfl, HB6.out⟩
end Go.Proofs.YtomheapokfphiaaDoor
