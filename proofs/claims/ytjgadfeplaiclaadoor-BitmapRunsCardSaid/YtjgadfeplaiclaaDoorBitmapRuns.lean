/-
  The law BitmapRuns, walked.
-/
import Derived.Test.YtjgadfeplaiclaaDoorCountAll
import Derived.Test.YtjgadfeplaiclaaDoorBitmapNext
namespace Go.Proofs.YtjgadfeplaiclaaDoor
open Go Go.RowKit Go.Shelf

theorem nxtN_full {L : List Nat} {e a j : Nat} (h1 : a ≤ j) (h2 : j < nxtN L e a) : bitL L j = true := (skip_spec (bitL L) (e - a) a).2.2.1 j h1 h2

set_option maxRecDepth 4000 in
set_option maxHeartbeats 4000000 in
theorem bitmapRuns_any (a : Option Addr) (len cap : Nat) (zs : List Int) (x1 : Int) (h10 : 0 ≤ x1) (h11 : x1 ≤ 65535)
    (w : World) (h : InRow w a len cap zs) (hT : TabB w) (hp : 0 < w.heap.size) :
    Calls Tryd.prog 12 #[.slice a len cap, .int .u16 x1] w fun e w' => e = .returned (.bool true) ∧ Below w.heap.size w w' := by
  obtain ⟨L, hlen, hL, hsmall⟩ := small_any a len cap zs w h
  obtain ⟨X1, rfl⟩ := Int.eq_ofNat_of_zero_le h10
  obtain ⟨R, eR⟩ : ∃ R, X1 % 1400 = R := ⟨_, rfl⟩
  have hR : R < 1400 := by omega
  obtain ⟨E, eE⟩ : ∃ E, heldN L (R : Int) = E := ⟨_, rfl⟩
  have hE : E ≤ 64 * L.length := by rw [← eE]; unfold heldN; omega
  have hE2 : E ≤ 1280 := by omega
  have hEI : (E : Int) = min (R : Int) (64 * L.length) := by rw [← eE]; unfold heldN; omega
  have hEE : heldN L (E : Int) = E := by unfold heldN; omega
  have HEI := Lib.hid hEI
  have aw := Lib.hid (fun (W : World) (h : Below w.heap.size w W) => awake3 W (hT.kept (h.block 0 hp)) (Nat.lt_of_lt_of_le hp h.size))
  have hruns := Lib.hid (fun (v : Value) (W : World) (hw : WordsAt W v L) (hb : Below w.heap.size w W) =>
    runs_any L hL (by omega) v (R : Int) (by omega) (by omega) W hw (hT.kept (hb.block 0 hp)) (Nat.lt_of_lt_of_le hp hb.size))
  have hcount := Lib.hid (fun (v : Value) (W : World) (hw : WordsAt W v L) => countAll_any L hL (by omega) v (E : Int) (by omega) (by omega) W hw)
  have hhas := Lib.hid (fun (v : Value) (i : Nat) (h1 : i ≤ 2000) (W : World) (hw : WordsAt W v L) => has_any L hL (by omega) v (i : Int) (by omega) (by omega) W hw)
  rw [eE] at hruns
  rw [hEE] at hcount
  have hrl := runsAt_length L E E 0 (by omega)
  have f1 : IntKind.i64.wrap (64 * (L.length : Int)) = 64 * L.length := by rw [IntKind.wrap_i64]; omega
  have f2 : (X1 : Int) % 1400 = R := by omega
  have f2' : (X1 : Int).tmod 1400 = R := by rw [Int.tmod_eq_emod_of_nonneg (by omega)]; exact f2
  have Hsmall := Lib.hid hsmall
  clear h hL hsmall hEI eE eR h10 hEE f2
  go_enter Tryd.func12, Tryd.ntmps12
  go_wp2_with fail
  refine Hsmall.out.mono ?_
  rintro e w1 ⟨⟨v, rfl, ho⟩, hb1⟩
  have hw1 := words_of_owns ho
  have Hb1 := Lib.hid hb1
  have Hw1 := Lib.hid hw1
  obtain ⟨ad, vcap, rfl⟩ := slice_of_owns ho
  clear ho hb1 hw1
  go_upto_region 2 with (fail)
  go_cut [5] (fun s5 wx => s5 = .int .i64 E ∧ wx = w1)
  case first =>
    go_wp2_with fail
    all_goals
      go_meet
      exact ⟨int_of (by have := HEI.out; omega), rfl⟩
  case rest =>
    obtain ⟨rfl, rfl⟩ := hcut
    go_wp2_with fail
    refine (hruns.out _ _ Hw1.out Hb1.out).mono ?_
    rintro e w2 ⟨⟨u, rfl, hu⟩, hb2⟩
    have hcell := cells_of_owns hu
    have HU := Lib.hid hcell
    have HW := Lib.hid (Hw1.out.kept hb2)
    have HB := Lib.hid (Hb1.out.trans (hb2.mono Hb1.out.size))
    obtain ⟨ud, ucap, rfl, _⟩ := hcell
    obtain ⟨rs, ers⟩ : ∃ rs, runsAt L E 0 = rs := ⟨_, rfl⟩
    rw [ers] at HU hrl ⊢
    have Ers := Lib.hid ers
    clear hb2 hu Hw1 ers
    go_wp2_with fail
    go_loopw [7, 8, 9] (fun at_ fr k wr => ∃ pre A F, pre ++ runsAt L E A = rs ∧ at_ = .int .i64 (A : Nat) ∧ fr = .int .i64 (F : Nat) ∧ k = .int .i64 (pre.length : Nat) ∧ cntL L A + F = A ∧ A ≤ E ∧ (0 < pre.length → A < E → bitL L A = true) ∧ Below w2.heap.size w2 wr) (fun _ _ k _ => rs.length - (intOf k).toNat)
    case atStart => exact ⟨[], 0, 0, Ers.out, rfl, rfl, rfl, rfl, Nat.zero_le _, fun h => absurd h (Nat.lt_irrefl _), Below.refl _ _⟩
    case round =>
      obtain ⟨pre, A, F, htot, rfl, rfl, rfl, hcf, hAE, hnz, hbw⟩ := hrel
      obtain ⟨Wo, hWo⟩ : ∃ Wo, Wo = wr := ⟨_, rfl⟩
      subst hWo
      have HBw := Lib.hid hbw
      by_cases hx : nxtN L E A < E
      · obtain ⟨hnv, hbi⟩ := nextV_found hx
        have hge := nxtN_ge L E A
        have hful := fun j => nxtN_full (L := L) (e := E) (a := A) (j := j)
        rw [runsAt_some hx] at htot
        obtain ⟨i, ei⟩ : ∃ i, nxtN L E A = i := ⟨_, rfl⟩
        rw [ei] at hx hbi hge hful htot
        obtain ⟨x1, x2, x3, x4⟩ := endN_spec hx hbi
        obtain ⟨j, ej⟩ : ∃ j, endN L E i = j := ⟨_, rfl⟩
        rw [ej] at x1 x2 x3 x4 htot
        have htot2 : (pre ++ [(i, j - i)]) ++ runsAt L E j = rs := by rw [← htot]; simp
        have hlt : pre.length < rs.length := by rw [← htot]; simp
        have hq : rs[pre.length]? = some (i, j - i) := by rw [← htot]; simp
        obtain ⟨p0, p1⟩ := pair_get (V := runV) (fun _ => rfl) rs pre.length _ hq
        obtain ⟨ud', cap', hv, h0 | ⟨g, rfl, hg, hc⟩⟩ := HU.out.kept hbw
        · omega
        obtain ⟨rfl, rfl⟩ : ud = some ⟨g, 0, none⟩ ∧ ucap = cap' := by injection hv with h1 h2 h3; exact ⟨h1, h3⟩
        have c0 : Wo.cell? ⟨g, pre.length * 2, none⟩ = some (.int .i64 i) := hc _ _ p0
        have c1 : Wo.cell? ⟨g, pre.length * 2 + 1, none⟩ = some (.int .i64 (j - i : Nat)) := hc _ _ p1
        obtain ⟨d, ed⟩ : ∃ d, j - i = d := ⟨_, rfl⟩
        rw [ed] at c1 htot2
        have hcnt : cntL L j + (F + d) = j := by
          rw [cntL_none (a := i) (b := j) (by omega) x3, cntL_full hge hful]
          omega
        have hFA : F ≤ A := by omega
        have hd : d ≤ 1280 := by omega
        have g1 : IntKind.i64.wrap ((i : Int) + d) = j := by rw [IntKind.wrap_i64]; omega
        have g2 : ¬ ((d : Int) < 1) := by omega
        have g3 : ¬ ((i : Int) < A) := by omega
        have g4 : ¬ ((E : Int) < j) := by omega
        have hplI : (pre.length : Int) < rs.length := by omega
        have hlen2 : (pre ++ [(i, d)]).length = pre.length + 1 := by simp
        have hia : 0 < pre.length → i ≠ A := fun h0 e => by
          have := hnz h0 (by omega)
          rw [e] at hbi
          rw [hbi] at this
          cases this
        have Hcnt := Lib.hid hcnt
        have Hful := Lib.hid hful
        have X3 := Lib.hid x3
        have X4 := Lib.hid x4
        have Htot2 := Lib.hid htot2
        have Hlen2 := Lib.hid hlen2
        have Hia := Lib.hid hia
        clear hc p0 p1 hv hq htot htot2 hnv hbi hful x3 x4 hcnt hbw hnz hia hlen2 ei ej ed hcf
        rcases Nat.eq_zero_or_pos pre.length with hz | hz
        · have hk0 : ¬ ((0 : Int) < pre.length) := by omega
          clear hz
          go_wp2_with fail
          obtain ⟨W1, hW1⟩ : ∃ W1, Wo.alloc (.cells #[.int .i64 i, .int .i64 d] 57) = W1 := ⟨_, rfl⟩
          have hr0 : W1.cell? ⟨Wo.heap.size, 0, none⟩ = some (.int .i64 i) := by rw [← hW1]; simp
          have hr1 : W1.cell? ⟨Wo.heap.size, 1, none⟩ = some (.int .i64 d) := by rw [← hW1]; simp
          have hB1 : Below w2.heap.size w2 W1 := by rw [← hW1]; exact HBw.out.alloc HBw.out.size _
          have HB1 := Lib.hid hB1
          have HW1 := Lib.hid (HW.out.kept hB1)
          rw [hW1]
          clear hW1 hB1 c0 c1
          go_loopw [11] (fun s wr => ∃ p : Nat, A ≤ p ∧ p ≤ i ∧ s = .int .i64 p ∧ wr = W1) (fun s _ => i - (intOf s).toNat)
          case atStart => exact ⟨A, Nat.le_refl _, hge, rfl, rfl⟩
          case round =>
            obtain ⟨p, k1, k2, rfl, ewr⟩ := hrel
            have ewr' := ewr.symm
            subst ewr'
            clear ewr
            by_cases hpi : p < i
            · have hh := hhas.out _ p (by omega) _ HW1.out
              rw [hasV_nat, Hful.out p k1 hpi] at hh
              have Hh := Lib.hid hh
              clear hh
              have hpI : (p : Int) < i := by omega
              go_wp2_with fail
              refine Hh.out.mono ?_
              rintro e w4 ⟨rfl, rfl⟩
              go_wp2
              go_roundw
              case rel => exact ⟨p + 1, by omega, by omega, by go_num, trivial⟩
              case measure => simp [intOf]; omega
            · have hpI : ¬ ((p : Int) < i) := by omega
              clear k1 k2 hpi
              go_wp2_with fail
              go_loopw [12] (fun s wr => ∃ q : Nat, i ≤ q ∧ q ≤ j ∧ s = .int .i64 q ∧ wr = W1) (fun s _ => j - (intOf s).toNat)
              case atStart => exact ⟨i, Nat.le_refl _, by omega, rfl, rfl⟩
              case round =>
                obtain ⟨q, k1, k2, rfl, ewr⟩ := hrel
                have ewr' := ewr.symm
                subst ewr'
                clear ewr
                by_cases hqj : q < j
                · have hh := hhas.out _ q (by omega) _ HW1.out
                  rw [hasV_nat, X3.out q k1 hqj] at hh
                  have Hh := Lib.hid hh
                  clear hh
                  have hqI : (q : Int) < j := by omega
                  go_wp2_with fail
                  refine Hh.out.mono ?_
                  rintro e w4 ⟨rfl, rfl⟩
                  go_wp2
                  go_roundw
                  case rel => exact ⟨q + 1, by omega, by omega, by go_num, trivial⟩
                  case measure => simp [intOf]; omega
                · have hqI : ¬ ((q : Int) < j) := by omega
                  have g5 : IntKind.i64.wrap ((F : Int) + d) = (F + d : Nat) := by rw [IntKind.wrap_i64]; omega
                  clear k1 k2 hqj
                  go_wp2_with fail
                  go_quiet (fail)
                  go_wp2
                  go_roundw
                  case rel => exact ⟨pre ++ [(i, d)], j, F + d, Htot2.out, rfl, rfl, by rw [Hlen2.out]; go_num, Hcnt.out, x2, fun _ h => X4.out h, (have h := HB1.out; ⟨h.os, h.tape, h.output, h.size, h.block⟩)⟩
                  case measure => simp [intOf]; omega
        · have hk0 : (0 : Int) < pre.length := by omega
          have hk1 : ¬ ((i : Int) = A) := by have := Hia.out hz; omega
          go_wp2_with fail
          obtain ⟨W1, hW1⟩ : ∃ W1, Wo.alloc (.cells #[.int .i64 i, .int .i64 d] 57) = W1 := ⟨_, rfl⟩
          have hr0 : W1.cell? ⟨Wo.heap.size, 0, none⟩ = some (.int .i64 i) := by rw [← hW1]; simp
          have hr1 : W1.cell? ⟨Wo.heap.size, 1, none⟩ = some (.int .i64 d) := by rw [← hW1]; simp
          have hB1 : Below w2.heap.size w2 W1 := by rw [← hW1]; exact HBw.out.alloc HBw.out.size _
          have HB1 := Lib.hid hB1
          have HW1 := Lib.hid (HW.out.kept hB1)
          rw [hW1]
          clear hW1 hB1 c0 c1
          go_loopw [11] (fun s wr => ∃ p : Nat, A ≤ p ∧ p ≤ i ∧ s = .int .i64 p ∧ wr = W1) (fun s _ => i - (intOf s).toNat)
          case atStart => exact ⟨A, Nat.le_refl _, hge, rfl, rfl⟩
          case round =>
            obtain ⟨p, k1, k2, rfl, ewr⟩ := hrel
            have ewr' := ewr.symm
            subst ewr'
            clear ewr
            by_cases hpi : p < i
            · have hh := hhas.out _ p (by omega) _ HW1.out
              rw [hasV_nat, Hful.out p k1 hpi] at hh
              have Hh := Lib.hid hh
              clear hh
              have hpI : (p : Int) < i := by omega
              go_wp2_with fail
              refine Hh.out.mono ?_
              rintro e w4 ⟨rfl, rfl⟩
              go_wp2
              go_roundw
              case rel => exact ⟨p + 1, by omega, by omega, by go_num, trivial⟩
              case measure => simp [intOf]; omega
            · have hpI : ¬ ((p : Int) < i) := by omega
              clear k1 k2 hpi
              go_wp2_with fail
              go_loopw [12] (fun s wr => ∃ q : Nat, i ≤ q ∧ q ≤ j ∧ s = .int .i64 q ∧ wr = W1) (fun s _ => j - (intOf s).toNat)
              case atStart => exact ⟨i, Nat.le_refl _, by omega, rfl, rfl⟩
              case round =>
                obtain ⟨q, k1, k2, rfl, ewr⟩ := hrel
                have ewr' := ewr.symm
                subst ewr'
                clear ewr
                by_cases hqj : q < j
                · have hh := hhas.out _ q (by omega) _ HW1.out
                  rw [hasV_nat, X3.out q k1 hqj] at hh
                  have Hh := Lib.hid hh
                  clear hh
                  have hqI : (q : Int) < j := by omega
                  go_wp2_with fail
                  refine Hh.out.mono ?_
                  rintro e w4 ⟨rfl, rfl⟩
                  go_wp2
                  go_roundw
                  case rel => exact ⟨q + 1, by omega, by omega, by go_num, trivial⟩
                  case measure => simp [intOf]; omega
                · have hqI : ¬ ((q : Int) < j) := by omega
                  have g5 : IntKind.i64.wrap ((F : Int) + d) = (F + d : Nat) := by rw [IntKind.wrap_i64]; omega
                  clear k1 k2 hqj
                  go_wp2_with fail
                  go_quiet (fail)
                  go_wp2
                  go_roundw
                  case rel => exact ⟨pre ++ [(i, d)], j, F + d, Htot2.out, rfl, rfl, by rw [Hlen2.out]; go_num, Hcnt.out, x2, fun _ h => X4.out h, (have h := HB1.out; ⟨h.os, h.tape, h.output, h.size, h.block⟩)⟩
                  case measure => simp [intOf]; omega
      · have hful : ∀ j, A ≤ j → j < E → bitL L j = true := fun j h1 h2 => nxtN_full (e := E) h1 (by omega)
        have hend := cntL_full hAE hful
        have hpl : pre.length = rs.length := by rw [← htot, runsAt_none hx]; simp
        have hFE : IntKind.i64.wrap ((cntL L E : Int) + F) = E := by rw [IntKind.wrap_i64]; omega
        have hple : ¬ ((pre.length : Int) < rs.length) := by omega
        have hWo := HW.out.kept hbw
        have Hful := Lib.hid hful
        have HWo := Lib.hid hWo
        clear hful hend hpl hbw hWo htot hnz hx hcf
        go_wp2_with fail
        go_loopw [13] (fun s wr => ∃ p : Nat, A ≤ p ∧ p ≤ E ∧ s = .int .i64 p ∧ wr = Wo) (fun s _ => E - (intOf s).toNat)
        case atStart => exact ⟨A, Nat.le_refl _, hAE, rfl, rfl⟩
        case round =>
          obtain ⟨p, k1, k2, rfl, ewr⟩ := hrel
          have ewr' := ewr.symm
          subst ewr'
          clear ewr
          by_cases hpE : p < E
          · have hh := hhas.out _ p (by omega) _ HWo.out
            rw [hasV_nat, Hful.out p k1 hpE] at hh
            have Hh := Lib.hid hh
            clear hh
            have hpI : (p : Int) < E := by omega
            go_wp2_with fail
            refine Hh.out.mono ?_
            rintro e w4 ⟨rfl, rfl⟩
            go_wp2
            go_roundw
            case rel => exact ⟨p + 1, by omega, by omega, by go_num, trivial⟩
            case measure => simp [intOf]; omega
          · have hpI : ¬ (p : Int) < E := by omega
            clear k2
            go_wp2_with fail
            refine (hcount.out _ _ HWo.out).mono ?_
            rintro e w4 ⟨rfl, hb4⟩
            have Hb4 := Lib.hid ((HB.out.trans (HBw.out.mono HB.out.size)).trans (hb4.mono (HB.out.trans (HBw.out.mono HB.out.size)).size))
            clear hb4
            go_wp2_with fail
            refine (aw.out _ Hb4.out).mono ?_
            rintro e w5 ⟨rfl, hb5⟩
            have Hb5 := Lib.hid (Hb4.out.trans (hb5.mono Hb4.out.size))
            clear hb5
            go_wp2
            go_ret
            exact ⟨rfl, Hb5.out⟩
end Go.Proofs.YtjgadfeplaiclaaDoor
