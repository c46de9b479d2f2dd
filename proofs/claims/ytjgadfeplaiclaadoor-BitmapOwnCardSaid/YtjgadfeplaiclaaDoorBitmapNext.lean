/-
  The law BitmapNext, walked.
-/
import Derived.Test.YtjgadfeplaiclaaDoorSmall
import Derived.Deep.DeepCutAuto
namespace Go.Proofs.YtjgadfeplaiclaaDoor
open Go Go.RowKit Go.Shelf

theorem int_of {k : IntKind} {a b : Int} (h : a = b) : Value.int k a = .int k b := by rw [h]

set_option maxHeartbeats 2000000 in
theorem bitmapNext_any (a : Option Addr) (len cap : Nat) (zs : List Int) (n from_ : Int) (hn0 : -9223372036854775808 ≤ n) (hn1 : n ≤ 9223372036854775807) (hf0 : -9223372036854775808 ≤ from_) (hf1 : from_ ≤ 9223372036854775807)
    (w : World) (h : InRow w a len cap zs) (hT : TabB w) (hp : 0 < w.heap.size) :
    Calls Tryd.prog 9 #[.slice a len cap, .int .i64 n, .int .i64 from_] w fun e w' => e = .returned (.bool true) ∧ Below w.heap.size w w' := by
  obtain ⟨L, hlen, hL, hsmall⟩ := small_any a len cap zs w h
  obtain ⟨E, eE⟩ : ∃ E, heldN L n = E := ⟨_, rfl⟩
  have hE : E ≤ 64 * L.length := by rw [← eE]; unfold heldN; omega
  have hEI : (E : Int) = min (max n 0) (64 * L.length) := by rw [← eE]; unfold heldN; omega
  obtain ⟨A, hA, hA2, hAI⟩ : ∃ A : Nat, (from_ = A ∨ (from_ < 0 ∧ A = 0)) ∧ A ≤ 9223372036854775807 ∧ (A : Int) = max from_ 0 := ⟨from_.toNat, by omega, by omega, by omega⟩
  obtain ⟨r, hr⟩ := nextV_ex L A E
  have Hr := Lib.hid hr
  have HEI := Lib.hid hEI
  have HAI := Lib.hid hAI
  have aw := Lib.hid (fun (W : World) (h : Below w.heap.size w W) => awake3 W (hT.kept (h.block 0 hp)) (Nat.lt_of_lt_of_le hp h.size))
  have hnext := Lib.hid (fun (v : Value) (W : World) (hw : WordsAt W v L) (hb : Below w.heap.size w W) => by
    have := next_any L hL (by omega) v n from_ hn0 hn1 A hA hA2 r (by rw [eE]; exact hr) W hw (hT.kept (hb.block 0 hp)) (Nat.lt_of_lt_of_le hp hb.size)
    exact this)
  have hnext2 := Lib.hid (fun (v : Value) (i : Nat) (hi : i ≤ 9223372036854775807) (s : Int × Bool) (hs : NextV L i E s) (W : World) (hw : WordsAt W v L) (hb : Below w.heap.size w W) =>
    next_any L hL (by omega) v n i hn0 hn1 i (.inl rfl) hi s (by rw [eE]; exact hs) W hw (hT.kept (hb.block 0 hp)) (Nat.lt_of_lt_of_le hp hb.size))
  have hhas := Lib.hid (fun (v : Value) (i : Nat) (hi : i ≤ 9223372036854775807) (W : World) (hw : WordsAt W v L) => has_any L hL (by omega) v i (by omega) (by omega) W hw)
  have f1 : IntKind.i64.wrap (64 * (L.length : Int)) = 64 * L.length := by rw [IntKind.wrap_i64]; omega
  have Hsmall := Lib.hid hsmall
  clear hr hEI hAI h eE hL hsmall hA hf0 hf1
  go_enter Tryd.func9, Tryd.ntmps9
  go_wp2_with fail
  refine Hsmall.out.mono ?_
  rintro e w1 ⟨⟨v, rfl, ho⟩, hb1⟩
  have hw1 := words_of_owns ho
  have Hb1 := Lib.hid hb1
  clear ho hb1
  go_wp2_with fail
  refine (hnext.out v w1 hw1 Hb1.out).mono ?_
  rintro e w2 ⟨rfl, hb2⟩
  have hw2 := hw1.kept hb2
  have Hb2 := Lib.hid (Hb1.out.trans (hb2.mono Hb1.out.size))
  have Hw2 := Lib.hid hw2
  obtain ⟨ad, vcap, rfl, _⟩ := hw2
  clear hb2 hw1
  go_upto_region 3 with (fail)
  go_cut [9] (fun s9 wx => s9 = .int .i64 E ∧ wx = w2)
  case first =>
    go_wp2_with fail
    all_goals
      go_meet
      exact ⟨int_of (by have := HEI.out; omega), rfl⟩
  case rest =>
    obtain ⟨rfl, rfl⟩ := hcut
    go_upto_region 4 with (fail)
    go_cut [10] (fun s10 wx => s10 = .int .i64 A ∧ wx = wc)
    case first =>
      go_wp2_with fail
      all_goals
        go_meet
        exact ⟨int_of (by have := HAI.out; omega), rfl⟩
    case rest =>
      obtain ⟨rfl, rfl⟩ := hcut
      have HB := Hb2
      have HW := Hw2
      rcases Hr.out with ⟨i, h1, h2, h3, h4, rfl⟩ | ⟨h1, rfl⟩
      · have hN : NextV L i E ((i : Int), true) := .inl ⟨i, Nat.le_refl _, h2, h3, fun j h5 h6 => by omega, rfl⟩
        have HN := Lib.hid hN
        have H4 := Lib.hid h4
        have hhi := hhas.out _ i (by omega) _ HW.out
        rw [hasV_nat, h3] at hhi
        have Hhi := Lib.hid hhi
        have g1 : ¬ ((i : Int) < A) := by omega
        have g2 : ¬ ((E : Int) ≤ i) := by omega
        clear hN h4 hhi h3
        go_wp2_with fail
        refine Hhi.out.mono ?_
        rintro e w4 ⟨rfl, rfl⟩
        go_wp2_with fail
        go_loopw [12] (fun s wr => ∃ k : Nat, A ≤ k ∧ k ≤ i ∧ s = .int .i64 k ∧ wr = wc) (fun s _ => i - (intOf s).toNat)
        case atStart => exact ⟨A, Nat.le_refl _, h1, rfl, rfl⟩
        case round =>
          obtain ⟨k, k1, k2, rfl, ewr⟩ := hrel
          have ewr' := ewr.symm
          subst ewr'
          clear ewr
          by_cases hki : k < i
          · have hhk := hhas.out _ k (by omega) _ HW.out
            rw [hasV_nat, H4.out k k1 hki] at hhk
            have Hhk := Lib.hid hhk
            clear hhk
            go_wp2_with fail
            refine Hhk.out.mono ?_
            rintro e w4 ⟨rfl, rfl⟩
            go_wp2
            go_roundw
            case rel => exact ⟨k + 1, by omega, by omega, by go_num, trivial⟩
            case measure => simp [intOf]; omega
          · obtain rfl : k = i := by omega
            go_wp2_with fail
            refine (hnext2.out _ k (by omega) _ HN.out _ HW.out HB.out).mono ?_
            rintro e w4 ⟨rfl, hb4⟩
            have Hb4 := Lib.hid (HB.out.trans (hb4.mono HB.out.size))
            clear hb4
            go_wp2_with fail
            refine (aw.out _ Hb4.out).mono ?_
            rintro e w5 ⟨rfl, hb5⟩
            have Hb5 := Lib.hid (Hb4.out.trans (hb5.mono Hb4.out.size))
            clear hb5
            go_wp2
            go_ret
            exact ⟨rfl, Hb5.out⟩
      · have H1 := Lib.hid h1
        clear h1
        go_wp2_with fail
        go_loopw [11] (fun s wr => ∃ k : Nat, A ≤ k ∧ (k ≤ E ∨ k = A) ∧ s = .int .i64 k ∧ wr = wc) (fun s _ => E - (intOf s).toNat)
        case atStart => exact ⟨A, Nat.le_refl _, .inr rfl, rfl, rfl⟩
        case round =>
          obtain ⟨k, k1, k2, rfl, ewr⟩ := hrel
          have ewr' := ewr.symm
          subst ewr'
          clear ewr
          by_cases hki : k < E
          · have hhk := hhas.out _ k (by omega) _ HW.out
            rw [hasV_nat, H1.out k k1 hki] at hhk
            have Hhk := Lib.hid hhk
            clear hhk
            have hkI : (k : Int) < E := by omega
            have hk63 : (k : Int) < 1000000 := by omega
            clear k2
            go_wp2_with fail
            refine Hhk.out.mono ?_
            rintro e w4 ⟨rfl, rfl⟩
            go_wp2
            go_roundw
            case rel => exact ⟨k + 1, by omega, .inl (by omega), by go_num, trivial⟩
            case measure => simp [intOf]; omega
          · have hkI : ¬ (k : Int) < E := by omega
            clear k2
            go_wp2_with fail
            refine (aw.out _ HB.out).mono ?_
            rintro e w5 ⟨rfl, hb5⟩
            have Hb5 := Lib.hid (HB.out.trans (hb5.mono HB.out.size))
            clear hb5
            go_wp2
            go_ret
            exact ⟨rfl, Hb5.out⟩
end Go.Proofs.YtjgadfeplaiclaaDoor
