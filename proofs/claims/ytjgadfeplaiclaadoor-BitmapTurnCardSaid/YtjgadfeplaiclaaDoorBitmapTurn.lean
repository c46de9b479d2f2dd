/-
  The law BitmapTurn, walked.
-/
import Derived.Test.YtjgadfeplaiclaaDoorTurn
import Derived.Test.YtjgadfeplaiclaaDoorBitmapNext
namespace Go.Proofs.YtjgadfeplaiclaaDoor
open Go Go.RowKit Go.Shelf

theorem turn_has {L : List Nat} {a e : Nat} {on : Bool} (he : e ≤ 64 * L.length) (i : Int) : hasV (turnL L a e on) i = if (a : Int) ≤ i ∧ i < e then on else hasV L i := by
  by_cases h0 : i < 0
  · rw [hasV_neg h0, hasV_neg h0, if_neg (by omega)]
  · obtain ⟨n, rfl⟩ := Int.eq_ofNat_of_zero_le (show 0 ≤ i by omega)
    rw [hasV_nat, hasV_nat]
    by_cases h1 : n < 64 * L.length
    · rw [turnL_bit h1]
      by_cases h2 : a ≤ n ∧ n < e
      · rw [if_pos h2, if_pos (by omega)]
      · rw [if_neg h2, if_neg (by omega)]
    · rw [bitL_out (by rw [turnL_length]; omega), bitL_out (by omega), if_neg (by omega)]
theorem words64_turn {L : List Nat} (hL : Words64 L) (a e : Nat) (on : Bool) : Words64 (turnL L a e on) := fun x hx => by
  obtain ⟨k, _, rfl⟩ := List.mem_map.1 hx
  exact turnW_lt hL a e on k

set_option maxHeartbeats 2000000 in
theorem bitmapTurn_any (a : Option Addr) (len cap : Nat) (zs : List Int) (x1 x2 : Int) (on : Bool) (h10 : 0 ≤ x1) (h11 : x1 ≤ 65535) (h20 : 0 ≤ x2) (h21 : x2 ≤ 65535)
    (w : World) (h : InRow w a len cap zs) (hT : TabB w) (hp : 0 < w.heap.size) :
    Calls Tryd.prog 10 #[.slice a len cap, .int .u16 x1, .int .u16 x2, .bool on] w fun e w' => e = .returned (.bool true) ∧ Below w.heap.size w w' := by
  obtain ⟨L, hlen, hL, hsmall⟩ := small_any a len cap zs w h
  obtain ⟨X1, rfl⟩ := Int.eq_ofNat_of_zero_le h10
  obtain ⟨X2, rfl⟩ := Int.eq_ofNat_of_zero_le h20
  obtain ⟨N, eN⟩ : ∃ N, 64 * L.length = N := ⟨_, rfl⟩
  obtain ⟨F, eF⟩ : ∃ F, X1 % (N + 1) = F := ⟨_, rfl⟩
  obtain ⟨T, eT⟩ : ∃ T, X2 % (N - F + 1) = T := ⟨_, rfl⟩
  have hF : F ≤ N := by have := Nat.mod_lt X1 (show 0 < N + 1 by omega); omega
  have hFT : F + T ≤ N := by have := Nat.mod_lt X2 (show 0 < N - F + 1 by omega); omega
  have hN : N ≤ 1280 := by omega
  have aw := Lib.hid (fun (W : World) (h : Below w.heap.size w W) => awake3 W (hT.kept (h.block 0 hp)) (Nat.lt_of_lt_of_le hp h.size))
  have hyes := Lib.hid (fun (v : Value) (W : World) (hw : WordsAt W v L) => turn_yes L hL (by omega) v F T on (by omega) W hw)
  have hno := Lib.hid (fun (v : Value) (W : World) (hw : WordsAt W v L) => turn_no L (by omega) v F (N - F + 1) on (by omega) (by omega) (by omega) W hw)
  have hhas := Lib.hid (fun (v : Value) (i : Int) (h0 : -1 ≤ i) (h1 : i ≤ 2000) (W : World) (hw : WordsAt W v L) => has_any L hL (by omega) v i (by omega) (by omega) W hw)
  have hhas2 := Lib.hid (fun (v : Value) (i : Int) (h0 : -1 ≤ i) (h1 : i ≤ 2000) (W : World) (hw : WordsAt W v (turnL L F (F + T) on)) => has_any (turnL L F (F + T) on) (words64_turn hL _ _ _) (by rw [turnL_length]; omega) v i (by omega) (by omega) W hw)
  have hth := Lib.hid (turn_has (L := L) (a := F) (e := F + T) (on := on) (by omega))
  have hXl := turnL_length L F (F + T) on
  have f1 : IntKind.i64.wrap (64 * (L.length : Int)) = N := by rw [IntKind.wrap_i64]; omega
  have f2 : (X1 : Int) % ((N : Int) + 1) = F := by rw [← eF, Int.natCast_emod]; rfl
  have f2' : (X1 : Int).tmod ((N : Int) + 1) = F := by rw [Int.tmod_eq_emod_of_nonneg (by omega)]; exact f2
  have f3 : (X2 : Int) % ((N : Int) - F + 1) = T := by rw [← eT, Int.natCast_emod, show ((N - F + 1 : Nat) : Int) = (N : Int) - F + 1 by omega]
  have f3' : (X2 : Int).tmod ((N : Int) - F + 1) = T := by rw [Int.tmod_eq_emod_of_nonneg (by omega)]; exact f3
  have Hsmall := Lib.hid hsmall
  have HN := Lib.hid eN
  clear h hL hsmall eF eT h20 h10 eN
  go_enter Tryd.func10, Tryd.ntmps10
  go_wp2_with fail
  refine Hsmall.out.mono ?_
  rintro e w1 ⟨⟨v, rfl, ho⟩, hb1⟩
  have hw1 := words_of_owns ho
  have Hb1 := Lib.hid hb1
  obtain ⟨ad, vcap, rfl⟩ := slice_of_owns ho
  clear ho hb1
  go_wp2_with fail
  refine (hyes.out _ w1 hw1).mono ?_
  rintro e w2 ⟨⟨u, rfl, hu⟩, hb2⟩
  have hx := hu.at
  have hw2 := hw1.kept hb2
  have Hb2 := Lib.hid (Hb1.out.trans (hb2.mono Hb1.out.size))
  have Hw := Lib.hid hw2
  have Hx := Lib.hid hx
  obtain ⟨ud, ucap, rfl, _⟩ := hx
  rw [hXl] at *
  clear hb2 hw2 hw1 hu
  go_wp2_with fail
  go_loopw [14] (fun s wr => ∃ i : Int, -1 ≤ i ∧ i ≤ N + 1 ∧ s = .int .i64 i ∧ wr = w2) (fun s _ => (N + 2 - intOf s).toNat)
  case atStart => exact ⟨-1, by omega, by omega, rfl, rfl⟩
  case round =>
    obtain ⟨i, k1, k2, rfl, ewr⟩ := hrel
    have ewr' := ewr.symm
    subst ewr'
    clear ewr
    by_cases hki : i ≤ N
    · have hi1 := hhas.out _ i (by omega) (by omega) _ Hw.out
      have hi2 := hhas2.out _ i (by omega) (by omega) _ Hx.out
      rw [hth.out] at hi2
      obtain ⟨b, eb⟩ : ∃ b, hasV L i = b := ⟨_, rfl⟩
      rw [eb] at hi1 hi2
      have g0 : ¬ ((N : Int) < i) := by omega
      have H1 := Lib.hid hi1
      clear hi1 eb
      by_cases c1 : (F : Int) ≤ i
      · have g1 : ¬ (i < (F : Int)) := by omega
        by_cases c2 : i < (F : Int) + T
        · rw [if_pos ⟨c1, by omega⟩] at hi2
          have H2 := Lib.hid hi2
          have g2 : ¬ ((F : Int) + T ≤ i) := by omega
          clear hi2
          go_wp2_with fail
          refine H1.out.mono ?_
          rintro e w4 ⟨rfl, rfl⟩
          go_wp2_with fail
          refine H2.out.mono ?_
          rintro e w4 ⟨rfl, rfl⟩
          go_wp2
          go_roundw
          case rel => exact ⟨i + 1, by omega, by omega, by go_num, trivial⟩
          case measure => simp [intOf]; omega
        · rw [if_neg (by omega)] at hi2
          have H2 := Lib.hid hi2
          clear hi2
          go_wp2_with fail
          refine H1.out.mono ?_
          rintro e w4 ⟨rfl, rfl⟩
          go_wp2_with fail
          refine H2.out.mono ?_
          rintro e w4 ⟨rfl, rfl⟩
          go_wp2
          go_roundw
          case rel => exact ⟨i + 1, by omega, by omega, by go_num, trivial⟩
          case measure => simp [intOf]; omega
      · rw [if_neg (by omega)] at hi2
        have H2 := Lib.hid hi2
        clear hi2
        go_wp2_with fail
        refine H1.out.mono ?_
        rintro e w4 ⟨rfl, rfl⟩
        go_wp2_with fail
        refine H2.out.mono ?_
        rintro e w4 ⟨rfl, rfl⟩
        go_wp2
        go_roundw
        case rel => exact ⟨i + 1, by omega, by omega, by go_num, trivial⟩
        case measure => simp [intOf]; omega
    · have g0 : (N : Int) < i := by omega
      have Hn := Lib.hid (hno.out _ _ Hw.out)
      rw [show ((N - F + 1 : Nat) : Int) = (N : Int) - F + 1 by omega] at Hn
      go_wp2_with fail
      refine Hn.out.mono ?_
      rintro e w4 ⟨rfl, hb4⟩
      have Hb4 := Lib.hid (Hb2.out.trans (hb4.mono Hb2.out.size))
      clear hb4
      go_wp2_with fail
      refine (aw.out _ Hb4.out).mono ?_
      rintro e w5 ⟨rfl, hb5⟩
      have Hb5 := Lib.hid (Hb4.out.trans (hb5.mono Hb4.out.size))
      clear hb5
      go_wp2
      go_ret
      exact ⟨rfl, Hb5.out⟩
end Go.Proofs.YtjgadfeplaiclaaDoor
