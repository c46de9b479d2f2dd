/-
  The law BitmapOwn, walked.
-/
import Derived.Test.YtjgadfeplaiclaaDoorTurn
import Derived.Test.YtjgadfeplaiclaaDoorBitmapNext
namespace Go.Proofs.YtjgadfeplaiclaaDoor
open Go Go.RowKit Go.Shelf

set_option maxHeartbeats 1600000 in
theorem sameWords_any (L : List Nat) (hlen : L.length ≤ 65536) (a b : Value) (w : World) (ha : WordsAt w a L) (hb : WordsAt w b L) :
    Calls Tryd.prog 32 #[a, b] w fun e w' => e = .returned (.bool true) ∧ Below w.heap.size w w' := by
  have HA := Lib.hid ha
  have HB := Lib.hid hb
  obtain ⟨ad, cap, rfl, _⟩ := ha
  obtain ⟨bd, bcap, rfl, _⟩ := hb
  go_enter Tryd.func32, Tryd.ntmps32
  go_wp2_with fail
  go_loopw [5] (fun i wr => ∃ k : Nat, k ≤ L.length ∧ i = .int .i64 k ∧ Below w.heap.size w wr) (fun i _ => L.length - (intOf i).toNat)
  case atStart => exact ⟨0, Nat.zero_le _, rfl, Below.refl _ _⟩
  case round =>
    obtain ⟨k, hk, rfl, hbw⟩ := hrel
    by_cases hlt : k < L.length
    · obtain ⟨g, cap', hv, hg, c0⟩ := wordsAt_cell (HA.out.kept hbw) hlt
      obtain ⟨g', bcap', hv', hg', c1⟩ := wordsAt_cell (HB.out.kept hbw) hlt
      obtain ⟨rfl, rfl⟩ : ad = some ⟨g, 0, none⟩ ∧ cap = cap' := by injection hv with h1 h2 h3; exact ⟨h1, h3⟩
      obtain ⟨rfl, rfl⟩ : bd = some ⟨g', 0, none⟩ ∧ bcap = bcap' := by injection hv' with h1 h2 h3; exact ⟨h1, h3⟩
      have Hbw := Lib.hid hbw
      clear hv hv' hbw
      go_wp2_with fail
      go_quiet (fail)
      go_wp2
      go_roundw
      case rel => exact ⟨k + 1, hlt, by go_num, (have h := Hbw.out; ⟨h.os, h.tape, h.output, h.size, h.block⟩)⟩
      case measure => simp [intOf]; omega
    · obtain rfl : k = L.length := by omega
      have Hbw := Lib.hid hbw
      clear hbw
      go_wp2
      go_ret
      exact ⟨rfl, Hbw.out⟩

/-- Whatever bitmap.Turn tells: one list, in new memory. -/
theorem turn_both (L : List Nat) (hL : Words64 L) (hlen : L.length ≤ 20) (a n : Nat) (ha : a ≤ 1300) (hn : n ≤ 1300) (on : Bool) : ∃ (M : List Nat) (b : Bool), Words64 M ∧ M.length ≤ 20 ∧ (b = false → M = []) ∧
    ∀ (v : Value) (w : World), WordsAt w v L → Calls Tryd.prog 30 #[v, .int .i64 a, .int .i64 n, .bool on] w fun e w' => (∃ u, e = .returned (.tuple #[u, .bool b]) ∧ NewWords w.heap.size w' u M) ∧ Below w.heap.size w w' := by
  by_cases hr : a + n ≤ 64 * L.length
  · refine ⟨turnL L a (a + n) on, true, fun x hx => ?_, by rw [turnL_length]; exact hlen, (fun h => Bool.noConfusion h), fun v w hw => turn_yes L hL (by omega) v a n on hr w hw⟩
    obtain ⟨k, _, rfl⟩ := List.mem_map.1 hx
    exact turnW_lt hL a (a + n) on k
  · exact ⟨[], false, fun x hx => by simp at hx, by simp, fun _ => rfl, fun v w hw => (turn_no L (by omega) v a n on (by omega) (by omega) hr w hw).mono fun e w' ⟨he, hb⟩ => ⟨⟨_, he, none, 0, rfl, .inl rfl⟩, hb⟩⟩

set_option maxRecDepth 4000 in
set_option maxHeartbeats 4000000 in
theorem bitmapOwn_any (a : Option Addr) (len cap : Nat) (zs : List Int) (x1 x2 : Int) (on : Bool) (h10 : 0 ≤ x1) (h11 : x1 ≤ 65535) (h20 : 0 ≤ x2) (h21 : x2 ≤ 65535)
    (w : World) (h : InRow w a len cap zs) (hT : TabB w) (hp : 0 < w.heap.size) :
    Calls Tryd.prog 11 #[.slice a len cap, .int .u16 x1, .int .u16 x2, .bool on] w fun e w' => e = .returned (.bool true) ∧ Below w.heap.size w w' := by
  obtain ⟨i0, hi, hz0, hz1, hz2⟩ := info_parts info22
  obtain ⟨L, hlen, hL, hsmall⟩ := small_any a len cap zs w h
  obtain ⟨X1, rfl⟩ := Int.eq_ofNat_of_zero_le h10
  obtain ⟨X2, rfl⟩ := Int.eq_ofNat_of_zero_le h20
  obtain ⟨A, eA⟩ : ∃ A, X1 % 1300 = A := ⟨_, rfl⟩
  obtain ⟨N, eN⟩ : ∃ N, X2 % 1300 = N := ⟨_, rfl⟩
  obtain ⟨M, b, hM, hMl, hMb, hturn⟩ := turn_both L hL hlen A N (by omega) (by omega) on
  obtain ⟨E, eE⟩ : ∃ E, heldN L (X2 : Int) = E := ⟨_, rfl⟩
  obtain ⟨r, hr⟩ := nextV_ex L X1 E
  have aw := Lib.hid (fun (W : World) (h : Below w.heap.size w W) => awake3 W (hT.kept (h.block 0 hp)) (Nat.lt_of_lt_of_le hp h.size))
  have hruns := Lib.hid (fun (v : Value) (W : World) (hw : WordsAt W v L) (hb : Below w.heap.size w W) =>
    runs_any L hL (by omega) v (X2 : Int) (by omega) (by omega) W hw (hT.kept (hb.block 0 hp)) (Nat.lt_of_lt_of_le hp hb.size))
  have hnext := Lib.hid (fun (v : Value) (W : World) (hw : WordsAt W v L) (hb : Below w.heap.size w W) =>
    next_any L hL (by omega) v (X2 : Int) (X1 : Int) (by omega) (by omega) X1 (.inl rfl) (by omega) r (by rw [eE]; exact hr) W hw (hT.kept (hb.block 0 hp)) (Nat.lt_of_lt_of_le hp hb.size))
  have hsame := Lib.hid (fun (u v : Value) (W : World) (hu : WordsAt W u L) (hv : WordsAt W v L) => sameWords_any L (by omega) u v W hu hv)
  have Hturn := Lib.hid hturn
  have f1 : (X1 : Int).tmod 1300 = A := by rw [Int.tmod_eq_emod_of_nonneg (by omega)]; omega
  have f2 : (X2 : Int).tmod 1300 = N := by rw [Int.tmod_eq_emod_of_nonneg (by omega)]; omega
  have Hsmall := Lib.hid hsmall
  have HM := Lib.hid hM
  clear h hL hsmall eA eN eE hr h10 h20 hturn hM
  go_enter Tryd.func11, Tryd.ntmps11
  go_wp2_with fail
  refine Hsmall.out.mono ?_
  rintro e w1 ⟨⟨v, rfl, ho⟩, hb1⟩
  have hw1 := words_of_owns ho
  have Hb1 := Lib.hid hb1
  have Hw1 := Lib.hid hw1
  obtain ⟨ad, vcap, rfl, hc⟩ := hw1
  have Hc := Lib.hid hc
  clear ho hb1 hc
  go_upto_region 2 with (fail)
  go_cut [9] (fun s9 wx => ∃ wd wcap, s9 = .slice wd L.length wcap ∧ WordsAt wx (.slice wd L.length wcap) L ∧ Below w1.heap.size w1 wx)
  case first =>
    have hone : ∀ u ∈ L.map wordV, u.oneCell' = true := fun u hu => by
      obtain ⟨y, _, rfl⟩ := List.mem_map.1 hu
      rfl
    have Hone := Lib.hid hone
    clear hone
    cases ad with
    | none =>
      obtain rfl : L = [] := by
        rcases Hc.out with h | ⟨g, h, _⟩
        · exact h
        · cases h
      go_wp2_with fail
      go_meet
      exact ⟨_, _, rfl, words_of_owns (own0 w1), (Below.refl _ w1).alloc (Nat.le_refl _) _⟩
    | some x =>
      have hnews : ∀ j u, (L.map wordV)[j]? = some u → (w1.alloc (.cells #[] 22)).cell? (x.add j) = some u := fun j u hu => by
        rcases Hc.out with rfl | ⟨g, hx, hg, hcell⟩
        · simp at hu
        · cases hx
          rw [List.getElem?_map] at hu
          obtain ⟨y, hy, rfl⟩ := Option.map_eq_some_iff.1 hu
          have := hcell j y hy
          rw [add0, (((Below.refl w1.heap.size w1).alloc (Nat.le_refl _) (.cells #[] 22))).cell (p := ⟨g, j, none⟩) hg]
          exact this
      have Hnews := Lib.hid hnews
      clear hnews
      go_wp2_with (at_builtin; refine wpList_append_own_at _ rfl _ _ 44 rfl w1.heap.size 22 i0 (.int .u64 0) 1 8 Tryd.underlying44 hi hz0 hz1 hz2 rfl (by decide) _ 0 [] rfl (own0 w1) x _ _ (L.map wordV) rfl (by simp) Hnews.out Hone.out (by unfold maxLen; omega) (by omega) (by simp) ?_; intro v' w2 hown' hgrow _ hat)
      go_meet
      have hown2 : w2.ownsRow w1.heap.size 22 1 v' L.length (L.map wordV) := by simpa using hown'
      have hwd := words_of_owns hown2
      obtain ⟨wd, wcap, rfl⟩ := slice_of_owns hown2
      refine ⟨wd, wcap, rfl, hwd, ?_⟩
      exact ((Below.refl _ w1).alloc (Nat.le_refl _) _).grown hgrow (by simp) (fun k e => by have e' : some w1.heap.size = some k := e; injection e' with e'; omega)
  case rest =>
    obtain ⟨wd, wcap, rfl, hws, hbc⟩ := hcut
    have Hl := Lib.hid (Hw1.out.kept hbc)
    have Hws := Lib.hid hws
    have HBc := Lib.hid (Hb1.out.trans (hbc.mono Hb1.out.size))
    clear hws hbc Hw1 Hb1 Hc hi hz0 hz1 hz2
    go_wp2_with fail
    refine (Hturn.out _ _ Hl.out).mono ?_
    rintro e w3 ⟨⟨u, rfl, xd, xcap, rfl, hx⟩, hb3⟩
    have HB3 := Lib.hid (HBc.out.trans (hb3.mono HBc.out.size))
    have Hb3 := Lib.hid hb3
    have Hx := Lib.hid hx
    clear hb3 hx
    go_wp2_with fail
    refine (hruns.out _ _ (Hl.out.kept Hb3.out) HB3.out).mono ?_
    rintro e w4 ⟨⟨u4, rfl, _⟩, hb4⟩
    have Hb4 := Lib.hid (Hb3.out.trans (hb4.mono Hb3.out.size))
    have HB4 := Lib.hid (HBc.out.trans (Hb4.out.mono HBc.out.size))
    have Hx4 := Lib.hid (show M = [] ∨ ∃ g, xd = some ⟨g, 0, none⟩ ∧ wc.heap.size ≤ g ∧ RowAt w4 g M.length (wAt M) from by
      rcases Hx.out with h | ⟨g, h1, h2, h3⟩
      · exact .inl h
      · exact .inr ⟨g, h1, h2, h3.kept hb4.size (hb4.block g h3.1)⟩)
    clear hb4
    go_wp2_with fail
    refine (hnext.out _ _ (Hl.out.kept Hb4.out) HB4.out).mono ?_
    rintro e w5 ⟨rfl, hb5⟩
    have Hb5 := Lib.hid (Hb4.out.trans (hb5.mono Hb4.out.size))
    have Hx5 := Lib.hid (show M = [] ∨ ∃ g, xd = some ⟨g, 0, none⟩ ∧ wc.heap.size ≤ g ∧ RowAt w5 g M.length (wAt M) from by
      rcases Hx4.out with h | ⟨g, h1, h2, h3⟩
      · exact .inl h
      · exact .inr ⟨g, h1, h2, h3.kept hb5.size (hb5.block g h3.1)⟩)
    clear hb5 Hx Hx4 Hb4 HB4 HB3 Hb3
    cases b with
    | false =>
      obtain rfl := hMb rfl
      go_wp2_with fail
      refine (hsame.out _ _ _ (Hl.out.kept Hb5.out) (Hws.out.kept Hb5.out)).mono ?_
      rintro e w6 ⟨rfl, hb6⟩
      have Hb6 := Lib.hid (Hb5.out.trans (hb6.mono Hb5.out.size))
      clear hb6
      go_wp2_with fail
      go_loopw [12] (fun s wr => s = .int .i64 0 ∧ wr = w6) (fun _ _ => 0)
      case atStart => exact ⟨rfl, rfl⟩
      case round =>
        obtain ⟨rfl, ewr⟩ := hrel
        have ewr' := ewr.symm
        subst ewr'
        clear ewr
        go_wp2_with fail
        refine (Hturn.out _ _ (Hl.out.kept Hb6.out)).mono ?_
        rintro e w7 ⟨⟨u7, rfl, yd, ycap, rfl, _⟩, hb7⟩
        have Hb7 := Lib.hid (Hb6.out.trans (hb7.mono Hb6.out.size))
        clear hb7
        go_wp2_with fail
        go_loopw [15] (fun s wr => s = .int .i64 0 ∧ wr = w7) (fun _ _ => 0)
        case atStart => exact ⟨rfl, rfl⟩
        case round =>
          obtain ⟨rfl, ewr⟩ := hrel
          have ewr' := ewr.symm
          subst ewr'
          clear ewr
          go_wp2_with fail
          refine (hsame.out _ _ _ (Hl.out.kept Hb7.out) (Hws.out.kept Hb7.out)).mono ?_
          rintro e w9 ⟨rfl, hb9⟩
          have Hb9 := Lib.hid (HBc.out.trans ((Hb7.out.trans (hb9.mono Hb7.out.size)).mono HBc.out.size))
          clear hb9
          go_wp2_with fail
          refine (aw.out _ Hb9.out).mono ?_
          rintro e w10 ⟨rfl, hb10⟩
          have Hb10 := Lib.hid (Hb9.out.trans (hb10.mono Hb9.out.size))
          clear hb10
          go_wp2
          go_ret
          exact ⟨rfl, Hb10.out⟩
    | true =>
      clear hMb
      go_wp2_with fail
      refine (hsame.out _ _ _ (Hl.out.kept Hb5.out) (Hws.out.kept Hb5.out)).mono ?_
      rintro e w6 ⟨rfl, hb6⟩
      have Hb6 := Lib.hid (Hb5.out.trans (hb6.mono Hb5.out.size))
      have Hx6 := Lib.hid (show M = [] ∨ ∃ g, xd = some ⟨g, 0, none⟩ ∧ wc.heap.size ≤ g ∧ RowAt w6 g M.length (wAt M) from by
        rcases Hx5.out with h | ⟨g, h1, h2, h3⟩
        · exact .inl h
        · exact .inr ⟨g, h1, h2, h3.kept hb6.size (hb6.block g h3.1)⟩)
      clear hb6
      go_wp2_with fail
      go_loopw [12] (fun s wr => ∃ k : Nat, k ≤ M.length ∧ s = .int .i64 k ∧ (M = [] ∨ ∃ g, xd = some ⟨g, 0, none⟩ ∧ wc.heap.size ≤ g ∧ RowAt wr g M.length (fun j => if j < k then compl (wAt M j) else wAt M j)) ∧ Below wc.heap.size wc wr) (fun s _ => M.length - (intOf s).toNat)
      case atStart =>
        refine ⟨0, Nat.zero_le _, rfl, ?_, Hb6.out⟩
        rcases Hx6.out with h | ⟨g, h1, h2, h3⟩
        · exact .inl h
        · exact .inr ⟨g, h1, h2, h3.congr fun j _ => by rw [if_neg (by omega)]⟩
      case round =>
        obtain ⟨k, hk, rfl, hrow, hbw⟩ := hrel
        by_cases hlt : k < M.length
        · obtain ⟨g, rfl, hg, hr⟩ : ∃ g, xd = some ⟨g, 0, none⟩ ∧ wc.heap.size ≤ g ∧ RowAt wr g M.length (fun j => if j < k then compl (wAt M j) else wAt M j) := by
            rcases hrow with rfl | h
            · simp at hlt
            · exact h
          have c0 : wr.cell? ⟨g, k, none⟩ = some (.int .u64 (wAt M k)) := by have := (hr.2 k hlt).1; simpa using this
          have fz := (hr.2 k hlt).2
          have hx : bits .xor .u64 (if IntKind.u64.signed = true then -1 else IntKind.u64.max) (wAt M k : Int) = (compl (wAt M k) : Int) := u64_compl (wAt M k) (wAt_lt HM.out k)
          have hnew := hr.set hlt (compl (wAt M k))
          have Hnew := Lib.hid (hnew.congr (h := fun j => if j < k + 1 then compl (wAt M j) else wAt M j) fun j _ => by
            by_cases e : j = k
            · subst e; simp
            · rw [if_neg e]
              by_cases e2 : j < k
              · rw [if_pos e2, if_pos (by omega)]
              · rw [if_neg e2, if_neg (by omega)])
          have Hbn := Lib.hid (hbw.setCell (p := ⟨g, k, none⟩) hg (.int .u64 (compl (wAt M k))))
          obtain ⟨y, ey⟩ : ∃ y, wAt M k = y := ⟨_, rfl⟩
          obtain ⟨z, ez⟩ : ∃ z, compl y = z := ⟨_, rfl⟩
          rw [ey] at c0 hx Hnew Hbn
          rw [ez] at hx Hnew Hbn
          clear hrow hr hnew hbw ey ez
          go_wp2
          go_roundw
          case rel => exact ⟨k + 1, hlt, by go_num, .inr ⟨g, rfl, hg, Hnew.out⟩, Hbn.out⟩
          case measure => simp [intOf]; omega
        · obtain rfl : k = M.length := by omega
          have Hrow := Lib.hid (show M = [] ∨ ∃ g, xd = some ⟨g, 0, none⟩ ∧ wc.heap.size ≤ g ∧ RowAt wr g M.length (fun j => compl (wAt M j)) from by
            rcases hrow with h | ⟨g, h1, h2, h3⟩
            · exact .inl h
            · exact .inr ⟨g, h1, h2, h3.congr fun j hj => by rw [if_pos hj]⟩)
          have Hbw := Lib.hid hbw
          clear hrow hbw
          obtain ⟨Wo, hWo⟩ : ∃ Wo, Wo = wr := ⟨_, rfl⟩
          subst hWo
          go_wp2_with fail
          refine (Hturn.out _ _ (Hl.out.kept Hbw.out)).mono ?_
          rintro e w7 ⟨⟨u7, rfl, hu7⟩, hb7⟩
          have hy := hu7.at
          have Hy := Lib.hid hy
          obtain ⟨yd, ycap, rfl, _⟩ := hy
          have Hb7 := Lib.hid (Hbw.out.trans (hb7.mono Hbw.out.size))
          have Hx7 := Lib.hid (show M = [] ∨ ∃ g, xd = some ⟨g, 0, none⟩ ∧ RowAt w7 g M.length (fun j => compl (wAt M j)) from by
            rcases Hrow.out with h | ⟨g, h1, h2, h3⟩
            · exact .inl h
            · exact .inr ⟨g, h1, h3.kept hb7.size (hb7.block g h3.1)⟩)
          clear hb7 hu7
          go_wp2_with fail
          go_loopw [15] (fun s wr => ∃ k : Nat, k ≤ M.length ∧ s = .int .i64 k ∧ Below w7.heap.size w7 wr) (fun s _ => M.length - (intOf s).toNat)
          case atStart => exact ⟨0, Nat.zero_le _, rfl, Below.refl _ _⟩
          case round =>
            obtain ⟨k, hk, rfl, hbw⟩ := hrel
            by_cases hlt : k < M.length
            · obtain ⟨g, rfl, hr⟩ : ∃ g, xd = some ⟨g, 0, none⟩ ∧ RowAt w7 g M.length (fun j => compl (wAt M j)) := by
                rcases Hx7.out with rfl | h
                · simp at hlt
                · exact h
              have c0 : wr.cell? ⟨g, k, none⟩ = some (.int .u64 (compl (wAt M k))) := (hbw.cell (p := ⟨g, k, none⟩) hr.1).trans (hr.2 k hlt).1
              obtain ⟨g', cap', hv, hg', c1⟩ := wordsAt_cell (Hy.out.kept hbw) hlt
              obtain ⟨rfl, rfl⟩ : yd = some ⟨g', 0, none⟩ ∧ ycap = cap' := by injection hv with h1 h2 h3; exact ⟨h1, h3⟩
              have hx : bits .xor .u64 (if IntKind.u64.signed = true then -1 else IntKind.u64.max) (wAt M k : Int) = (compl (wAt M k) : Int) := u64_compl (wAt M k) (wAt_lt HM.out k)
              obtain ⟨y, ey⟩ : ∃ y, wAt M k = y := ⟨_, rfl⟩
              obtain ⟨z, ez⟩ : ∃ z, compl y = z := ⟨_, rfl⟩
              rw [ey] at c0 c1 hx
              rw [ez] at c0 hx
              have Hb := Lib.hid hbw
              clear hv hbw hr ey ez
              go_wp2_with fail
              go_quiet (fail)
              go_wp2
              go_roundw
              case rel => exact ⟨k + 1, hlt, by go_num, (have h := Hb.out; ⟨h.os, h.tape, h.output, h.size, h.block⟩)⟩
              case measure => simp [intOf]; omega
            · obtain rfl : k = M.length := by omega
              have Hb8 := Lib.hid (Hb7.out.trans (hbw.mono Hb7.out.size))
              clear hbw
              go_wp2_with fail
              refine (hsame.out _ _ _ (Hl.out.kept Hb8.out) (Hws.out.kept Hb8.out)).mono ?_
              rintro e w9 ⟨rfl, hb9⟩
              have Hb9 := Lib.hid (HBc.out.trans ((Hb8.out.trans (hb9.mono Hb8.out.size)).mono HBc.out.size))
              clear hb9
              go_wp2_with fail
              refine (aw.out _ Hb9.out).mono ?_
              rintro e w10 ⟨rfl, hb10⟩
              have Hb10 := Lib.hid (Hb9.out.trans (hb10.mono Hb9.out.size))
              clear hb10
              go_wp2
              go_ret
              exact ⟨rfl, Hb10.out⟩
end Go.Proofs.YtjgadfeplaiclaaDoor
