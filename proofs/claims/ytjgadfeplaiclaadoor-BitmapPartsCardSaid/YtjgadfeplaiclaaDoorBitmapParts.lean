/-
  The law BitmapParts, walked.
-/
import Derived.Test.YtjgadfeplaiclaaDoorRefParts
import Derived.Test.YtjgadfeplaiclaaDoorAwake3
namespace Go.Proofs.YtjgadfeplaiclaaDoor
open Go Go.RowKit Go.Shelf

theorem parts_no (a n : Int) (h : a < 0 ∨ 1048576 < a ∨ n < 1 ∨ 1048576 < n) (w : World) :
    Calls Tryd.prog 22 #[.int .i64 a, .int .i64 n] w fun e w' => e = .returned (.slice none 0 0) ∧ Below w.heap.size w w' := by
  have HB := Lib.hid (show Below w.heap.size w (w.alloc (.cells #[.slice none 0 0] 38)) from (Below.refl _ w).alloc (Nat.le_refl _) _)
  by_cases h1 : a < 0
  · go_enter Tryd.func22, Tryd.ntmps22
    go_wp2
    refine bodyPost_ret (v := .slice none 0 0) (by simp [results, Tryd.results22, go_sem]) rfl ?_
    exact ⟨rfl, HB.out⟩
  · by_cases h2 : 1048576 < a
    · go_enter Tryd.func22, Tryd.ntmps22
      go_wp2
      refine bodyPost_ret (v := .slice none 0 0) (by simp [results, Tryd.results22, go_sem]) rfl ?_
      exact ⟨rfl, HB.out⟩
    · by_cases h3 : n < 1
      · go_enter Tryd.func22, Tryd.ntmps22
        go_wp2
        refine bodyPost_ret (v := .slice none 0 0) (by simp [results, Tryd.results22, go_sem]) rfl ?_
        exact ⟨rfl, HB.out⟩
      · have h4 : 1048576 < n := by omega
        go_enter Tryd.func22, Tryd.ntmps22
        go_wp2
        refine bodyPost_ret (v := .slice none 0 0) (by simp [results, Tryd.results22, go_sem]) rfl ?_
        exact ⟨rfl, HB.out⟩
theorem rparts_no (a n : Int) (h : a < 0 ∨ 1048576 < a ∨ n < 1 ∨ 1048576 < n) (w : World) :
    Calls Tryd.prog 24 #[.int .i64 a, .int .i64 n] w fun e w' => e = .returned (.slice none 0 0) ∧ w = w' := by
  by_cases h1 : a < 0
  · go_enter Tryd.func24, Tryd.ntmps24
    go_wp2
    go_ret
    exact ⟨rfl, rfl⟩
  · by_cases h2 : 1048576 < a
    · go_enter Tryd.func24, Tryd.ntmps24
      go_wp2
      go_ret
      exact ⟨rfl, rfl⟩
    · by_cases h3 : n < 1
      · go_enter Tryd.func24, Tryd.ntmps24
        go_wp2
        go_ret
        exact ⟨rfl, rfl⟩
      · have h4 : 1048576 < n := by omega
        go_enter Tryd.func24, Tryd.ntmps24
        go_wp2
        go_ret
        exact ⟨rfl, rfl⟩

set_option maxRecDepth 4000 in
set_option maxHeartbeats 4000000 in
theorem bitmapParts_any (a n : Int) (ha0 : -9223372036854775808 ≤ a) (ha1 : a ≤ 9223372036854775807) (hn0 : -9223372036854775808 ≤ n) (hn1 : n ≤ 9223372036854775807)
    (w : World) (hT : TabB w) (hp : 0 < w.heap.size) :
    Calls Tryd.prog 8 #[.int .i64 a, .int .i64 n] w fun e w' => e = .returned (.bool true) ∧ Below w.heap.size w w' := by
  have aw := Lib.hid (fun (W : World) (h : Below w.heap.size w W) => awake3 W (hT.kept (h.block 0 hp)) (Nat.lt_of_lt_of_le hp h.size))
  by_cases hc : 65536 < n ∧ n ≤ 1048576
  · obtain ⟨c1, c2⟩ := hc
    obtain ⟨m, em⟩ : ∃ m : Nat, n % 65536 = m := ⟨(n % 65536).toNat, by omega⟩
    have f1 : n.tmod 65536 = m := by rw [Int.tmod_eq_emod_of_nonneg (by omega)]; exact em
    by_cases hr : 0 ≤ a ∧ a ≤ 1048576 ∧ 1 ≤ m
    · obtain ⟨r1, r2, r3⟩ := hr
      obtain ⟨A, rfl⟩ := Int.eq_ofNat_of_zero_le r1
      have hm : m ≤ 65536 := by omega
      clear em ha0 ha1
      have H22 := Lib.hid (fun (W : World) => parts_yes A m (by omega) (by omega) (by omega) W)
      have H24 := Lib.hid (fun (W : World) => rparts_yes A m (by omega) (by omega) (by omega) W)
      have hql := wordsL_length A (A + m)
      obtain ⟨N, eN⟩ : ∃ N, wordsN A (A + m) = N := ⟨_, rfl⟩
      have hN : N ≤ 2000 ∧ 1 ≤ N := by rw [← eN]; unfold wordsN; split <;> omega
      have hend := posN_end A m
      have hcnt := fun j (h : j < N) => part_count (a := A) (e := A + m) (j := j) (by rw [eN]; exact h)
      have hpos := fun j (h : j < N) => (posN_word (a := A) (e := A + m) (j := j) (by rw [eN]; exact h))
      have hat := fun j (h : j < N) => wordsL_at (a := A) (e := A + m) (j := j) (by rw [eN]; exact h)
      have hlt64 := fun j => maskN_lt A (A + m) (A / 64 + j)
      rw [eN] at hend hql H22 H24
      obtain ⟨Q, eQ⟩ : ∃ Q, wordsL A (A + m) = Q := ⟨_, rfl⟩
      rw [eQ] at H22 H24 hql
      simp only [eQ] at hat
      have Hend := Lib.hid hend
      have Hcnt := Lib.hid hcnt
      have Hpos := Lib.hid hpos
      have Hat := Lib.hid hat
      have Hlt64 := Lib.hid hlt64
      have h0 : posN A (A + m) 0 = A := rfl
      have H0 := Lib.hid h0
      have hn1' : ¬ ((N : Int) = 0) := by omega
      have hn1'' : ((N : Int) == 0) = false := by simpa using hn1'
      have hsame := Lib.hid (fun (u v : Value) (W : World) (hu : CellsAt W u N (Q.flatMap partV)) (hv : CellsAt W v N (Q.flatMap partV)) => sameParts_any Q (by omega) u v W (by rw [hql]; exact hu) (by rw [hql]; exact hv))
      clear hend hcnt hpos hat hlt64 h0 eN eQ
      go_enter Tryd.func8, Tryd.ntmps8
      go_wp2_with fail
      refine (H22.out _).mono ?_
      rintro e w1 ⟨⟨u, rfl, hu⟩, hb1⟩
      have Hu := Lib.hid (cells_of_owns hu)
      have Hb1 := Lib.hid hb1
      obtain ⟨ud, ucap, rfl⟩ := slice_of_owns hu
      clear hb1 hu
      go_wp2_with fail
      refine (H24.out _).mono ?_
      rintro e w2 ⟨⟨v, rfl, hv⟩, hb2⟩
      have hu2 := Lib.hid (Hu.out.kept hb2)
      have Hb2 := Lib.hid (Hb1.out.trans (hb2.mono Hb1.out.size))
      have hcv := Lib.hid (cells_of_owns hv)
      clear hb2 hv
      go_wp2_with fail
      refine (hsame.out _ _ _ hu2.out hcv.out).mono ?_
      rintro e w3 ⟨rfl, hb3⟩
      have Hu3 := Lib.hid (hu2.out.kept hb3)
      have Hb3 := Lib.hid (Hb2.out.trans (hb3.mono Hb2.out.size))
      clear hb3 hu2 hcv Hu
      go_wp2_with fail
      go_loopw [6, 7] (fun s i wr => ∃ j c : Nat, j ≤ N ∧ s = .int .i64 c ∧ i = .int .i64 j ∧ posN A (A + m) j = A + c ∧ c ≤ m ∧ Below w3.heap.size w3 wr) (fun _ i _ => N - (intOf i).toNat)
      case atStart => exact ⟨0, 0, Nat.zero_le _, rfl, rfl, H0.out, Nat.zero_le _, Below.refl _ _⟩
      case round =>
        obtain ⟨j, c, hj, rfl, rfl, hjc, hcm, hbw⟩ := hrel
        by_cases hjl : j < N
        · obtain ⟨ud', cap', hv, h0 | ⟨g, rfl, hg, hc⟩⟩ := Hu3.out.kept hbw
          · omega
          obtain ⟨rfl, rfl⟩ : ud = some ⟨g, 0, none⟩ ∧ ucap = cap' := by injection hv with h1 h2 h3; exact ⟨h1, h3⟩
          obtain ⟨p0, p1⟩ := parts_get2 (Hat.out j hjl)
          have c0 := hc _ _ p0
          have c1 := hc _ _ p1
          have hcn := Hcnt.out j hjl
          have hps := Hpos.out j hjl
          have hml := Hlt64.out j
          obtain ⟨k, ek⟩ : ∃ k, A / 64 + j = k := ⟨_, rfl⟩
          obtain ⟨x, ex⟩ : ∃ x, maskN A (A + m) k = x := ⟨_, rfl⟩
          rw [ek] at hcn hml
          rw [ex] at hcn hml
          simp only [ek, ex] at c0 c1
          obtain ⟨d, ed⟩ : ∃ d, (places x).length = d := ⟨_, rfl⟩
          have hcc := Lib.hid (fun W => rcount_any x hml W)
          rw [ed] at hcc hcn
          have hnx : posN A (A + m) (j + 1) = A + (c + d) := by omega
          have hle : posN A (A + m) (j + 1) ≤ A + m := by rw [hps.2.1]; exact Nat.min_le_left _ _
          have hcd : c + d ≤ m := by omega
          have f2 : IntKind.i64.wrap ((c : Int) + d) = (c + d : Nat) := by rw [IntKind.wrap_i64]; omega
          have Hnx := Lib.hid hnx
          have Hbw := Lib.hid hbw
          have hjI : (j : Int) < N := by omega
          clear hcn hps hnx hle p0 p1 hv hbw ex ed hml hjc
          rcases Nat.eq_zero_or_pos j with hz | hz
          · subst hz
            clear ek
            go_wp2_with fail
            go_quiet (fail)
            go_wp2_with fail
            refine (hcc.out _).mono ?_
            rintro e w4 ⟨rfl, hb4⟩
            have Hb4 := Lib.hid hb4
            clear hb4
            go_wp2
            go_roundw
            case rel => exact ⟨1, c + d, by omega, rfl, by go_num, Hnx.out, hcd, (have h := Hbw.out; have h4 := Hb4.out; ⟨h4.os.trans h.os, h4.tape.trans h.tape, h4.output.trans h.output, Nat.le_trans h.size h4.size, fun k hk => (h4.block k (Nat.lt_of_lt_of_le hk h.size)).trans (h.block k hk)⟩)⟩
            case measure => simp [intOf]; omega
          · obtain ⟨q, rfl⟩ : ∃ q, j = q + 1 := ⟨j - 1, by omega⟩
            obtain ⟨p2, _⟩ := parts_get2 (Hat.out q (by omega))
            have c2 := hc _ _ p2
            obtain ⟨l, el⟩ : ∃ l, A / 64 + q = l := ⟨_, rfl⟩
            simp only [el] at c2
            obtain rfl : k = l + 1 := by omega
            have hl : l ≤ 1000000 := by omega
            clear ek el p2 hz
            go_wp2_with fail
            go_quiet (fail)
            go_wp2_with fail
            refine (hcc.out _).mono ?_
            rintro e w4 ⟨rfl, hb4⟩
            have Hb4 := Lib.hid hb4
            clear hb4
            go_wp2
            go_roundw
            case rel => exact ⟨q + 1 + 1, c + d, by omega, rfl, by go_num, Hnx.out, hcd, (have h := Hbw.out; have h4 := Hb4.out; ⟨h4.os.trans h.os, h4.tape.trans h.tape, h4.output.trans h.output, Nat.le_trans h.size h4.size, fun k hk => (h4.block k (Nat.lt_of_lt_of_le hk h.size)).trans (h.block k hk)⟩)⟩
            case measure => simp [intOf]; omega
        · obtain rfl : j = N := by omega
          have hcm2 : c = m := by have := Hend.out; omega
          have hcm3 : (c : Int) = m := by omega
          have Hb4 := Lib.hid (Hb3.out.trans (hbw.mono Hb3.out.size))
          clear hbw hjc hcm2
          go_wp2_with fail
          refine (aw.out _ Hb4.out).mono ?_
          rintro e w5 ⟨rfl, hb5⟩
          have Hb5 := Lib.hid (Hb4.out.trans (hb5.mono Hb4.out.size))
          clear hb5
          go_wp2
          go_ret
          exact ⟨rfl, Hb5.out⟩
    · have H22 := Lib.hid (parts_no a m (by omega))
      have H24 := Lib.hid (rparts_no a m (by omega))
      clear hr em ha0 ha1
      go_enter Tryd.func8, Tryd.ntmps8
      go_wp2_with fail
      refine (H22.out _).mono ?_
      rintro e w1 ⟨rfl, hb1⟩
      have Hb1 := Lib.hid hb1
      clear hb1
      go_wp2_with fail
      refine (H24.out _).mono ?_
      rintro e w2 ⟨rfl, rfl⟩
      go_wp2_with fail
      refine (sameParts_any [] (by simp) _ _ _ ⟨none, 0, rfl, .inl rfl⟩ ⟨none, 0, rfl, .inl rfl⟩).mono ?_
      rintro e w3 ⟨rfl, hb3⟩
      have Hb3 := Lib.hid (Hb1.out.trans (hb3.mono Hb1.out.size))
      clear hb3
      go_wp2_with fail
      go_loopw [6, 7] (fun s i wr => s = .int .i64 0 ∧ i = .int .i64 0 ∧ wr = w3) (fun _ _ _ => 0)
      case atStart => exact ⟨rfl, rfl, rfl⟩
      case round =>
        obtain ⟨rfl, rfl, ewr⟩ := hrel
        have ewr' := ewr.symm
        subst ewr'
        clear ewr
        go_wp2_with fail
        refine (aw.out _ Hb3.out).mono ?_
        rintro e w4 ⟨rfl, hb4⟩
        have Hb4 := Lib.hid (Hb3.out.trans (hb4.mono Hb3.out.size))
        clear hb4
        go_wp2
        go_ret
        exact ⟨rfl, Hb4.out⟩
  · by_cases hr : 0 ≤ a ∧ a ≤ 1048576 ∧ 1 ≤ n ∧ n ≤ 65536
    · obtain ⟨r1, r2, r3, r4⟩ := hr
      obtain ⟨A, rfl⟩ := Int.eq_ofNat_of_zero_le r1
      obtain ⟨m, rfl⟩ := Int.eq_ofNat_of_zero_le (show 0 ≤ n by omega)
      have c1 : ¬ (65536 < (m : Int)) := by omega
      have hm : m ≤ 65536 := by omega
      clear hc ha0 ha1 hn0 hn1
      have H22 := Lib.hid (fun (W : World) => parts_yes A m (by omega) (by omega) (by omega) W)
      have H24 := Lib.hid (fun (W : World) => rparts_yes A m (by omega) (by omega) (by omega) W)
      have hql := wordsL_length A (A + m)
      obtain ⟨N, eN⟩ : ∃ N, wordsN A (A + m) = N := ⟨_, rfl⟩
      have hN : N ≤ 2000 ∧ 1 ≤ N := by rw [← eN]; unfold wordsN; split <;> omega
      have hend := posN_end A m
      have hcnt := fun j (h : j < N) => part_count (a := A) (e := A + m) (j := j) (by rw [eN]; exact h)
      have hpos := fun j (h : j < N) => (posN_word (a := A) (e := A + m) (j := j) (by rw [eN]; exact h))
      have hat := fun j (h : j < N) => wordsL_at (a := A) (e := A + m) (j := j) (by rw [eN]; exact h)
      have hlt64 := fun j => maskN_lt A (A + m) (A / 64 + j)
      rw [eN] at hend hql H22 H24
      obtain ⟨Q, eQ⟩ : ∃ Q, wordsL A (A + m) = Q := ⟨_, rfl⟩
      rw [eQ] at H22 H24 hql
      simp only [eQ] at hat
      have Hend := Lib.hid hend
      have Hcnt := Lib.hid hcnt
      have Hpos := Lib.hid hpos
      have Hat := Lib.hid hat
      have Hlt64 := Lib.hid hlt64
      have h0 : posN A (A + m) 0 = A := rfl
      have H0 := Lib.hid h0
      have hn1' : ¬ ((N : Int) = 0) := by omega
      have hn1'' : ((N : Int) == 0) = false := by simpa using hn1'
      have hsame := Lib.hid (fun (u v : Value) (W : World) (hu : CellsAt W u N (Q.flatMap partV)) (hv : CellsAt W v N (Q.flatMap partV)) => sameParts_any Q (by omega) u v W (by rw [hql]; exact hu) (by rw [hql]; exact hv))
      clear hend hcnt hpos hat hlt64 h0 eN eQ
      go_enter Tryd.func8, Tryd.ntmps8
      go_wp2_with fail
      refine (H22.out _).mono ?_
      rintro e w1 ⟨⟨u, rfl, hu⟩, hb1⟩
      have Hu := Lib.hid (cells_of_owns hu)
      have Hb1 := Lib.hid hb1
      obtain ⟨ud, ucap, rfl⟩ := slice_of_owns hu
      clear hb1 hu
      go_wp2_with fail
      refine (H24.out _).mono ?_
      rintro e w2 ⟨⟨v, rfl, hv⟩, hb2⟩
      have hu2 := Lib.hid (Hu.out.kept hb2)
      have Hb2 := Lib.hid (Hb1.out.trans (hb2.mono Hb1.out.size))
      have hcv := Lib.hid (cells_of_owns hv)
      clear hb2 hv
      go_wp2_with fail
      refine (hsame.out _ _ _ hu2.out hcv.out).mono ?_
      rintro e w3 ⟨rfl, hb3⟩
      have Hu3 := Lib.hid (hu2.out.kept hb3)
      have Hb3 := Lib.hid (Hb2.out.trans (hb3.mono Hb2.out.size))
      clear hb3 hu2 hcv Hu
      go_wp2_with fail
      go_loopw [6, 7] (fun s i wr => ∃ j c : Nat, j ≤ N ∧ s = .int .i64 c ∧ i = .int .i64 j ∧ posN A (A + m) j = A + c ∧ c ≤ m ∧ Below w3.heap.size w3 wr) (fun _ i _ => N - (intOf i).toNat)
      case atStart => exact ⟨0, 0, Nat.zero_le _, rfl, rfl, H0.out, Nat.zero_le _, Below.refl _ _⟩
      case round =>
        obtain ⟨j, c, hj, rfl, rfl, hjc, hcm, hbw⟩ := hrel
        by_cases hjl : j < N
        · obtain ⟨ud', cap', hv, h0 | ⟨g, rfl, hg, hc⟩⟩ := Hu3.out.kept hbw
          · omega
          obtain ⟨rfl, rfl⟩ : ud = some ⟨g, 0, none⟩ ∧ ucap = cap' := by injection hv with h1 h2 h3; exact ⟨h1, h3⟩
          obtain ⟨p0, p1⟩ := parts_get2 (Hat.out j hjl)
          have c0 := hc _ _ p0
          have c1 := hc _ _ p1
          have hcn := Hcnt.out j hjl
          have hps := Hpos.out j hjl
          have hml := Hlt64.out j
          obtain ⟨k, ek⟩ : ∃ k, A / 64 + j = k := ⟨_, rfl⟩
          obtain ⟨x, ex⟩ : ∃ x, maskN A (A + m) k = x := ⟨_, rfl⟩
          rw [ek] at hcn hml
          rw [ex] at hcn hml
          simp only [ek, ex] at c0 c1
          obtain ⟨d, ed⟩ : ∃ d, (places x).length = d := ⟨_, rfl⟩
          have hcc := Lib.hid (fun W => rcount_any x hml W)
          rw [ed] at hcc hcn
          have hnx : posN A (A + m) (j + 1) = A + (c + d) := by omega
          have hle : posN A (A + m) (j + 1) ≤ A + m := by rw [hps.2.1]; exact Nat.min_le_left _ _
          have hcd : c + d ≤ m := by omega
          have f2 : IntKind.i64.wrap ((c : Int) + d) = (c + d : Nat) := by rw [IntKind.wrap_i64]; omega
          have Hnx := Lib.hid hnx
          have Hbw := Lib.hid hbw
          have hjI : (j : Int) < N := by omega
          clear hcn hps hnx hle p0 p1 hv hbw ex ed hml hjc
          rcases Nat.eq_zero_or_pos j with hz | hz
          · subst hz
            clear ek
            go_wp2_with fail
            go_quiet (fail)
            go_wp2_with fail
            refine (hcc.out _).mono ?_
            rintro e w4 ⟨rfl, hb4⟩
            have Hb4 := Lib.hid hb4
            clear hb4
            go_wp2
            go_roundw
            case rel => exact ⟨1, c + d, by omega, rfl, by go_num, Hnx.out, hcd, (have h := Hbw.out; have h4 := Hb4.out; ⟨h4.os.trans h.os, h4.tape.trans h.tape, h4.output.trans h.output, Nat.le_trans h.size h4.size, fun k hk => (h4.block k (Nat.lt_of_lt_of_le hk h.size)).trans (h.block k hk)⟩)⟩
            case measure => simp [intOf]; omega
          · obtain ⟨q, rfl⟩ : ∃ q, j = q + 1 := ⟨j - 1, by omega⟩
            obtain ⟨p2, _⟩ := parts_get2 (Hat.out q (by omega))
            have c2 := hc _ _ p2
            obtain ⟨l, el⟩ : ∃ l, A / 64 + q = l := ⟨_, rfl⟩
            simp only [el] at c2
            obtain rfl : k = l + 1 := by omega
            have hl : l ≤ 1000000 := by omega
            clear ek el p2 hz
            go_wp2_with fail
            go_quiet (fail)
            go_wp2_with fail
            refine (hcc.out _).mono ?_
            rintro e w4 ⟨rfl, hb4⟩
            have Hb4 := Lib.hid hb4
            clear hb4
            go_wp2
            go_roundw
            case rel => exact ⟨q + 1 + 1, c + d, by omega, rfl, by go_num, Hnx.out, hcd, (have h := Hbw.out; have h4 := Hb4.out; ⟨h4.os.trans h.os, h4.tape.trans h.tape, h4.output.trans h.output, Nat.le_trans h.size h4.size, fun k hk => (h4.block k (Nat.lt_of_lt_of_le hk h.size)).trans (h.block k hk)⟩)⟩
            case measure => simp [intOf]; omega
        · obtain rfl : j = N := by omega
          have hcm2 : c = m := by have := Hend.out; omega
          have hcm3 : (c : Int) = m := by omega
          have Hb4 := Lib.hid (Hb3.out.trans (hbw.mono Hb3.out.size))
          clear hbw hjc hcm2
          go_wp2_with fail
          refine (aw.out _ Hb4.out).mono ?_
          rintro e w5 ⟨rfl, hb5⟩
          have Hb5 := Lib.hid (Hb4.out.trans (hb5.mono Hb4.out.size))
          clear hb5
          go_wp2
          go_ret
          exact ⟨rfl, Hb5.out⟩
    · have H22 := Lib.hid (parts_no a n (by omega))
      have H24 := Lib.hid (rparts_no a n (by omega))
      by_cases c1 : 65536 < n
      · have c2 : ¬ (n ≤ 1048576) := by omega
        clear hr ha0 ha1 hn0 hn1 hc
        go_enter Tryd.func8, Tryd.ntmps8
        go_wp2_with fail
        refine (H22.out _).mono ?_
        rintro e w1 ⟨rfl, hb1⟩
        have Hb1 := Lib.hid hb1
        clear hb1
        go_wp2_with fail
        refine (H24.out _).mono ?_
        rintro e w2 ⟨rfl, rfl⟩
        go_wp2_with fail
        refine (sameParts_any [] (by simp) _ _ _ ⟨none, 0, rfl, .inl rfl⟩ ⟨none, 0, rfl, .inl rfl⟩).mono ?_
        rintro e w3 ⟨rfl, hb3⟩
        have Hb3 := Lib.hid (Hb1.out.trans (hb3.mono Hb1.out.size))
        clear hb3
        go_wp2_with fail
        go_loopw [6, 7] (fun s i wr => s = .int .i64 0 ∧ i = .int .i64 0 ∧ wr = w3) (fun _ _ _ => 0)
        case atStart => exact ⟨rfl, rfl, rfl⟩
        case round =>
          obtain ⟨rfl, rfl, ewr⟩ := hrel
          have ewr' := ewr.symm
          subst ewr'
          clear ewr
          go_wp2_with fail
          refine (aw.out _ Hb3.out).mono ?_
          rintro e w4 ⟨rfl, hb4⟩
          have Hb4 := Lib.hid (Hb3.out.trans (hb4.mono Hb3.out.size))
          clear hb4
          go_wp2
          go_ret
          exact ⟨rfl, Hb4.out⟩
      · clear hr ha0 ha1 hn0 hn1 hc
        go_enter Tryd.func8, Tryd.ntmps8
        go_wp2_with fail
        refine (H22.out _).mono ?_
        rintro e w1 ⟨rfl, hb1⟩
        have Hb1 := Lib.hid hb1
        clear hb1
        go_wp2_with fail
        refine (H24.out _).mono ?_
        rintro e w2 ⟨rfl, rfl⟩
        go_wp2_with fail
        refine (sameParts_any [] (by simp) _ _ _ ⟨none, 0, rfl, .inl rfl⟩ ⟨none, 0, rfl, .inl rfl⟩).mono ?_
        rintro e w3 ⟨rfl, hb3⟩
        have Hb3 := Lib.hid (Hb1.out.trans (hb3.mono Hb1.out.size))
        clear hb3
        go_wp2_with fail
        go_loopw [6, 7] (fun s i wr => s = .int .i64 0 ∧ i = .int .i64 0 ∧ wr = w3) (fun _ _ _ => 0)
        case atStart => exact ⟨rfl, rfl, rfl⟩
        case round =>
          obtain ⟨rfl, rfl, ewr⟩ := hrel
          have ewr' := ewr.symm
          subst ewr'
          clear ewr
          go_wp2_with fail
          refine (aw.out _ Hb3.out).mono ?_
          rintro e w4 ⟨rfl, hb4⟩
          have Hb4 := Lib.hid (Hb3.out.trans (hb4.mono Hb3.out.size))
          clear hb4
          go_wp2
          go_ret
          exact ⟨rfl, Hb4.out⟩
end Go.Proofs.YtjgadfeplaiclaaDoor
