/-
  The contract of r1.Parts.
-/
import Derived.Test.YtjgadfeplaiclaaDoorRefPlaces
import Derived.BigRegion
namespace Go.Proofs.YtjgadfeplaiclaaDoor
open Go Go.RowKit Go.Shelf

theorem parts_get2 {qs : List (Nat × Nat)} {m : Nat} {q : Nat × Nat} (h : qs[m]? = some q) : (qs.flatMap partV)[m * 2]? = some (.int .i64 q.1) ∧ (qs.flatMap partV)[m * 2 + 1]? = some (.int .u64 q.2) := by
  obtain ⟨h1, h2⟩ := pair_get (V := partV) (fun _ => rfl) qs m q h
  exact ⟨h1.trans rfl, h2.trans rfl⟩

theorem new_mask {W : World} {b g cap n m k x : Nat} {P : List (Nat × Nat)} (h : W.ownsRow b 42 2 (.slice (some ⟨g, 0, none⟩) n cap) n (P.flatMap partV ++ partV (k, x)))
    (hg : ((P ++ [(k, x)]).flatMap partV)[m * 2]? = some (.int .i64 (k : Nat)) ∧ ((P ++ [(k, x)]).flatMap partV)[m * 2 + 1]? = some (.int .u64 (x : Nat))) : W.cell? ⟨g, m * 2 + 1, none⟩ = some (.int .u64 (x : Nat)) := by
  have he : (P ++ [(k, x)]).flatMap partV = P.flatMap partV ++ partV (k, x) := by simp
  rw [he] at hg
  have hlt := (List.getElem?_eq_some_iff.1 hg.2).1
  rw [World.ownsRow.cellAt h (m * 2 + 1) (by have := h.1; omega)]
  exact hg.2

theorem row_done {W : World} {b g cap n m k : Nat} {P : List (Nat × Nat)} (h : W.ownsRow b 42 2 (.slice (some ⟨g, 0, none⟩) n cap) n (P.flatMap partV ++ partV (k, 0)))
    (hs : ∀ y, ((P ++ [(k, 0)]).flatMap partV).set (m * 2 + 1) (.int .u64 (y : Nat)) = ((P ++ [(k, y)]).flatMap partV)) (y : Nat) : (W.setCell ⟨g, m * 2 + 1, none⟩ (.int .u64 y)).ownsRow b 42 2 (.slice (some ⟨g, 0, none⟩) n cap) n ((P ++ [(k, y)]).flatMap partV) := by
  have he : (P ++ [(k, 0)]).flatMap partV = P.flatMap partV ++ partV (k, 0) := by simp
  rw [← he] at h
  rw [← hs y]
  exact (World.ownsRow.stored h (m * 2 + 1) (.int .u64 y)).1

set_option maxHeartbeats 4000000 in
theorem rparts_yes (a n : Nat) (ha : a ≤ 1048576) (hn0 : 1 ≤ n) (hn1 : n ≤ 1048576) (w : World) :
    Calls Tryd.prog 24 #[.int .i64 a, .int .i64 n] w fun e w' => (∃ v, e = .returned v ∧ w'.ownsRow w.heap.size 42 2 v (wordsN a (a + n)) ((wordsL a (a + n)).flatMap partV)) ∧ Below w.heap.size w w' := by
  obtain ⟨i0, hi, hz0, hz1, hz2⟩ := info_parts info42
  have g0 : ¬ ((a : Int) < 0) := by omega
  have g1 : ¬ ((1048576 : Int) < a) := by omega
  have g2 : ¬ ((n : Int) < 1) := by omega
  have g3 : ¬ ((1048576 : Int) < n) := by omega
  obtain ⟨E, eE⟩ : ∃ E, a + n = E := ⟨_, rfl⟩
  rw [eE]
  have g4 : IntKind.i64.wrap ((a : Int) + n) = E := by rw [IntKind.wrap_i64]; omega
  go_enter Tryd.func24, Tryd.ntmps24
  go_wp2_with fail
  go_loopw [5, 6] (fun v s wr => ∃ i : Nat, a ≤ i ∧ i ≤ E ∧ s = .int .i64 i ∧ wr.ownsRow w.heap.size 42 2 v (wordsN a i) ((wordsL a i).flatMap partV) ∧ Below w.heap.size w wr) (fun _ s _ => E - (intOf s).toNat)
  case atStart =>
    have h0 : wordsN a a = 0 := by unfold wordsN; rw [if_neg (Nat.lt_irrefl _)]
    refine ⟨a, Nat.le_refl _, by omega, rfl, ?_, Below.refl _ _⟩
    rw [show wordsL a a = [] by unfold wordsL; rw [h0]; rfl, h0]
    exact World.ownsRow_nil _ _ _ _
  case round =>
    obtain ⟨i, hai, hiE, rfl, hrow, hbw⟩ := hrel
    have Hbw := Lib.hid hbw
    have hsz := hbw.size
    by_cases hlt : i < E
    · have g5 : (i : Int) < E := by omega
      obtain ⟨k, ek⟩ : ∃ k, i / 64 = k := ⟨_, rfl⟩
      obtain ⟨q, eq⟩ : ∃ q, i % 64 = q := ⟨_, rfl⟩
      have hq : q < 64 := by omega
      have f1 : (i : Int) / 64 = k := by omega
      have f5 : (i : Int).tmod 64 = q := by rw [Int.tmod_eq_emod_of_nonneg (by omega)]; omega
      have f6 : (i : Int).tdiv 64 = k := by rw [Int.tdiv_eq_ediv_of_nonneg (by omega)]; omega
      have hpw : (2 : Nat) ^ q < 18446744073709551616 := Nat.lt_of_lt_of_le (Nat.pow_lt_pow_right (by omega) hq) (by decide)
      have Hob := Lib.hid (own_later hrow)
      have hN17 : wordsN a i ≤ 65536 := by unfold wordsN; split <;> omega
      obtain ⟨N, eN⟩ : ∃ N, wordsN a i = N := ⟨_, rfl⟩
      have hLl : (wordsL a i).length = N := by rw [wordsL_length]; exact eN
      obtain ⟨y, ey⟩ : ∃ y, (2 : Nat) ^ q = y := ⟨_, rfl⟩
      have hor : bits .or .u64 0 (IntKind.u64.wrap ((2 : Int) ^ q)) = (y : Int) := by
        have := u64_or_pow 0 q (by decide) hq
        rw [← ey]
        simpa using this
      by_cases hnew : wordsN a i = 0 ∨ a / 64 + (wordsN a i - 1) ≠ i / 64
      · have hwn := part_new hai hnew
        have hNn : wordsN a (i + 1) = N + 1 := by rw [← wordsL_length, hwn, List.length_append, hLl]; rfl
        have hlast : N ≠ 0 → (wordsL a i)[N - 1]? = some (a / 64 + (N - 1), maskN a i (a / 64 + (N - 1))) := fun h0 => wordsL_at (by omega)
        obtain ⟨P, eP⟩ : ∃ P, wordsL a i = P := ⟨_, rfl⟩
        rw [eP] at hwn hLl hlast hrow
        rw [eN] at hrow hnew hN17
        rw [ek] at hwn hnew
        rw [eq, ey] at hwn
        have Hwn := Lib.hid hwn
        have HNn := Lib.hid hNn
        have hls : ∀ y, ((P ++ [(k, 0)]).flatMap partV).set (N * 2 + 1) (.int .u64 (y : Nat)) = ((P ++ [(k, y)]).flatMap partV) := fun y => by
          rw [parts_set (P ++ [(k, 0)]) N (k, 0) y (by rw [← hLl]; simp), ← hLl]
          simp
        have Hls := Lib.hid hls
        have hgt := parts_get2 (qs := P ++ [(k, 0)]) (m := N) (q := (k, 0)) (by rw [← hLl]; simp)
        have Hgt := Lib.hid hgt
        obtain ⟨ad, cap, rfl⟩ := slice_of_owns hrow
        clear hwn hNn hls hgt ek eq eN eP ey hpw
        cases N with
        | zero =>
          clear hnew hlast
          go_wp2_with (at_builtin; refine wpList_append_own_at _ rfl _ _ 38 rfl w.heap.size 42 i0 (.agg #[.int .i64 0, .int .u64 0]) 2 16 Tryd.underlying38 hi hz0 hz1 hz2 rfl (by decide) _ _ _ rfl (hrow.alloc _) ⟨wr.heap.size, 0, none⟩ 1 1 (partV (k, 0)) rfl rfl (cell_two_new _ _ _ _) (by simp [Value.oneCell', partV]) (by unfold maxLen; omega) (by omega) (by simp; omega) ?_; intro v' w1 hown' hgrow _ hat; obtain ⟨g', cap', rfl⟩ := ownsRow_succ hown'; have hc1 : w1.cell? ⟨g', 0 * 2 + 1, none⟩ = some (.int .u64 0) := new_mask hown' Hgt.out; have hf1 := World.ownsRow.frozenAt hown' (0 * 2 + 1); have HO := Lib.hid (row_done hown' Hls.out y); have HB := Lib.hid (((Hbw.out.alloc hsz _).grown hgrow (by simp; omega) Hob.out).setCell (p := ⟨g', 0 * 2 + 1, none⟩) (own_later hown' g' rfl) (.int .u64 y)); clear hown' hgrow hat hrow)
          go_region
          all_goals
            go_wp2
            go_roundw
            case rel => exact ⟨i + 1, by omega, by omega, by go_num, by rw [Hwn.out, HNn.out]; exact HO.out, HB.out.drew⟩
            case measure => simp [intOf]; omega
        | succ m =>
          obtain ⟨c0, c1⟩ := parts_get2 (hlast (by omega))
          obtain ⟨l, el⟩ : ∃ l, a / 64 + m = l := ⟨_, rfl⟩
          obtain ⟨g, rfl⟩ : ∃ g, ad = some ⟨g, 0, none⟩ := by
            rcases hrow.2 with ⟨h, h2⟩ | ⟨g, cap', cur, h, _⟩
            · omega
            · injection h with h1; exact ⟨g, h1⟩
          have d0 : wr.cell? ⟨g, m * 2, none⟩ = some (.int .i64 l) := by
            rw [World.ownsRow.cellAt hrow (m * 2) (by omega), ← el]
            exact c0
          have hne : ¬ ((l : Int) = k) := by
            rcases hnew with h | h
            · omega
            · intro e; apply h; omega
          have hm0 : ¬ ((m : Int) < 0) := by omega
          have hne' : ((l : Int) != k) = true := by simpa using hne
          clear hnew hlast c0 c1 el
          go_wp2_with (at_builtin; refine wpList_append_own_at _ rfl _ _ 38 rfl w.heap.size 42 i0 (.agg #[.int .i64 0, .int .u64 0]) 2 16 Tryd.underlying38 hi hz0 hz1 hz2 rfl (by decide) _ _ _ rfl (hrow.alloc _) ⟨wr.heap.size, 0, none⟩ 1 1 (partV (k, 0)) rfl rfl (cell_two_new _ _ _ _) (by simp [Value.oneCell', partV]) (by unfold maxLen; omega) (by omega) (by simp; omega) ?_; intro v' w1 hown' hgrow _ hat; obtain ⟨g', cap', rfl⟩ := ownsRow_succ hown'; have hc1 : w1.cell? ⟨g', (m + 1) * 2 + 1, none⟩ = some (.int .u64 0) := new_mask hown' Hgt.out; have hf1 := World.ownsRow.frozenAt hown' ((m + 1) * 2 + 1); have HO := Lib.hid (row_done hown' Hls.out y); have HB := Lib.hid (((Hbw.out.alloc hsz _).grown hgrow (by simp; omega) Hob.out).setCell (p := ⟨g', (m + 1) * 2 + 1, none⟩) (own_later hown' g' rfl) (.int .u64 y)); clear hown' hgrow hat hrow)
          go_region
          all_goals
            go_wp2
            go_roundw
            case rel => exact ⟨i + 1, by omega, by omega, by go_num, by rw [Hwn.out, HNn.out]; exact HO.out, HB.out.drew⟩
            case measure => simp [intOf]; omega
      · obtain ⟨m, rfl⟩ : ∃ m, N = m + 1 := ⟨N - 1, by omega⟩
        have hkm : a / 64 + m = i / 64 := by omega
        obtain ⟨hN2, hwo⟩ := part_old hai eN hkm
        have hlast : (wordsL a i)[m]? = some (k, maskN a i k) := by rw [wordsL_at (by omega), hkm, ek]
        have hxl := maskN_lt a i k
        obtain ⟨x, ex⟩ : ∃ x, maskN a i k = x := ⟨_, rfl⟩
        rw [ek, ex, eq, ey] at hwo
        rw [ex] at hlast hxl
        rw [eN] at hrow hN17
        obtain ⟨ad, cap, rfl⟩ := slice_of_owns hrow
        obtain ⟨g, rfl⟩ : ∃ g, ad = some ⟨g, 0, none⟩ := by
          rcases hrow.2 with ⟨h, h2⟩ | ⟨g, cap', cur, h, _⟩
          · omega
          · injection h with h1; exact ⟨g, h1⟩
        obtain ⟨c0, c1⟩ := parts_get2 hlast
        have d0 : wr.cell? ⟨g, m * 2, none⟩ = some (.int .i64 k) := by
          rw [World.ownsRow.cellAt hrow (m * 2) (by omega)]
          exact c0
        have d1 : wr.cell? ⟨g, m * 2 + 1, none⟩ = some (.int .u64 x) := by
          rw [World.ownsRow.cellAt hrow (m * 2 + 1) (by omega)]
          exact c1
        have hf1 := World.ownsRow.frozenAt hrow (m * 2 + 1)
        have hor2 := u64_or_pow x q hxl hq
        obtain ⟨z, ez⟩ : ∃ z, x ||| 2 ^ q = z := ⟨_, rfl⟩
        rw [ez] at hor2
        rw [← ey, ez] at hwo
        have HO := Lib.hid (show (wr.setCell ⟨g, m * 2 + 1, none⟩ (.int .u64 z)).ownsRow w.heap.size 42 2 (.slice (some ⟨g, 0, none⟩) (m + 1) cap) (m + 1) ((wordsL a (i + 1)).flatMap partV) from by
          rw [hwo, ← parts_set _ m _ z hlast]
          exact (World.ownsRow.stored hrow (m * 2 + 1) (.int .u64 z)).1)
        have HB := Lib.hid (Hbw.out.setCell (p := ⟨g, m * 2 + 1, none⟩) (own_later hrow g rfl) (.int .u64 z))
        have hm0 : ¬ ((m : Int) < 0) := by omega
        have HN2 := Lib.hid hN2
        clear hnew hlast c0 c1 hwo hrow hN2 hLl eN hkm ek eq ey ex ez hor hpw hbw
        go_wp2
        go_region
        all_goals
          go_wp2
          go_roundw
          case rel => exact ⟨i + 1, by omega, by omega, by go_num, by rw [HN2.out]; exact HO.out, HB.out.drew⟩
          case measure => simp [intOf]; omega
    · obtain rfl : i = E := by omega
      clear hbw
      go_wp2
      go_ret
      exact ⟨⟨_, rfl, hrow⟩, Hbw.out⟩
end Go.Proofs.YtjgadfeplaiclaaDoor
