/-
  The contracts of slices.Clone and bitmap.Turn.
-/
import Derived.Test.YtjgadfeplaiclaaDoorTurnPlain
namespace Go.Proofs.YtjgadfeplaiclaaDoor
open Go Go.RowKit Go.Shelf
attribute [local go_sem] Oper.semAt_some

theorem eql44 (w : World) (a : Option Addr) (n c : Nat) : (binOp .eql 44 (.slice a n c) (.slice none 0 0)).run Tryd.prog w = .ok (.bool a.isNone) w := Lib.run_eql_slice_nil w 44 22 a n c 0 0 Tryd.underlying44
attribute [local go_sem] eql44

theorem add0 (g j : Nat) : (⟨g, 0, none⟩ : Addr).add j = ⟨g, j, none⟩ := by
  unfold Addr.add
  by_cases h : j = 0
  · subst h; simp
  · simp [h]

set_option maxHeartbeats 800000 in
theorem clone_any (L : List Nat) (hlen : L.length ≤ 1024) (v : Value) (w : World) (h : WordsAt w v L) :
    Calls Tryd.prog 42 #[v] w fun e w' => (∃ u, e = .returned u ∧ w'.ownsRow w.heap.size 22 1 u L.length (L.map wordV)) ∧ Below w.heap.size w w' := by
  obtain ⟨i0, hi, hz0, hz1, hz2⟩ := info_parts info22
  obtain ⟨ad, cap, rfl, hc⟩ := h
  cases ad with
  | none =>
    obtain rfl : L = [] := by
      rcases hc with h | ⟨g, h, _⟩
      · exact h
      · cases h
    go_enter Tryd.func42, Tryd.ntmps42
    go_wp2
    go_ret
    exact ⟨⟨_, rfl, World.ownsRow_nil _ _ _ _⟩, Below.refl _ _⟩
  | some x =>
    have hnews : ∀ j u, (L.map wordV)[j]? = some u → (w.alloc (.cells #[] 22)).cell? (x.add j) = some u := fun j u hu => by
      rcases hc with rfl | ⟨g, hx, hg, hcell⟩
      · simp at hu
      · cases hx
        rw [List.getElem?_map] at hu
        obtain ⟨y, hy, rfl⟩ := Option.map_eq_some_iff.1 hu
        have := hcell j y hy
        rw [add0, (((Below.refl w.heap.size w).alloc (Nat.le_refl _) (.cells #[] 22))).cell (p := ⟨g, j, none⟩) hg]
        exact this
    have hone : ∀ u ∈ L.map wordV, u.oneCell' = true := fun u hu => by
      obtain ⟨y, _, rfl⟩ := List.mem_map.1 hu
      rfl
    obtain ⟨n, hl⟩ : ∃ n, L.length = n := ⟨_, rfl⟩
    rw [hl] at hlen ⊢
    have Hnews := Lib.hid hnews
    have Hone := Lib.hid hone
    clear hnews hone hc
    go_enter Tryd.func42, Tryd.ntmps42
    go_wp2_with (at_builtin; refine wpList_append_own_at _ rfl _ _ 44 rfl w.heap.size 22 i0 (.int .u64 0) 1 8 Tryd.underlying44 hi hz0 hz1 hz2 rfl (by decide) _ 0 [] rfl (own0 w) x _ _ (L.map wordV) rfl (by simp [hl]) Hnews.out Hone.out (by unfold maxLen; omega) (by omega) (by simp) ?_; intro v' w1 hown' hgrow _ hat)
    go_ret
    exact ⟨⟨_, rfl, by simpa [hl] using hown'⟩, ((Below.refl _ w).alloc (Nat.le_refl _) _).grown hgrow (by simp) (fun k e => by have e' : some w.heap.size = some k := e; injection e' with e'; omega)⟩

set_option maxHeartbeats 1600000 in
theorem turn_yes (L : List Nat) (hL : Words64 L) (hlen : L.length ≤ 1024) (v : Value) (a n : Nat) (on : Bool) (hr : a + n ≤ 64 * L.length) (w : World) (h : WordsAt w v L) :
    Calls Tryd.prog 30 #[v, .int .i64 a, .int .i64 n, .bool on] w fun e w' => (∃ u, e = .returned (.tuple #[u, .bool true]) ∧ NewWords w.heap.size w' u (turnL L a (a + n) on)) ∧ Below w.heap.size w w' := by
  have HH := Lib.hid h
  have HL := Lib.hid hL
  obtain ⟨ad, cap, rfl, _⟩ := h
  have f1 : IntKind.i64.wrap (64 * (L.length : Int)) = 64 * L.length := by rw [IntKind.wrap_i64]; omega
  have f2 : IntKind.i64.wrap (64 * (L.length : Int) - a) = 64 * L.length - a := by rw [IntKind.wrap_i64]; omega
  have f3 : IntKind.i64.wrap ((a : Int) + n) = (a + n : Nat) := by rw [IntKind.wrap_i64]; omega
  have g1 : ¬ ((a : Int) < 0) := by omega
  have g2 : ¬ ((n : Int) < 0) := by omega
  have g3 : ¬ (64 * (L.length : Int) < a) := by omega
  have g4 : ¬ (64 * (L.length : Int) - a < n) := by omega
  obtain ⟨E, eE⟩ : ∃ E, a + n = E := ⟨_, rfl⟩
  rw [eE] at hr f3 ⊢
  clear hL eE
  refine (callsIn_wide (n := 9)).1 ?_
  refine callsIn_of_wp_marks Tryd.func30 rfl trivial ?_ rfl
  simp only [Tryd.ntmps30, List.size_toArray, List.length_cons, List.length_nil, Nat.reduceAdd, Nat.reduceSub, Array.replicate_succ, Array.replicate_zero, List.push_toArray, List.append_toArray, List.nil_append, List.cons_append]
  gi_wp2_with fail
  refine ⟨trivial, ?_⟩
  have hbA : Below w.heap.size w ((w.alloc (.cells #[.slice ad L.length cap] 44)).alloc (.cells #[.bool on] 4)) := ((Below.refl _ w).alloc (Nat.le_refl _) _).alloc (by simp) _
  refine (callsIn_wide.2 (clone_any L hlen _ _ (HH.out.kept hbA))).mono ?_
  rintro e w1 ⟨⟨u, rfl, ho⟩, hb1⟩
  obtain ⟨WA, hWA⟩ : ∃ WA, (w.alloc (.cells #[.slice ad L.length cap] 44)).alloc (.cells #[.bool on] 4) = WA := ⟨_, rfl⟩
  have hsA : WA.heap.size = w.heap.size + 2 := by rw [← hWA]; simp
  have a4 : Boxed WA w.heap.size 44 (.slice ad L.length cap) := by rw [← hWA]; exact (Boxed.new w 44 _).alloc _
  have a7 : Boxed WA (w.heap.size + 1) 4 (.bool on) := by rw [← hWA]; have := Boxed.new (w.alloc (.cells #[.slice ad L.length cap] 44)) 4 (.bool on); simpa using this
  rw [hWA] at hb1 ho hbA
  clear hWA
  have hnw := new_of_owns ho
  obtain ⟨ud, ucap, rfl⟩ := slice_of_owns ho
  have b4 : Boxed w1 w.heap.size 44 (.slice ad L.length cap) := (hb1.block _ (by omega)).trans a4
  have b7 : Boxed w1 (w.heap.size + 1) 4 (.bool on) := (hb1.block _ (by omega)).trans a7
  have c4 := b4.cell; have d4 := b4.frozen
  have hs1 := hb1.size
  have hB1 : Below w.heap.size w w1 := hbA.trans (hb1.mono (by omega))
  gi_wp2_with fail
  refine ⟨trivial, ?_⟩
  refine (callsIn_wide.2 (words_any _ _ _)).mono ?_
  rintro e w2 ⟨rfl, rfl⟩
  gi_wp2
  obtain ⟨W0, hW0⟩ : ∃ W0, ((w1.setCell ⟨w.heap.size, 0, none⟩ (.slice ud L.length ucap)).alloc (.cells #[.int .i64 a] 3)).alloc (.cells #[.int .i64 E] 3) = W0 := ⟨_, rfl⟩
  have hs0 : W0.heap.size = w1.heap.size + 2 := by rw [← hW0]; simp
  have e4 : Boxed W0 w.heap.size 44 (.slice ud L.length ucap) := by rw [← hW0]; exact ((b4.set _).alloc _).alloc _
  have e7 : Boxed W0 (w.heap.size + 1) 4 (.bool on) := by rw [← hW0]; exact ((set_other b7 (by omega)).alloc _).alloc _
  have cB : Boxed W0 w1.heap.size 3 (.int .i64 a) := by rw [← hW0]; have := (Boxed.new (w1.setCell ⟨w.heap.size, 0, none⟩ (.slice ud L.length ucap)) 3 (.int .i64 a)).alloc (.cells #[.int .i64 E] 3); simpa using this
  have cC : Boxed W0 (w1.heap.size + 1) 3 (.int .i64 E) := by rw [← hW0]; have := Boxed.new ((w1.setCell ⟨w.heap.size, 0, none⟩ (.slice ud L.length ucap)).alloc (.cells #[.int .i64 a] 3)) 3 (.int .i64 E); simpa using this
  have hB0 : Below w.heap.size w W0 := by rw [← hW0]; exact ((hB1.setCell (p := ⟨w.heap.size, 0, none⟩) (Nat.le_refl _) _).alloc (by simp; omega) _).alloc (by simp; omega) _
  have hn0 : L = [] ∨ ∃ g, ud = some ⟨g, 0, none⟩ ∧ WA.heap.size ≤ g ∧ g < w1.heap.size ∧ RowAt W0 g L.length (turnJ L a E on 0) := by
    obtain ⟨ad', cap', hv, h | ⟨g, hx, hg, hr⟩⟩ := hnw
    · exact .inl h
    · obtain ⟨rfl, rfl⟩ : ud = ad' ∧ ucap = cap' := by injection hv with h1 h2 h3; exact ⟨h1, h3⟩
      refine .inr ⟨g, hx, hg, hr.1, (RowAt.kept hr (by omega) ?_).congr (fun k _ => (turnJ_zero HL.out a E on k).symm)⟩
      rw [← hW0]
      exact ((Below.heap_alloc _ _ g (by simp; have := hr.1; omega)).trans (Below.heap_alloc _ _ g (by simpa using hr.1))).trans (Below.heap_setCell w1 ⟨w.heap.size, 0, none⟩ _ g (show g ≠ w.heap.size by omega))
  rw [hW0]
  clear hW0 hnw ho b4 b7 c4 d4 a4 a7
  refine range_law (gf := 46) (lb := #[.pointer (some ⟨w1.heap.size, 0, none⟩), .pointer (some ⟨w1.heap.size + 1, 0, none⟩)]) rfl (enters_of Tryd.func46 (by kernel_rfl) rfl) (by omega) (fun b hm => by simp at hm; omega)
    (words_gives 8 a E (by omega) W0 w1.heap.size (w1.heap.size + 1) (by omega) cB.cell cB.frozen cC.cell) (fun _ => rfl)
    (fun j W => Boxed W w.heap.size 44 (.slice ud L.length ucap) ∧ Boxed W (w.heap.size + 1) 4 (.bool on) ∧ (L = [] ∨ ∃ g, ud = some ⟨g, 0, none⟩ ∧ WA.heap.size ≤ g ∧ g < w1.heap.size ∧ RowAt W g L.length (turnJ L a E on j)) ∧ Below w.heap.size w W)
    (fun _ _ _ => False)
    (fun k W W' q hs hg hq => by
      obtain ⟨h1, h2, h3, h4⟩ := hs
      refine ⟨boxed_at h1 hg hq (by omega) (by omega), boxed_at h2 hg hq (by omega) (by omega), ?_, below_at h4 hg hq (by omega) (by omega)⟩
      rcases h3 with h | ⟨g, g1, g2, g3, hr⟩
      · exact .inl h
      · exact .inr ⟨g, g1, g2, g3, hr.kept hg.size (hg.block g hr.1 (by simp only [ne_eq, Option.some.injEq]; rcases hq with e | e <;> omega))⟩)
    (fun c k W W' q hs hg hq => hs)
    ⟨e4, e7, hn0, hB0⟩
    (fun q : Nat × Nat => { tmps := #[.slice ad L.length cap, .int .i64 a, .int .i64 n, .bool on, .pointer (some ⟨w.heap.size, 0, none⟩), undef, undef, .pointer (some ⟨w.heap.size + 1, 0, none⟩), .slice none 0 0, .bool false, .int .i64 q.1, .int .u64 q.2, .int .i64 a, .bool false, .bool false, .int .i64 n, .bool false, .bool false, .bool false, .int .i64 a, .slice ad L.length cap, .int .i64 L.length, .int .i64 (64 * L.length), .bool false, .bool false, .bool false, .int .i64 n, .slice ad L.length cap, .int .i64 L.length, .int .i64 (64 * L.length), .int .i64 a, .int .i64 (64 * L.length - a), .bool false, .bool false, .slice ad L.length cap, .slice ud L.length ucap, .int .i64 a, .int .i64 a, .int .i64 n, .int .i64 E, .func (.func 46) #[] #[.pointer (some ⟨w1.heap.size, 0, none⟩), .pointer (some ⟨w1.heap.size + 1, 0, none⟩)], .int .i64 q.1, .int .u64 q.2, undef, undef, undef, undef, undef, undef, undef, undef, undef, undef, undef, undef, undef, undef, undef, undef], defers := [] }) ?assign ?body ?done ?stop
  case assign =>
    intro l i W K hK
    gi_wp2
    exact hK
  case body =>
    rintro l j q W hi ⟨b4, b7, hrow, hB⟩ hsz
    obtain ⟨hj, rfl⟩ := wordsL_get hi
    have hk := word_lt hj hr
    obtain ⟨g, rfl, hg1, hg2, hrw⟩ : ∃ g, ud = some ⟨g, 0, none⟩ ∧ WA.heap.size ≤ g ∧ g < w1.heap.size ∧ RowAt W g L.length (turnJ L a E on j) := by
      rcases hrow with rfl | h
      · simp at hk
      · exact h
    have hc := (hrw.2 _ hk).1
    have hf := (hrw.2 _ hk).2
    rw [turnJ_now] at hc
    have hm := maskN_lt a E (a / 64 + j)
    have hx := wAt_lt HL.out (a / 64 + j)
    have x1 : bits .andNot .u64 (wAt L (a / 64 + j) : Int) (maskN a E (a / 64 + j) : Int) = (turnW L a E false (a / 64 + j) : Int) := u64_andNot_nat _ _ hx hm
    have x2 : bits .or .u64 (turnW L a E false (a / 64 + j) : Int) (maskN a E (a / 64 + j) : Int) = (turnW L a E true (a / 64 + j) : Int) := u64_or_nat _ _ (turnW_lt HL.out a E false _) hm
    have hs1' := hrw.set hk (turnW L a E false (a / 64 + j))
    have hnx := turnJ_next L a E on j
    have d4 := b4.cell
    have d7 := b7.cell
    obtain ⟨k, ek⟩ : ∃ k, a / 64 + j = k := ⟨_, rfl⟩
    obtain ⟨y, ey⟩ : ∃ y, turnW L a E false k = y := ⟨_, rfl⟩
    obtain ⟨z, ez⟩ : ∃ z, turnW L a E true k = z := ⟨_, rfl⟩
    obtain ⟨m, em⟩ : ∃ m, maskN a E k = m := ⟨_, rfl⟩
    obtain ⟨x, ex⟩ : ∃ x, wAt L k = x := ⟨_, rfl⟩
    rw [ek] at hk hc hf x1 x2 hs1' hnx
    rw [ey] at x1 x2 hs1'
    rw [ez] at x2
    rw [em] at x1 x2
    rw [ex] at hc x1
    simp only [ek, em]
    have b4' : Boxed (W.setCell ⟨g, k, none⟩ (.int .u64 y)) w.heap.size 44 (.slice (some ⟨g, 0, none⟩) L.length ucap) := (Below.heap_setCell W ⟨g, k, none⟩ _ w.heap.size (show w.heap.size ≠ g by omega)).trans b4
    have b7' : Boxed (W.setCell ⟨g, k, none⟩ (.int .u64 y)) (w.heap.size + 1) 4 (.bool on) := (Below.heap_setCell W ⟨g, k, none⟩ _ (w.heap.size + 1) (show w.heap.size + 1 ≠ g by omega)).trans b7
    have d4' := b4'.cell
    have d7' := b7'.cell
    have hc' : (W.setCell ⟨g, k, none⟩ (.int .u64 y)).cell? ⟨g, k, none⟩ = some (.int .u64 y) := by have := (hs1'.2 k hk).1; simpa using this
    have hf' : (W.setCell ⟨g, k, none⟩ (.int .u64 y)).frozen? ⟨g, k, none⟩ = false := (hs1'.2 k hk).2
    have hB' : Below w.heap.size w (W.setCell ⟨g, k, none⟩ (.int .u64 y)) := hB.setCell (p := ⟨g, k, none⟩) (show w.heap.size ≤ g by omega) _
    have HB' := Lib.hid hB'
    have Hs1 := Lib.hid hs1'
    have Hnx := Lib.hid hnx
    have Ey := Lib.hid ey
    have Ez := Lib.hid ez
    have B4 := Lib.hid b4'
    have B7 := Lib.hid b7'
    clear hi hrw hB hB' hs1' hnx ek ey ez em ex b4' b7' hm hx hrow
    have hkb : ∀ b, b = w1.heap.size ∨ b = w1.heap.size + 1 → b ≠ g := fun b hb => by omega
    cases on with
    | false =>
      gi_wp2
      refine ⟨KeepsOthers.setCell _ _ _, KeptB.setCell (a := ⟨g, k, none⟩) (fun hm => hkb g (by simpa using hm) rfl) _, B4.out, B7.out, .inr ⟨g, rfl, hg1, hg2, Hs1.out.congr (fun i _ => by rw [← Hnx.out i, Ey.out])⟩, HB'.out⟩
    | true =>
      gi_wp2
      refine ⟨(KeepsOthers.setCell _ _ _).trans (KeepsOthers.setCell _ _ _), (KeptB.setCell (a := ⟨g, k, none⟩) (fun hm => hkb g (by simpa using hm) rfl) _).trans (KeptB.setCell (a := ⟨g, k, none⟩) (fun hm => hkb g (by simpa using hm) rfl) _), (Below.heap_setCell _ ⟨g, k, none⟩ _ w.heap.size (show w.heap.size ≠ g by omega)).trans B4.out, (Below.heap_setCell _ ⟨g, k, none⟩ _ (w.heap.size + 1) (show w.heap.size + 1 ≠ g by omega)).trans B7.out, .inr ⟨g, rfl, hg1, hg2, (Hs1.out.set hk z).congr (fun i _ => ?_)⟩, HB'.out.setCell (p := ⟨g, k, none⟩) (show w.heap.size ≤ g by omega) _⟩
      rw [← Hnx.out i, Ez.out]
      by_cases e : i = k
      · rw [if_pos e, if_pos e]
      · rw [if_neg e, if_neg e, if_neg e]
  case done =>
    rintro D W hD ⟨b4, b7, hrow, hB⟩ hK
    have d4 := b4.cell
    have Hrow := Lib.hid hrow
    clear hrow
    gi_wp2
    refine ⟨by simp, .inl ⟨_, _, rfl, run_takeDeferred hK, ?_⟩⟩
    refine ⟨.tuple #[.slice ud L.length ucap, .bool true], by simp [results, Tryd.results30, go_sem], ⟨_, rfl, ud, ucap, by rw [turnL_length], ?_⟩, put_below hB (by omega)⟩
    rcases Hrow.out with rfl | ⟨g, g1, g2, g3, hr⟩
    · exact .inl rfl
    · refine .inr ⟨g, g1, by omega, ?_⟩
      rw [turnL_length]
      refine (hr.kept (by simp) (World.putObj_heap_other (by omega))).congr fun i hi => ?_
      rw [wordsL_length, turnJ_end HL.out, turnL_at hi]
  case stop => exact fun _ _ _ _ _ _ h _ => h.elim

set_option maxHeartbeats 1600000 in
theorem turn_no (L : List Nat) (hlen : L.length ≤ 1024) (v : Value) (a n : Nat) (on : Bool) (ha : a ≤ 1000000) (hn : n ≤ 1000000) (hr : ¬ a + n ≤ 64 * L.length) (w : World) (h : WordsAt w v L) :
    Calls Tryd.prog 30 #[v, .int .i64 a, .int .i64 n, .bool on] w fun e w' => e = .returned (.tuple #[.slice none 0 0, .bool false]) ∧ Below w.heap.size w w' := by
  obtain ⟨ad, cap, rfl, _⟩ := h
  have f1 : IntKind.i64.wrap (64 * (L.length : Int)) = 64 * L.length := by rw [IntKind.wrap_i64]; omega
  have f2 : IntKind.i64.wrap (64 * (L.length : Int) - a) = 64 * L.length - a := by rw [IntKind.wrap_i64]; omega
  have g1 : ¬ ((a : Int) < 0) := by omega
  have g2 : ¬ ((n : Int) < 0) := by omega
  have hbA : Below w.heap.size w ((w.alloc (.cells #[.slice ad L.length cap] 44)).alloc (.cells #[.bool on] 4)) := ((Below.refl _ w).alloc (Nat.le_refl _) _).alloc (by simp) _
  have HbA := Lib.hid hbA
  clear hbA
  by_cases g3 : 64 * (L.length : Int) < a
  · go_enter Tryd.func30, Tryd.ntmps30
    go_wp2
    go_ret2
    exact ⟨rfl, HbA.out⟩
  · have g4 : 64 * (L.length : Int) - a < n := by omega
    go_enter Tryd.func30, Tryd.ntmps30
    go_wp2
    go_ret2
    exact ⟨rfl, HbA.out⟩
end Go.Proofs.YtjgadfeplaiclaaDoor
