/-
  The contract of bitmap.Count.
-/
import Derived.Test.YtjgadfeplaiclaaDoorCountPlain
import Derived.Test.YtjgadfeplaiclaaDoorNext
namespace Go.Proofs.YtjgadfeplaiclaaDoor
open Go Go.RowKit Go.Shelf
attribute [local go_sem] Oper.semAt_some

set_option maxHeartbeats 1600000 in
theorem countAll_any (L : List Nat) (hL : Words64 L) (hlen : L.length ≤ 1024) (v : Value) (n : Int) (hn0 : -9223372036854775808 ≤ n) (hn1 : n ≤ 9223372036854775807) (w : World) (h : WordsAt w v L) :
    Calls Tryd.prog 33 #[v, .int .i64 n] w fun e w' => e = .returned (.int .i64 (cntL L (heldN L n))) ∧ Below w.heap.size w w' := by
  have HH := Lib.hid h
  have HL := Lib.hid hL
  have Hheld := Lib.hid (fun v (W : World) (h : WordsAt W v L) => held_any L hlen v n hn0 hn1 W h)
  obtain ⟨ad, cap, rfl, _⟩ := h
  obtain ⟨E, eE⟩ : ∃ E, heldN L n = E := ⟨_, rfl⟩
  have hE : E ≤ 64 * L.length := by rw [← eE]; unfold heldN; omega
  rw [eE] at Hheld ⊢
  have hmix : Tryd.prog.follows .mixedOrders = true := by kernel_rfl
  clear hL eE
  refine (callsIn_wide (n := 9)).1 ?_
  refine callsIn_of_wp_marks Tryd.func33 rfl trivial ?_ rfl
  simp only [Tryd.ntmps33, List.size_toArray, List.length_cons, List.length_nil, Nat.reduceAdd, Nat.reduceSub, Array.replicate_succ, Array.replicate_zero, List.push_toArray, List.append_toArray, List.nil_append, List.cons_append]
  gi_wp2_with fail
  refine ⟨trivial, ?_⟩
  have hbA : Below w.heap.size w ((w.alloc (.cells #[.slice ad L.length cap] 44)).alloc (.cells #[.int .i64 0] 3)) := ((Below.refl _ w).alloc (Nat.le_refl _) _).alloc (by simp) _
  refine (callsIn_wide.2 (Hheld.out _ _ (HH.out.kept hbA))).mono ?_
  rintro e w1 ⟨rfl, rfl⟩
  gi_wp2_with fail
  refine ⟨trivial, ?_⟩
  refine (callsIn_wide.2 (words_any _ _ _)).mono ?_
  rintro e w2 ⟨rfl, rfl⟩
  gi_wp2
  obtain ⟨W0, hW0⟩ : ∃ W0, ((((w.alloc (.cells #[.slice ad L.length cap] 44)).alloc (.cells #[.int .i64 0] 3)).alloc (.cells #[.int .i64 0] 3)).alloc (.cells #[.int .i64 E] 3)) = W0 := ⟨_, rfl⟩
  have hs : W0.heap.size = w.heap.size + 4 := by rw [← hW0]; simp
  have c0 : Boxed W0 w.heap.size 44 (.slice ad L.length cap) := by rw [← hW0]; exact (((Boxed.new w 44 _).alloc _).alloc _).alloc _
  have c1 : Boxed W0 (w.heap.size + 1) 3 (.int .i64 0) := by rw [← hW0]; have := (((Boxed.new (w.alloc (.cells #[.slice ad L.length cap] 44)) 3 (.int .i64 0)).alloc (.cells #[.int .i64 0] 3)).alloc (.cells #[.int .i64 E] 3)); simpa using this
  have c2 : Boxed W0 (w.heap.size + 1 + 1) 3 (.int .i64 0) := by rw [← hW0]; have := ((Boxed.new ((w.alloc (.cells #[.slice ad L.length cap] 44)).alloc (.cells #[.int .i64 0] 3)) 3 (.int .i64 0)).alloc (.cells #[.int .i64 E] 3)); simpa using this
  have c3 : Boxed W0 (w.heap.size + 1 + 1 + 1) 3 (.int .i64 E) := by rw [← hW0]; have := (Boxed.new (((w.alloc (.cells #[.slice ad L.length cap] 44)).alloc (.cells #[.int .i64 0] 3)).alloc (.cells #[.int .i64 0] 3)) 3 (.int .i64 E)); simpa using this
  have hb : Below w.heap.size w W0 := by rw [← hW0]; exact ((((Below.refl _ w).alloc (Nat.le_refl _) _).alloc (by simp) _).alloc (by simp; omega) _).alloc (by simp; omega) _
  rw [hW0]
  refine range_law (gf := 46) (lb := #[.pointer (some ⟨w.heap.size + 1 + 1, 0, none⟩), .pointer (some ⟨w.heap.size + 1 + 1 + 1, 0, none⟩)]) rfl (enters_of Tryd.func46 (by kernel_rfl) rfl) (by omega) (fun b hm => by simp at hm; omega)
    (words_gives 8 0 E (by omega) W0 (w.heap.size + 1 + 1) (w.heap.size + 1 + 1 + 1) (by omega) c2.cell c2.frozen c3.cell) (fun _ => rfl)
    (fun j W => Boxed W w.heap.size 44 (.slice ad L.length cap) ∧ Boxed W (w.heap.size + 1) 3 (.int .i64 (cntL L (min E (64 * j)))) ∧ Below w.heap.size w W)
    (fun _ _ _ => False)
    (fun k W W' q hs hg hq => ⟨boxed_at hs.1 hg hq (by omega) (by omega), boxed_at hs.2.1 hg hq (by omega) (by omega), below_at hs.2.2 hg hq (by omega) (by omega)⟩)
    (fun c k W W' q hs hg hq => hs)
    ⟨c0, by rw [show cntL L (min E (64 * 0)) = 0 by rw [Nat.mul_zero, Nat.min_zero]; rfl]; exact c1, hb⟩
    (fun q : Nat × Nat => { tmps := #[.slice ad L.length cap, .int .i64 n, .pointer (some ⟨w.heap.size, 0, none⟩), undef, .pointer (some ⟨w.heap.size + 1, 0, none⟩), .int .i64 q.1, .int .u64 q.2, .slice ad L.length cap, .int .i64 n, .int .i64 E, .func (.func 46) #[] #[.pointer (some ⟨w.heap.size + 1 + 1, 0, none⟩), .pointer (some ⟨w.heap.size + 1 + 1 + 1, 0, none⟩)], .int .i64 q.1, .int .u64 q.2, undef, undef, undef, undef, undef, undef, undef, undef, undef, undef], defers := [] }) ?assign ?body ?done ?stop
  case assign =>
    intro l i W K hK
    gi_wp2
    exact hK
  case body =>
    rintro l j q W hi ⟨b0, b1, hB⟩ hsz
    obtain ⟨hj, rfl⟩ := wordsL_get hi
    have hk := word_lt hj hE
    have hkE : 64 * j < E := by have := (posN_lt 0 E j).2 hj; unfold posN at this; split at this <;> omega
    have hcnt := cntL_word L E j hkE
    simp only [Nat.zero_div, Nat.zero_add] at hk ⊢
    have hW := HH.out.kept hB
    obtain ⟨g, cap', hv, hg, hcell⟩ := wordsAt_cell hW hk
    obtain ⟨had, hcap⟩ : ad = some ⟨g, 0, none⟩ ∧ cap = cap' := by injection hv with h1 h2 h3; exact ⟨h1, h3⟩
    subst had
    subst hcap
    have hx : bits .and .u64 (wAt L j : Int) (maskN 0 E j : Int) = ((wAt L j &&& maskN 0 E j : Nat) : Int) := u64_and_nat _ _ (wAt_lt HL.out _) (maskN_lt _ _ _)
    have hxl : wAt L j &&& maskN 0 E j < 18446744073709551616 := Nat.lt_of_le_of_lt Nat.and_le_left (wAt_lt HL.out _)
    have hc1 := cntL_le L (min E (64 * j))
    have hc2 : (places (wAt L j &&& maskN 0 E j)).length ≤ 64 := by rw [places_cnt]; exact cntP_le _ _
    obtain ⟨x, ex⟩ : ∃ x, wAt L j &&& maskN 0 E j = x := ⟨_, rfl⟩
    obtain ⟨y, ey⟩ : ∃ y, wAt L j = y := ⟨_, rfl⟩
    obtain ⟨m, em⟩ : ∃ m, maskN 0 E j = m := ⟨_, rfl⟩
    obtain ⟨c, ec⟩ : ∃ c, cntL L (min E (64 * j)) = c := ⟨_, rfl⟩
    rw [ex] at hx hxl hcnt hc2
    rw [ey] at hcell hx
    rw [em] at hx
    rw [ec] at b1 hcnt hc1
    have Hp := Lib.hid (fun W => count_any x hxl W)
    obtain ⟨p, ep⟩ : ∃ p, (places x).length = p := ⟨_, rfl⟩
    rw [ep] at Hp hc2 hcnt
    have Hcnt := Lib.hid hcnt
    have f1 : IntKind.i64.wrap ((c : Int) + p) = (c + p : Nat) := by rw [IntKind.wrap_i64]; omega
    have d0 := b0.cell; have d1 := b1.cell; have g1 := b1.frozen
    clear hv hi hW ex ey ep ec hcnt
    simp only [em]
    clear em
    gi_wp2
    gi_region_with_o (refine ⟨trivial, ?_⟩; refine (CallsIn.inRound l (callsIn_wide.2 (Hp.out _))).mono ?_; rintro e W2 ⟨rfl, rfl⟩)
    all_goals
      gi_wp2
      refine ⟨(KeepsOthers.setCell _ _ _).trans (KeepsOthers.drew _), ?_, set_other b0 (by omega), ?_, (hB.setCell (p := ⟨w.heap.size + 1, 0, none⟩) (by simp) _).drew⟩
      · exact (KeptB.setCell (a := ⟨w.heap.size + 1, 0, none⟩) (not_mem2 (by show w.heap.size + 1 ≠ w.heap.size + 1 + 1; omega) (by show w.heap.size + 1 ≠ w.heap.size + 1 + 1 + 1; omega)) _).trans (KeptB.drew _)
      · rw [Hcnt.out]; exact b1.set _
  case done =>
    rintro D W hD ⟨b0, b1, hB⟩ hK
    have d1 := b1.cell; have g1 := b1.frozen
    have he : cntL L (min E (64 * (wordsL 0 E).length)) = cntL L E := by
      rw [wordsL_length]
      congr 1
      unfold wordsN
      split <;> omega
    rw [he] at b1 d1
    gi_wp2
    have hK' := (KeepsOthers.setCell W ⟨w.heap.size + 1, 0, none⟩ (.int .i64 (cntL L E))).same D _ hK rfl
    refine ⟨by simp, .inl ⟨_, _, rfl, run_takeDeferred hK', ?_⟩⟩
    have e1 := (put_boxed (D := D) (o := .deferred none) (b1.set (.int .i64 (cntL L E))) (by omega)).cell
    refine ⟨.int .i64 (cntL L E), ?_, rfl, put_below (hB.setCell (p := ⟨w.heap.size + 1, 0, none⟩) (by simp) _) (by omega)⟩
    simp [results, Tryd.results33, go_sem, e1]
  case stop => exact fun _ _ _ _ _ _ h _ => h.elim
end Go.Proofs.YtjgadfeplaiclaaDoor
