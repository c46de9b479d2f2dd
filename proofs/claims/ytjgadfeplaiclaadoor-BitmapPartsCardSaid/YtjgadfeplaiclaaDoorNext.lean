/-
  The contract of bitmap.Next.
-/
import Derived.Test.YtjgadfeplaiclaaDoorNextPlain
namespace Go.Proofs.YtjgadfeplaiclaaDoor
open Go Go.RowKit Go.Shelf
attribute [local go_sem] Oper.semAt_some

theorem keeps_below {W W' : World} (hb : Below W.heap.size W W') : KeepsOthers W W' :=
  ⟨hb.size, fun k _ hk _ => (hb.block k (Array.getElem?_eq_some_iff.1 hk).1).trans hk⟩


set_option maxHeartbeats 1600000 in
theorem next_any (L : List Nat) (hL : Words64 L) (hlen : L.length ≤ 1024) (v : Value) (n from_ : Int) (hn0 : -9223372036854775808 ≤ n) (hn1 : n ≤ 9223372036854775807) (A : Nat) (hA : from_ = A ∨ (from_ < 0 ∧ A = 0)) (hA1 : A ≤ 9223372036854775807)
    (r : Int × Bool) (hr : NextV L A (heldN L n) r) (w : World) (h : WordsAt w v L) (hT : TabB w) (hp : 0 < w.heap.size) :
    Calls Tryd.prog 28 #[v, .int .i64 n, .int .i64 from_] w fun e w' => e = .returned (.tuple #[.int .i64 r.1, .bool r.2]) ∧ Below w.heap.size w w' := by
  have Hr := Lib.hid hr
  have HH := h
  obtain ⟨ad, cap, rfl, hc⟩ := h
  have HL := Lib.hid hL
  obtain ⟨E, eE⟩ : ∃ E, heldN L n = E := ⟨_, rfl⟩
  have hE : E ≤ 64 * L.length := by rw [← eE]; unfold heldN; omega
  have Hheld := Lib.hid (fun W (hb : Below w.heap.size w W) => held_any L hlen _ n hn0 hn1 W (HH.kept hb))
  rw [eE] at Hr
  have EE := Lib.hid eE
  clear hr hn0 hn1 hL eE hc
  refine (callsIn_wide (n := 9)).1 ?_
  refine callsIn_of_wp_marks Tryd.func28 rfl trivial ?_ rfl
  simp only [Tryd.ntmps28, List.size_toArray, List.length_cons, List.length_nil, Nat.reduceAdd, Nat.reduceSub, Array.replicate_succ, Array.replicate_zero, List.push_toArray, List.append_toArray, List.nil_append, List.cons_append]
  rcases hA with rfl | ⟨hneg, rfl⟩
  · have hA0 : (0 : Int) ≤ (A : Int) := by omega
    gi_wp2_with fail
    refine ⟨trivial, ?_⟩
    refine (callsIn_wide.2 (Hheld.out _ ((((Below.refl _ w).alloc (Nat.le_refl _) _).alloc (by simp) _).alloc (by simp; omega) _))).mono ?_
    rintro e w1 ⟨rfl, rfl⟩
    gi_wp2_with fail
    refine ⟨trivial, ?_⟩
    rw [EE.out]
    refine (callsIn_wide.2 (words_any _ _ _)).mono ?_
    rintro e w1 ⟨rfl, rfl⟩
    gi_wp2
    obtain ⟨W0, hW0⟩ : ∃ W0, (((((w.alloc (.cells #[.slice ad L.length cap] 44)).alloc (.cells #[.int .i64 0] 3)).alloc (.cells #[.bool false] 4)).alloc (.cells #[(.int .i64 (A : Int))] 3)).alloc (.cells #[.int .i64 E] 3)) = W0 := ⟨_, rfl⟩
    have hs : W0.heap.size = w.heap.size + 5 := by rw [← hW0]; simp
    have c0 : Boxed W0 w.heap.size 44 (.slice ad L.length cap) := by rw [← hW0]; exact ((((Boxed.new w 44 _).alloc _).alloc _).alloc _).alloc _
    have c1 : Boxed W0 (w.heap.size + 1) 3 (.int .i64 0) := by rw [← hW0]; have := ((((Boxed.new (w.alloc (.cells #[.slice ad L.length cap] 44)) 3 (.int .i64 0)).alloc (.cells #[.bool false] 4)).alloc (.cells #[(.int .i64 (A : Int))] 3)).alloc (.cells #[.int .i64 E] 3)); simpa using this
    have c2 : Boxed W0 (w.heap.size + 1 + 1) 4 (.bool false) := by rw [← hW0]; have := (((Boxed.new ((w.alloc (.cells #[.slice ad L.length cap] 44)).alloc (.cells #[.int .i64 0] 3)) 4 (.bool false)).alloc (.cells #[(.int .i64 (A : Int))] 3)).alloc (.cells #[.int .i64 E] 3)); simpa using this
    have c3 : Boxed W0 (w.heap.size + 1 + 1 + 1) 3 ((.int .i64 (A : Int))) := by rw [← hW0]; have := ((Boxed.new (((w.alloc (.cells #[.slice ad L.length cap] 44)).alloc (.cells #[.int .i64 0] 3)).alloc (.cells #[.bool false] 4)) 3 ((.int .i64 (A : Int)))).alloc (.cells #[.int .i64 E] 3)); simpa using this
    have c4 : Boxed W0 (w.heap.size + 1 + 1 + 1 + 1) 3 (.int .i64 E) := by rw [← hW0]; have := (Boxed.new ((((w.alloc (.cells #[.slice ad L.length cap] 44)).alloc (.cells #[.int .i64 0] 3)).alloc (.cells #[.bool false] 4)).alloc (.cells #[(.int .i64 (A : Int))] 3)) 3 (.int .i64 E)); simpa using this
    have hb : Below w.heap.size w W0 := by rw [← hW0]; exact (((((Below.refl _ w).alloc (Nat.le_refl _) _).alloc (by simp) _).alloc (by simp; omega) _).alloc (by simp; omega) _).alloc (by simp; omega) _
    rw [hW0]
    refine range_law (gf := 46) (lb := #[.pointer (some ⟨w.heap.size + 1 + 1 + 1, 0, none⟩), .pointer (some ⟨w.heap.size + 1 + 1 + 1 + 1, 0, none⟩)]) rfl (enters_of Tryd.func46 (by kernel_rfl) rfl) (by omega) (fun b hm => by simp at hm; omega)
      (words_gives 8 (A) E (by omega) W0 (w.heap.size + 1 + 1 + 1) (w.heap.size + 1 + 1 + 1 + 1) (by omega) c3.cell c3.frozen c4.cell) (fun _ => rfl)
      (fun j W => FullTo L (A) E j ∧ Boxed W w.heap.size 44 (.slice ad L.length cap) ∧ Boxed W (w.heap.size + 1) 3 (.int .i64 0) ∧ Boxed W (w.heap.size + 1 + 1) 4 (.bool false) ∧ Below w.heap.size w W)
      (fun c _ W => Hid (c = .ret ∧ r.2 = true ∧ Boxed W (w.heap.size + 1) 3 (.int .i64 r.1) ∧ Boxed W (w.heap.size + 1 + 1) 4 (.bool true)) ∧ Below w.heap.size w W)
      (fun k W W' q hs hg hq => ⟨hs.1, boxed_at hs.2.1 hg hq (by omega) (by omega), boxed_at hs.2.2.1 hg hq (by omega) (by omega), boxed_at hs.2.2.2.1 hg hq (by omega) (by omega), below_at hs.2.2.2.2 hg hq (by omega) (by omega)⟩)
      (fun c k W W' q hs hg hq => ⟨Lib.hid (have h := hs.1.out; ⟨h.1, h.2.1, boxed_at h.2.2.1 hg hq (by omega) (by omega), boxed_at h.2.2.2 hg hq (by omega) (by omega)⟩), below_at hs.2 hg hq (by omega) (by omega)⟩)
      ⟨fullTo_zero L _ E, c0, c1, c2, hb⟩
      (fun q : Nat × Nat => { tmps := #[.slice ad L.length cap, .int .i64 n, .int .i64 (A : Int), .pointer (some ⟨w.heap.size, 0, none⟩), undef, undef, .pointer (some ⟨w.heap.size + 1, 0, none⟩), .pointer (some ⟨w.heap.size + 1 + 1, 0, none⟩), .int .i64 q.1, .int .u64 q.2, undef, undef, .int .i64 (A : Int), (.int .i64 (A : Int)), .slice ad L.length cap, .int .i64 n, .int .i64 E, .func (.func 46) #[] #[.pointer (some ⟨w.heap.size + 1 + 1 + 1, 0, none⟩), .pointer (some ⟨w.heap.size + 1 + 1 + 1 + 1, 0, none⟩)], .int .i64 q.1, .int .u64 q.2, undef, undef, undef, undef, undef, undef, undef, undef, undef, undef, undef, undef, undef, undef, undef], defers := [] }) ?assign ?body ?done ?stop
    case assign =>
      intro l i W K hK
      gi_wp2
      exact hK
    case body =>
      rintro l j q W hi ⟨hF, b0, b1, b2, hB⟩ hsz
      obtain ⟨hj, rfl⟩ := wordsL_get hi
      have hk := word_lt hj hE
      have hW := HH.kept hB
      obtain ⟨g, cap', hv, hg, hcell⟩ := wordsAt_cell hW hk
      obtain ⟨had, hcap⟩ : ad = some ⟨g, 0, none⟩ ∧ cap = cap' := by injection hv with h1 h2 h3; exact ⟨h1, h3⟩
      subst had
      subst hcap
      have hx : bits .andNot .u64 (maskN (A) E ((A) / 64 + j) : Int) (wAt L ((A) / 64 + j) : Int) = (freeN L (A) E ((A) / 64 + j) : Int) := u64_andNot_nat _ _ (maskN_lt _ _ _) (wAt_lt HL.out _)
      have hxl := freeN_lt L (A) E ((A) / 64 + j)
      have Hfound := Lib.hid (fun p (h : (places (freeN L (A) E ((A) / 64 + j)))[0]? = some p) => nextV_one Hr.out (fullTo_found HL.out hF h))
      have Hnext := Lib.hid (fun h => fullTo_next HL.out hF h)
      have HB := Lib.hid hB
      obtain ⟨k, ek⟩ : ∃ k, (A) / 64 + j = k := ⟨_, rfl⟩
      obtain ⟨x, ex⟩ : ∃ x, freeN L (A) E k = x := ⟨_, rfl⟩
      obtain ⟨y, ey⟩ : ∃ y, wAt L k = y := ⟨_, rfl⟩
      obtain ⟨m, em⟩ : ∃ m, maskN (A) E k = m := ⟨_, rfl⟩
      rw [ek] at hk hcell hx hxl Hfound Hnext
      rw [ex] at hx hxl Hfound Hnext
      rw [ey] at hcell hx
      rw [em] at hx
      simp only [ek, em]
      obtain ⟨s, hsv⟩ := nthV_ex x 0
      have Hs := Lib.hid hsv
      have hnth := Lib.hid (nth_any x hxl 0 (by decide) (by decide) s hsv W (hT.kept (hB.block 0 hp)) (Nat.lt_of_lt_of_le hp hB.size))
      have d0 := b0.cell
      clear hv hi hF hW hsv ek ex ey em HH
      gi_wp2_with fail
      refine ⟨trivial, ?_⟩
      refine (CallsIn.inRound l (callsIn_wide.2 hnth.out)).mono ?_
      rintro e W2 ⟨rfl, hB2⟩
      have b0' : Boxed W2 w.heap.size 44 (.slice (some ⟨g, 0, none⟩) L.length cap) := (hB2.block _ (by omega)).trans b0
      have b1' : Boxed W2 (w.heap.size + 1) 3 (.int .i64 0) := (hB2.block _ (by omega)).trans b1
      have b2' : Boxed W2 (w.heap.size + 1 + 1) 4 (.bool false) := (hB2.block _ (by omega)).trans b2
      have hBB : Below w.heap.size w W2 := HB.out.trans (hB2.mono (by omega))
      have d1 := b1'.cell; have f1 := b1'.frozen
      have d2 := b2'.cell; have f2 := b2'.frozen
      rcases Hs.out with ⟨p, _, hpl, rfl⟩ | ⟨hno, rfl⟩
      · have hp64 : p < 64 := places_lt (List.mem_of_getElem? hpl)
        have Hrr := Lib.hid (Hfound.out p hpl)
        have g1 : IntKind.i64.wrap ((k : Int) * 64) = k * 64 := by rw [IntKind.wrap_i64]; omega
        have g2 : IntKind.i64.wrap ((k : Int) * 64 + p) = (k * 64 + p : Nat) := by rw [IntKind.wrap_i64]; omega
        clear hpl
        gi_wp2
        refine ⟨((keeps_below hB2).trans (KeepsOthers.setCell _ _ _)).trans (KeepsOthers.setCell _ _ _), Lib.hid ⟨rfl, ?_, ?_, ?_⟩, (hBB.setCell (p := ⟨w.heap.size + 1, 0, none⟩) (by simp) _).setCell (by simp; omega) _⟩
        · rw [Hrr.out]
        · rw [Hrr.out]; exact set_other (b1'.set _) (by omega)
        · exact (set_other b2' (by omega)).set _
      · have hpn : places x = [] := by
          rcases hno with h | h
          · omega
          · exact List.length_eq_zero_iff.1 (by omega)
        have Hf := Lib.hid (Hnext.out hpn)
        clear hno hpn
        gi_wp2
        exact ⟨keeps_below hB2, fun b hm => hB2.block b (by simp at hm; omega), Hf.out, b0', b1', b2', hBB⟩
    case done =>
      rintro D W hD ⟨hF, b0, b1, b2, hB⟩ hK
      have d1 := b1.cell; have f1 := b1.frozen
      have d2 := b2.cell; have f2 := b2.frozen
      have hr0 : r = (0, false) := nextV_one Hr.out (fullTo_end (by rw [wordsL_length] at hF; exact hF))
      have H0 := Lib.hid hr0
      clear hF hr0
      gi_wp2
      have hK' := ((KeepsOthers.setCell W ⟨w.heap.size + 1, 0, none⟩ (.int .i64 0)).trans (KeepsOthers.setCell _ ⟨w.heap.size + 1 + 1, 0, none⟩ (.bool false))).same D _ hK rfl
      refine ⟨by simp, .inl ⟨_, _, rfl, run_takeDeferred hK', ?_⟩⟩
      have e1 := (put_boxed (D := D) (o := .deferred none) (set_other (u := .bool false) (b1.set (.int .i64 0)) (show w.heap.size + 1 ≠ w.heap.size + 1 + 1 by omega)) (by omega)).cell
      have e2 := (put_boxed (D := D) (o := .deferred none) ((set_other (u := .int .i64 0) b2 (show w.heap.size + 1 + 1 ≠ w.heap.size + 1 by omega)).set (.bool false)) (by omega)).cell
      refine ⟨.tuple #[.int .i64 0, .bool false], ?_, by rw [H0.out], put_below ((hB.setCell (p := ⟨w.heap.size + 1, 0, none⟩) (by simp) _).setCell (by simp; omega) _) (by omega)⟩
      simp [results, Tryd.results28, go_sem, e1, e2]
    case stop =>
      rintro D c k W hD hk ⟨hR, hB⟩ hK
      obtain ⟨rfl, h2, b1, b2⟩ := hR.out
      clear hR
      gi_wp2
      refine ⟨by simp, .inl ⟨_, _, rfl, run_takeDeferred hK, ?_⟩⟩
      have e1 := (put_boxed (D := D) (o := .deferred none) b1 (by omega)).cell
      have e2 := (put_boxed (D := D) (o := .deferred none) b2 (by omega)).cell
      rw [h2]
      refine ⟨.tuple #[.int .i64 r.1, .bool true], ?_, rfl, put_below hB (by omega)⟩
      simp [results, Tryd.results28, go_sem, e1, e2]
  · gi_wp2_with fail
    refine ⟨trivial, ?_⟩
    refine (callsIn_wide.2 (Hheld.out _ ((((Below.refl _ w).alloc (Nat.le_refl _) _).alloc (by simp) _).alloc (by simp; omega) _))).mono ?_
    rintro e w1 ⟨rfl, rfl⟩
    gi_wp2_with fail
    refine ⟨trivial, ?_⟩
    rw [EE.out]
    refine (callsIn_wide.2 (words_any _ _ _)).mono ?_
    rintro e w1 ⟨rfl, rfl⟩
    gi_wp2
    obtain ⟨W0, hW0⟩ : ∃ W0, (((((w.alloc (.cells #[.slice ad L.length cap] 44)).alloc (.cells #[.int .i64 0] 3)).alloc (.cells #[.bool false] 4)).alloc (.cells #[(.int .i64 0)] 3)).alloc (.cells #[.int .i64 E] 3)) = W0 := ⟨_, rfl⟩
    have hs : W0.heap.size = w.heap.size + 5 := by rw [← hW0]; simp
    have c0 : Boxed W0 w.heap.size 44 (.slice ad L.length cap) := by rw [← hW0]; exact ((((Boxed.new w 44 _).alloc _).alloc _).alloc _).alloc _
    have c1 : Boxed W0 (w.heap.size + 1) 3 (.int .i64 0) := by rw [← hW0]; have := ((((Boxed.new (w.alloc (.cells #[.slice ad L.length cap] 44)) 3 (.int .i64 0)).alloc (.cells #[.bool false] 4)).alloc (.cells #[(.int .i64 0)] 3)).alloc (.cells #[.int .i64 E] 3)); simpa using this
    have c2 : Boxed W0 (w.heap.size + 1 + 1) 4 (.bool false) := by rw [← hW0]; have := (((Boxed.new ((w.alloc (.cells #[.slice ad L.length cap] 44)).alloc (.cells #[.int .i64 0] 3)) 4 (.bool false)).alloc (.cells #[(.int .i64 0)] 3)).alloc (.cells #[.int .i64 E] 3)); simpa using this
    have c3 : Boxed W0 (w.heap.size + 1 + 1 + 1) 3 ((.int .i64 0)) := by rw [← hW0]; have := ((Boxed.new (((w.alloc (.cells #[.slice ad L.length cap] 44)).alloc (.cells #[.int .i64 0] 3)).alloc (.cells #[.bool false] 4)) 3 ((.int .i64 0))).alloc (.cells #[.int .i64 E] 3)); simpa using this
    have c4 : Boxed W0 (w.heap.size + 1 + 1 + 1 + 1) 3 (.int .i64 E) := by rw [← hW0]; have := (Boxed.new ((((w.alloc (.cells #[.slice ad L.length cap] 44)).alloc (.cells #[.int .i64 0] 3)).alloc (.cells #[.bool false] 4)).alloc (.cells #[(.int .i64 0)] 3)) 3 (.int .i64 E)); simpa using this
    have hb : Below w.heap.size w W0 := by rw [← hW0]; exact (((((Below.refl _ w).alloc (Nat.le_refl _) _).alloc (by simp) _).alloc (by simp; omega) _).alloc (by simp; omega) _).alloc (by simp; omega) _
    rw [hW0]
    refine range_law (gf := 46) (lb := #[.pointer (some ⟨w.heap.size + 1 + 1 + 1, 0, none⟩), .pointer (some ⟨w.heap.size + 1 + 1 + 1 + 1, 0, none⟩)]) rfl (enters_of Tryd.func46 (by kernel_rfl) rfl) (by omega) (fun b hm => by simp at hm; omega)
      (words_gives 8 (0) E (by omega) W0 (w.heap.size + 1 + 1 + 1) (w.heap.size + 1 + 1 + 1 + 1) (by omega) c3.cell c3.frozen c4.cell) (fun _ => rfl)
      (fun j W => FullTo L (0) E j ∧ Boxed W w.heap.size 44 (.slice ad L.length cap) ∧ Boxed W (w.heap.size + 1) 3 (.int .i64 0) ∧ Boxed W (w.heap.size + 1 + 1) 4 (.bool false) ∧ Below w.heap.size w W)
      (fun c _ W => Hid (c = .ret ∧ r.2 = true ∧ Boxed W (w.heap.size + 1) 3 (.int .i64 r.1) ∧ Boxed W (w.heap.size + 1 + 1) 4 (.bool true)) ∧ Below w.heap.size w W)
      (fun k W W' q hs hg hq => ⟨hs.1, boxed_at hs.2.1 hg hq (by omega) (by omega), boxed_at hs.2.2.1 hg hq (by omega) (by omega), boxed_at hs.2.2.2.1 hg hq (by omega) (by omega), below_at hs.2.2.2.2 hg hq (by omega) (by omega)⟩)
      (fun c k W W' q hs hg hq => ⟨Lib.hid (have h := hs.1.out; ⟨h.1, h.2.1, boxed_at h.2.2.1 hg hq (by omega) (by omega), boxed_at h.2.2.2 hg hq (by omega) (by omega)⟩), below_at hs.2 hg hq (by omega) (by omega)⟩)
      ⟨fullTo_zero L _ E, c0, c1, c2, hb⟩
      (fun q : Nat × Nat => { tmps := #[.slice ad L.length cap, .int .i64 n, .int .i64 from_, .pointer (some ⟨w.heap.size, 0, none⟩), undef, undef, .pointer (some ⟨w.heap.size + 1, 0, none⟩), .pointer (some ⟨w.heap.size + 1 + 1, 0, none⟩), .int .i64 q.1, .int .u64 q.2, undef, undef, .int .i64 from_, (.int .i64 0), .slice ad L.length cap, .int .i64 n, .int .i64 E, .func (.func 46) #[] #[.pointer (some ⟨w.heap.size + 1 + 1 + 1, 0, none⟩), .pointer (some ⟨w.heap.size + 1 + 1 + 1 + 1, 0, none⟩)], .int .i64 q.1, .int .u64 q.2, undef, undef, undef, undef, undef, undef, undef, undef, undef, undef, undef, undef, undef, undef, undef], defers := [] }) ?assign ?body ?done ?stop
    case assign =>
      intro l i W K hK
      gi_wp2
      exact hK
    case body =>
      rintro l j q W hi ⟨hF, b0, b1, b2, hB⟩ hsz
      obtain ⟨hj, rfl⟩ := wordsL_get hi
      have hk := word_lt hj hE
      have hW := HH.kept hB
      obtain ⟨g, cap', hv, hg, hcell⟩ := wordsAt_cell hW hk
      obtain ⟨had, hcap⟩ : ad = some ⟨g, 0, none⟩ ∧ cap = cap' := by injection hv with h1 h2 h3; exact ⟨h1, h3⟩
      subst had
      subst hcap
      have hx : bits .andNot .u64 (maskN (0) E ((0) / 64 + j) : Int) (wAt L ((0) / 64 + j) : Int) = (freeN L (0) E ((0) / 64 + j) : Int) := u64_andNot_nat _ _ (maskN_lt _ _ _) (wAt_lt HL.out _)
      have hxl := freeN_lt L (0) E ((0) / 64 + j)
      have Hfound := Lib.hid (fun p (h : (places (freeN L (0) E ((0) / 64 + j)))[0]? = some p) => nextV_one Hr.out (fullTo_found HL.out hF h))
      have Hnext := Lib.hid (fun h => fullTo_next HL.out hF h)
      have HB := Lib.hid hB
      obtain ⟨k, ek⟩ : ∃ k, (0) / 64 + j = k := ⟨_, rfl⟩
      obtain ⟨x, ex⟩ : ∃ x, freeN L (0) E k = x := ⟨_, rfl⟩
      obtain ⟨y, ey⟩ : ∃ y, wAt L k = y := ⟨_, rfl⟩
      obtain ⟨m, em⟩ : ∃ m, maskN (0) E k = m := ⟨_, rfl⟩
      rw [ek] at hk hcell hx hxl Hfound Hnext
      rw [ex] at hx hxl Hfound Hnext
      rw [ey] at hcell hx
      rw [em] at hx
      simp only [ek, em]
      obtain ⟨s, hsv⟩ := nthV_ex x 0
      have Hs := Lib.hid hsv
      have hnth := Lib.hid (nth_any x hxl 0 (by decide) (by decide) s hsv W (hT.kept (hB.block 0 hp)) (Nat.lt_of_lt_of_le hp hB.size))
      have d0 := b0.cell
      clear hv hi hF hW hsv ek ex ey em HH
      gi_wp2_with fail
      refine ⟨trivial, ?_⟩
      refine (CallsIn.inRound l (callsIn_wide.2 hnth.out)).mono ?_
      rintro e W2 ⟨rfl, hB2⟩
      have b0' : Boxed W2 w.heap.size 44 (.slice (some ⟨g, 0, none⟩) L.length cap) := (hB2.block _ (by omega)).trans b0
      have b1' : Boxed W2 (w.heap.size + 1) 3 (.int .i64 0) := (hB2.block _ (by omega)).trans b1
      have b2' : Boxed W2 (w.heap.size + 1 + 1) 4 (.bool false) := (hB2.block _ (by omega)).trans b2
      have hBB : Below w.heap.size w W2 := HB.out.trans (hB2.mono (by omega))
      have d1 := b1'.cell; have f1 := b1'.frozen
      have d2 := b2'.cell; have f2 := b2'.frozen
      rcases Hs.out with ⟨p, _, hpl, rfl⟩ | ⟨hno, rfl⟩
      · have hp64 : p < 64 := places_lt (List.mem_of_getElem? hpl)
        have Hrr := Lib.hid (Hfound.out p hpl)
        have g1 : IntKind.i64.wrap ((k : Int) * 64) = k * 64 := by rw [IntKind.wrap_i64]; omega
        have g2 : IntKind.i64.wrap ((k : Int) * 64 + p) = (k * 64 + p : Nat) := by rw [IntKind.wrap_i64]; omega
        clear hpl
        gi_wp2
        refine ⟨((keeps_below hB2).trans (KeepsOthers.setCell _ _ _)).trans (KeepsOthers.setCell _ _ _), Lib.hid ⟨rfl, ?_, ?_, ?_⟩, (hBB.setCell (p := ⟨w.heap.size + 1, 0, none⟩) (by simp) _).setCell (by simp; omega) _⟩
        · rw [Hrr.out]
        · rw [Hrr.out]; exact set_other (b1'.set _) (by omega)
        · exact (set_other b2' (by omega)).set _
      · have hpn : places x = [] := by
          rcases hno with h | h
          · omega
          · exact List.length_eq_zero_iff.1 (by omega)
        have Hf := Lib.hid (Hnext.out hpn)
        clear hno hpn
        gi_wp2
        exact ⟨keeps_below hB2, fun b hm => hB2.block b (by simp at hm; omega), Hf.out, b0', b1', b2', hBB⟩
    case done =>
      rintro D W hD ⟨hF, b0, b1, b2, hB⟩ hK
      have d1 := b1.cell; have f1 := b1.frozen
      have d2 := b2.cell; have f2 := b2.frozen
      have hr0 : r = (0, false) := nextV_one Hr.out (fullTo_end (by rw [wordsL_length] at hF; exact hF))
      have H0 := Lib.hid hr0
      clear hF hr0
      gi_wp2
      have hK' := ((KeepsOthers.setCell W ⟨w.heap.size + 1, 0, none⟩ (.int .i64 0)).trans (KeepsOthers.setCell _ ⟨w.heap.size + 1 + 1, 0, none⟩ (.bool false))).same D _ hK rfl
      refine ⟨by simp, .inl ⟨_, _, rfl, run_takeDeferred hK', ?_⟩⟩
      have e1 := (put_boxed (D := D) (o := .deferred none) (set_other (u := .bool false) (b1.set (.int .i64 0)) (show w.heap.size + 1 ≠ w.heap.size + 1 + 1 by omega)) (by omega)).cell
      have e2 := (put_boxed (D := D) (o := .deferred none) ((set_other (u := .int .i64 0) b2 (show w.heap.size + 1 + 1 ≠ w.heap.size + 1 by omega)).set (.bool false)) (by omega)).cell
      refine ⟨.tuple #[.int .i64 0, .bool false], ?_, by rw [H0.out], put_below ((hB.setCell (p := ⟨w.heap.size + 1, 0, none⟩) (by simp) _).setCell (by simp; omega) _) (by omega)⟩
      simp [results, Tryd.results28, go_sem, e1, e2]
    case stop =>
      rintro D c k W hD hk ⟨hR, hB⟩ hK
      obtain ⟨rfl, h2, b1, b2⟩ := hR.out
      clear hR
      gi_wp2
      refine ⟨by simp, .inl ⟨_, _, rfl, run_takeDeferred hK, ?_⟩⟩
      have e1 := (put_boxed (D := D) (o := .deferred none) b1 (by omega)).cell
      have e2 := (put_boxed (D := D) (o := .deferred none) b2 (by omega)).cell
      rw [h2]
      refine ⟨.tuple #[.int .i64 r.1, .bool true], ?_, rfl, put_below hB (by omega)⟩
      simp [results, Tryd.results28, go_sem, e1, e2]
end Go.Proofs.YtjgadfeplaiclaaDoor
