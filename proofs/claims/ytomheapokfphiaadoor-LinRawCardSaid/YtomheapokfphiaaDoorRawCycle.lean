/-
  The contract of live.cycle.
-/
import Derived.Test.YtomheapokfphiaaDoorRawCycleRegion
import Derived.Test.YtomheapokfphiaaDoorRawAlloc
import Derived.Test.YtomheapokfphiaaDoorLinRise
namespace Go.Proofs.YtomheapokfphiaaDoor
open Go Go.RowKit Go.Shelf

theorem four_boxes (w : World) (A B C E : Array Value) (a b c e : TypeId) : ∃ W0, (((w.alloc (.cells A a)).alloc (.cells B b)).alloc (.cells C c)).alloc (.cells E e) = W0 ∧ W0.heap.size = w.heap.size + 4 ∧ W0.heap[w.heap.size]? = some (.cells A a (0, 0)) ∧ W0.heap[w.heap.size + 1]? = some (.cells B b (0, 0)) ∧ W0.heap[w.heap.size + 1 + 1]? = some (.cells C c (0, 0)) ∧ W0.heap[w.heap.size + 1 + 1 + 1]? = some (.cells E e (0, 0)) ∧ Below w.heap.size w W0 := by
  obtain ⟨W1, h1, h2, h3, h4, h5, h6⟩ := three_boxes w A B C a b c
  refine ⟨_, by rw [h1], by simp [h2], ?_, ?_, ?_, ?_, h6.alloc h6.size _⟩
  · exact (Below.heap_alloc _ _ _ (by omega)).trans h3
  · exact (Below.heap_alloc _ _ _ (by omega)).trans h4
  · exact (Below.heap_alloc _ _ _ (by omega)).trans h5
  · have := World.alloc_heap_new W1 (.cells E e)
    rw [h2] at this
    exact this

theorem cycleM_bad {s : LiveP} {L : List Int} {k : Nat} (hk : k < L.length) (h : okAt s L k = false) : cycleM s L = none := by
  unfold cycleM
  rw [if_neg]
  rw [all_not hk h]
  exact Bool.false_ne_true
theorem cycleM_good {s : LiveP} {L : List Int} (h : ∀ k, k < L.length → okAt s L k = true) : cycleM s L = some (L.map fun a => (a, nOf s a)) := by
  unfold cycleM
  rw [if_pos (all_at h)]
theorem index_some {s : LiveP} {x : Int} {p : Nat} (hp : p < (s.map (·.1)).length) (he : (s.map (·.1)).getD p 0 = x) (hn : ∀ j, j < p → (s.map (·.1)).getD j 0 ≠ x) : (s.any fun q => q.1 == x) = true ∧ nOf s x = (s.map (·.2)).getD p 0 := by
  induction s generalizing p with
  | nil => simp at hp
  | cons q s ih =>
    cases p with
    | zero =>
      simp at he
      subst he
      simp [nOf]
    | succ p =>
      have h0 : q.1 ≠ x := by have := hn 0 (by omega); simpa using this
      have hb : (q.1 == x) = false := by simpa using h0
      obtain ⟨i1, i2⟩ := ih (p := p) (by simpa using hp) (by simpa using he) (fun j hj => by have := hn (j + 1) (by omega); simpa using this)
      refine ⟨by rw [List.any_cons, i1, Bool.or_true], ?_⟩
      have : nOf (q :: s) x = nOf s x := by simp [nOf, hb]
      rw [this, i2]
      simp
theorem index_none {s : LiveP} {x : Int} (hn : ∀ j, j < (s.map (·.1)).length → (s.map (·.1)).getD j 0 ≠ x) : (s.any fun q => q.1 == x) = false := by
  rw [List.any_eq_false]
  intro q hq
  obtain ⟨j, hj, rfl⟩ := List.getElem_of_mem hq
  have := hn j (by simpa using hj)
  simpa [List.getD_eq_getElem?_getD, hj] using this

set_option maxHeartbeats 4000000 in
theorem cycle_any (pages : Int) (s : LiveP) (hs : s.length ≤ 65536) (o : OpP) (_ : 0 ≤ 0) (v : Value) (ld : Option Addr) (lc : Nat) (w : World) (h : LiveAt w v pages s) (hl : IntsAt w (.slice ld o.L.length lc) o.L) :
    Calls Tryd.prog 69 #[v, opVal o (.slice ld o.L.length lc)] w fun e w' => (∃ u, e = .returned u ∧ DoneFrom w.heap.size w' pages (cycleM s o.L) u) ∧ Below w.heap.size w w' := by
  obtain ⟨av, nv, rfl, ha, hn⟩ := h
  have HA := Lib.hid ha
  have HN := Lib.hid hn
  have HL := Lib.hid hl
  unfold opVal
  obtain ⟨kd, sz, at_, cd, L, b, e⟩ := o
  simp only [] at *
  obtain ⟨ad, acap, rfl, _⟩ := ha
  obtain ⟨nd, ncap, rfl, _⟩ := hn
  simp only [List.length_map] at HA HN ⊢
  obtain ⟨ln, eln⟩ : ∃ ln, L.length = ln := ⟨_, rfl⟩
  have Eln := Lib.hid eln
  rw [eln] at HL ⊢
  obtain ⟨W0, hW0, hs0, X0, X1, X2, X3, hB0⟩ := four_boxes w #[.int .i64 pages, .slice ad s.length acap, .slice nd s.length ncap] #[.int .i64 kd, .int .i64 sz, .int .i64 at_, .int .i64 cd, .slice ld ln lc, .int .i64 b, .int .i64 e] #[.int .i64 0, .slice none 0 0, .slice none 0 0] #[.int .i64 pages, .slice none 0 0, .slice none 0 0] 63 50 63 63
  have HB := Lib.hid hB0
  have HX0 := Lib.hid X0
  have HX1 := Lib.hid X1
  have HX2 := Lib.hid X2
  have HX3 := Lib.hid X3
  have HW0 := Lib.hid hW0
  have Hs0 := Lib.hid hs0
  clear hW0 hB0 hs0 hl eln
  have q0W0 := X0
  have q1W0 := X1
  have q2W0 := X2
  have l0W0 : W0.cell? ⟨w.heap.size, 0, none⟩ = some (.int .i64 pages) := blk_cell q0W0 0
  have l1W0 : W0.cell? ⟨w.heap.size, 1, none⟩ = some (.slice ad s.length acap) := blk_cell q0W0 1
  have l2W0 : W0.cell? ⟨w.heap.size, 2, none⟩ = some (.slice nd s.length ncap) := blk_cell q0W0 2
  have o0W0 : W0.cell? ⟨w.heap.size + 1, 0, none⟩ = some (.int .i64 kd) := blk_cell q1W0 0
  have o1W0 : W0.cell? ⟨w.heap.size + 1, 1, none⟩ = some (.int .i64 sz) := blk_cell q1W0 1
  have o2W0 : W0.cell? ⟨w.heap.size + 1, 2, none⟩ = some (.int .i64 at_) := blk_cell q1W0 2
  have o3W0 : W0.cell? ⟨w.heap.size + 1, 3, none⟩ = some (.int .i64 cd) := blk_cell q1W0 3
  have o4W0 : W0.cell? ⟨w.heap.size + 1, 4, none⟩ = some (.slice ld ln lc) := blk_cell q1W0 4
  have o5W0 : W0.cell? ⟨w.heap.size + 1, 5, none⟩ = some (.int .i64 b) := blk_cell q1W0 5
  have o6W0 : W0.cell? ⟨w.heap.size + 1, 6, none⟩ = some (.int .i64 e) := blk_cell q1W0 6
  have r0W0 : W0.cell? ⟨w.heap.size + 1 + 1, 0, none⟩ = some (.int .i64 0) := blk_cell q2W0 0
  have r1W0 : W0.cell? ⟨w.heap.size + 1 + 1, 1, none⟩ = some (.slice none 0 0) := blk_cell q2W0 1
  have r2W0 : W0.cell? ⟨w.heap.size + 1 + 1, 2, none⟩ = some (.slice none 0 0) := blk_cell q2W0 2
  have z0W0 : W0.frozen? ⟨w.heap.size + 1 + 1, 0, none⟩ = false := blk_frozen q2W0 0
  have z1W0 : W0.frozen? ⟨w.heap.size + 1 + 1, 1, none⟩ = false := blk_frozen q2W0 1
  have z2W0 : W0.frozen? ⟨w.heap.size + 1 + 1, 2, none⟩ = false := blk_frozen q2W0 2
  clear X0 X1 X2 X3 q0W0 q1W0 q2W0
  go_enter Tryd.func69, Tryd.ntmps69
  go_wp2_with fail
  rw [HW0.out]
  go_loopw [16] (fun i wr => ∃ (k : Nat) (c1 c2 : Value), k ≤ ln ∧ i = .int .i64 k ∧ (∀ j, j < k → okAt s L j = true) ∧ wr.cell? ⟨w.heap.size + 1 + 1 + 1, 0, none⟩ = some (.int .i64 pages) ∧ wr.cell? ⟨w.heap.size + 1 + 1 + 1, 1, none⟩ = some c1 ∧ wr.cell? ⟨w.heap.size + 1 + 1 + 1, 2, none⟩ = some c2 ∧
      wr.frozen? ⟨w.heap.size + 1 + 1 + 1, 1, none⟩ = false ∧ wr.frozen? ⟨w.heap.size + 1 + 1 + 1, 2, none⟩ = false ∧ wr.ownsRow (w.heap.size + 4) 3 1 c1 k ((L.take k).map iV) ∧ wr.ownsRow (w.heap.size + 4) 3 1 c2 k (((L.take k).map (nOf s)).map iV) ∧ Apart c1 c2 ∧ Below (w.heap.size + 3) W0 wr) (fun i _ => ln - (intOf i).toNat)
  case atStart =>
    exact ⟨0, _, _, Nat.zero_le _, rfl, fun j hj => absurd hj (Nat.not_lt_zero j), blk_cell HX3.out 0, blk_cell HX3.out 1, blk_cell HX3.out 2, blk_frozen HX3.out 1, blk_frozen HX3.out 2, World.ownsRow_nil _ _ _ _, World.ownsRow_nil _ _ _ _, (fun g hg => by cases hg), Below.refl _ _⟩
  case round =>
    obtain ⟨k, c1, c2, hk, rfl, hok, m0, m1, m2, n1, n2, o1, o2, hap, hbw⟩ := hrel
    have hks : k ≤ s.length := ok_le (by rw [Eln.out]; exact hk) hok
    obtain ⟨Wo, hWo⟩ : ∃ Wo, Wo = wr := ⟨_, rfl⟩
    subst hWo
    have hs0 := Hs0.out
    have hso := hbw.size
    have HBw := Lib.hid (HB.out.trans (hbw.mono (show w.heap.size ≤ w.heap.size + 3 by omega)))
    have Hok := Lib.hid hok
    have Hbw := Lib.hid hbw
    have O1 := Lib.hid o1
    have O2 := Lib.hid o2
    have Hap := Lib.hid hap
    have q0Wo := (Hbw.out.block _ (by omega)).trans HX0.out
    have q1Wo := (Hbw.out.block _ (by omega)).trans HX1.out
    have q2Wo := (Hbw.out.block _ (by omega)).trans HX2.out
    have l0Wo : Wo.cell? ⟨w.heap.size, 0, none⟩ = some (.int .i64 pages) := blk_cell q0Wo 0
    have l1Wo : Wo.cell? ⟨w.heap.size, 1, none⟩ = some (.slice ad s.length acap) := blk_cell q0Wo 1
    have l2Wo : Wo.cell? ⟨w.heap.size, 2, none⟩ = some (.slice nd s.length ncap) := blk_cell q0Wo 2
    have o0Wo : Wo.cell? ⟨w.heap.size + 1, 0, none⟩ = some (.int .i64 kd) := blk_cell q1Wo 0
    have o1Wo : Wo.cell? ⟨w.heap.size + 1, 1, none⟩ = some (.int .i64 sz) := blk_cell q1Wo 1
    have o2Wo : Wo.cell? ⟨w.heap.size + 1, 2, none⟩ = some (.int .i64 at_) := blk_cell q1Wo 2
    have o3Wo : Wo.cell? ⟨w.heap.size + 1, 3, none⟩ = some (.int .i64 cd) := blk_cell q1Wo 3
    have o4Wo : Wo.cell? ⟨w.heap.size + 1, 4, none⟩ = some (.slice ld ln lc) := blk_cell q1Wo 4
    have o5Wo : Wo.cell? ⟨w.heap.size + 1, 5, none⟩ = some (.int .i64 b) := blk_cell q1Wo 5
    have o6Wo : Wo.cell? ⟨w.heap.size + 1, 6, none⟩ = some (.int .i64 e) := blk_cell q1Wo 6
    have r0Wo : Wo.cell? ⟨w.heap.size + 1 + 1, 0, none⟩ = some (.int .i64 0) := blk_cell q2Wo 0
    have r1Wo : Wo.cell? ⟨w.heap.size + 1 + 1, 1, none⟩ = some (.slice none 0 0) := blk_cell q2Wo 1
    have r2Wo : Wo.cell? ⟨w.heap.size + 1 + 1, 2, none⟩ = some (.slice none 0 0) := blk_cell q2Wo 2
    have z0Wo : Wo.frozen? ⟨w.heap.size + 1 + 1, 0, none⟩ = false := blk_frozen q2Wo 0
    have z1Wo : Wo.frozen? ⟨w.heap.size + 1 + 1, 1, none⟩ = false := blk_frozen q2Wo 1
    have z2Wo : Wo.frozen? ⟨w.heap.size + 1 + 1, 2, none⟩ = false := blk_frozen q2Wo 2
    clear q0Wo q1Wo q2Wo hok hbw o1 o2 hap
    obtain ⟨d1, e1, rfl⟩ := own_slice O1.out
    obtain ⟨d2, e2, rfl⟩ := own_slice O2.out
    by_cases hlt : k < ln
    · obtain ⟨gl, glo, cap', hv, hgl, c0⟩ := intsAt_cell (HL.out.kept (CellsKept.of HBw.out)) (k := k) (by rw [Eln.out]; exact hlt)
      obtain ⟨rfl, rfl⟩ : ld = some ⟨gl, glo, none⟩ ∧ lc = cap' := by injection hv with h1 h2 h3; exact ⟨h1, h3⟩
      have hglw : gl < w.heap.size := by
        obtain ⟨ad', cc, hv', hh⟩ := HL.out
        rcases hh with h0 | ⟨g', c', he, hg', _⟩
        · have := Eln.out; rw [h0] at this; simp at this; omega
        · have h1 : some (⟨gl, glo, none⟩ : Addr) = ad' := by injection hv'
          rw [he] at h1
          injection h1 with h1
          injection h1 with h1
          rw [h1]; exact hg'
      obtain ⟨x, ex⟩ : ∃ x, L.getD k 0 = x := ⟨_, rfl⟩
      rw [ex] at c0
      have Ex := Lib.hid ex
      have hidx := Lib.hid (index_any (s.map (·.1)) (by rw [List.length_map]; omega) x _ Wo (HA.out.kept (CellsKept.of HBw.out)))
      have hkI : (k : Int) < ln := by omega
      have Hgl := Lib.hid (HL.out.kept (CellsKept.of HBw.out))
      clear ex hv
      go_wp2_with fail
      refine hidx.out.mono ?_
      rintro e w1 ⟨⟨i, rfl, hi⟩, rfl⟩
      rcases hi with ⟨p, rfl, hp, hpx, hpn⟩ | ⟨rfl, hno⟩
      · obtain ⟨i1, i2⟩ := index_some hp hpx hpn
        have Hn := Lib.hid i2
        have Hany := Lib.hid i1
        have hps : p < s.length := by rw [List.length_map] at hp; exact hp
        obtain ⟨gn, gno, cap'', hv, hgn, cy⟩ := intsAt_cell (HN.out.kept (CellsKept.of HBw.out)) (k := p) (by rw [List.length_map]; exact hps)
        obtain ⟨rfl, rfl⟩ : nd = some ⟨gn, gno, none⟩ ∧ ncap = cap'' := by injection hv with h1 h2 h3; exact ⟨h1, h3⟩
        have hgnw : gn < w.heap.size := by
          obtain ⟨ad', cc, hv', hh⟩ := HN.out
          rcases hh with h0 | ⟨g', c', he, hg', _⟩
          · simp at h0; subst h0; simp at hps
          · have h1 : some (⟨gn, gno, none⟩ : Addr) = ad' := by injection hv'
            rw [he] at h1
            injection h1 with h1
            injection h1 with h1
            rw [h1]; exact hg'
        rw [← i2] at cy
        have hp0 : ¬ ((p : Int) < 0) := by omega
        clear i1 i2 hv hp hpx hpn
        rcases Nat.eq_zero_or_pos k with hz | hz
        · have Hgood := Lib.hid (show okAt s L k = true by unfold okAt; rw [Ex.out, Hany.out, hz]; rfl)
          have hk0 : ¬ ((0 : Int) < k) := by omega
          clear hz
          go_upto_region 8 with (fail)
          have hlk : (L.take (k)).length = k := by rw [List.length_take, Eln.out]; omega
          refine cyc_region (w.heap.size + 4) (w.heap.size + 1 + 1 + 1) w.heap.size gn gno p ncap (.slice d1 (k) e1) (.slice d2 (k) e2) (L.take (k)) ((L.take (k)).map (nOf s)) s.length x (nOf s x) ?text rfl rfl rfl rfl rfl rfl m1 m2 l2Wo cy hps (by omega) (by omega) (by omega) (by omega) n1 n2 (by rw [hlk]; exact O1.out) (by rw [List.length_map, hlk]; exact O2.out) Hap.out (by rw [hlk]; omega) (by rw [List.length_map, hlk]; omega) ?rest
          case text =>
            intro i o ho
            have hi : i < 18 := (Array.getElem?_eq_some_iff.1 ho).1
            rcases (show i = 0 ∨ i = 1 ∨ i = 2 ∨ i = 3 ∨ i = 4 ∨ i = 5 ∨ i = 6 ∨ i = 7 ∨ i = 8 ∨ i = 9 ∨ i = 10 ∨ i = 11 ∨ i = 12 ∨ i = 13 ∨ i = 14 ∨ i = 15 ∨ i = 16 ∨ i = 17 by omega) with rfl | rfl | rfl | rfl | rfl | rfl | rfl | rfl | rfl | rfl | rfl | rfl | rfl | rfl | rfl | rfl | rfl | rfl
            all_goals
              obtain rfl := Option.some.inj ho
              exact ⟨_, _, _, rfl, rfl, rfl, rfl, rfl, rfl⟩
          case rest =>
            intro a Wm ha1 ha2 ha3 hbm ho1 ho2 hap'
            obtain ⟨u, hu, ea⟩ : ∃ u : Nat → Value, (∀ t, Tm a t = u t) ∧ a = putL [42, 43, 44, 45, 46, 47, 48, 49, 50, 51, 52, 53, 54, 55, 56, 57] u _ := ⟨Tm a, fun _ => rfl, act_eq _ ha1 ha2 fun t ht => ha3 t (by simp at ht; omega)⟩
            rw [hu 46] at ho1 hap' ⊢
            rw [hu 55] at ho2 hap' ⊢
            rw [List.length_map] at ho2
            rw [hlk] at ho1 ho2
            have hB6 : w.heap.size + 1 + 1 + 1 < w.heap.size + 4 := by omega
            obtain ⟨q0, q1, q2⟩ := set2 ((hbm.cell (p := ⟨w.heap.size + 1 + 1 + 1, 0, none⟩) hB6).trans m0) ((hbm.cell (p := ⟨w.heap.size + 1 + 1 + 1, 1, none⟩) hB6).trans m1) ((hbm.cell (p := ⟨w.heap.size + 1 + 1 + 1, 2, none⟩) hB6).trans m2) (u 46) (u 55)
            have y1 : ((Wm.setCell ⟨w.heap.size + 1 + 1 + 1, 1, none⟩ (u 46)).setCell ⟨w.heap.size + 1 + 1 + 1, 2, none⟩ (u 55)).frozen? ⟨w.heap.size + 1 + 1 + 1, 1, none⟩ = false := by rw [World.frozen?_setCell, World.frozen?_setCell]; exact (hbm.frozen (p := ⟨w.heap.size + 1 + 1 + 1, 1, none⟩) hB6).trans n1
            have y2 : ((Wm.setCell ⟨w.heap.size + 1 + 1 + 1, 1, none⟩ (u 46)).setCell ⟨w.heap.size + 1 + 1 + 1, 2, none⟩ (u 55)).frozen? ⟨w.heap.size + 1 + 1 + 1, 2, none⟩ = false := by rw [World.frozen?_setCell, World.frozen?_setCell]; exact (hbm.frozen (p := ⟨w.heap.size + 1 + 1 + 1, 2, none⟩) hB6).trans n2
            have HO1 := Lib.hid (ownsRow_setCell_below (ownsRow_setCell_below ho1 (a := ⟨w.heap.size + 1 + 1 + 1, 1, none⟩) hB6 (u 46)) (a := ⟨w.heap.size + 1 + 1 + 1, 2, none⟩) hB6 (u 55))
            have HO2 := Lib.hid (ownsRow_setCell_below (ownsRow_setCell_below ho2 (a := ⟨w.heap.size + 1 + 1 + 1, 1, none⟩) hB6 (u 46)) (a := ⟨w.heap.size + 1 + 1 + 1, 2, none⟩) hB6 (u 55))
            have HBf := Lib.hid (((Hbw.out.trans (hbm.mono (show w.heap.size + 3 ≤ w.heap.size + 4 by omega))).setCell (p := ⟨w.heap.size + 1 + 1 + 1, 1, none⟩) (Nat.le_refl _) (u 46)).setCell (p := ⟨w.heap.size + 1 + 1 + 1, 2, none⟩) (Nat.le_refl _) (u 55))
            have Hap' := Lib.hid hap'
            obtain ⟨Wf, hWf⟩ : ∃ Wf, (Wm.setCell ⟨w.heap.size + 1 + 1 + 1, 1, none⟩ (u 46)).setCell ⟨w.heap.size + 1 + 1 + 1, 2, none⟩ (u 55) = Wf := ⟨_, rfl⟩
            rw [hWf] at q0 q1 q2 y1 y2 HO1 HO2 HBf ⊢
            subst ea
            simp only [putL, Act.put, List.setIfInBounds_toArray, List.set_cons_succ, List.set_cons_zero]
            clear hWf ho1 ho2 hu ha1 ha2 ha3 hbm hap'
            have htk : L.take (k + 1) = L.take (k) ++ [x] := by
              rw [List.take_add_one, getD_get (k := k) (by rw [Eln.out]; exact hlt), Ex.out]; rfl
            have Htk := Lib.hid htk
            clear htk
            go_wp2
            go_roundw
            case rel =>
              refine ⟨k + 1, u 46, u 55, hlt, by go_num, fun j hj => ?_, q0, q1, q2, y1, y2, by rw [Htk.out, List.map_append]; exact HO1.out, by rw [Htk.out, List.map_append, List.map_append]; exact HO2.out, Hap'.out, HBf.out⟩
              rcases Nat.lt_or_ge j (k) with hjk | hjk
              · exact Hok.out j hjk
              · obtain rfl : j = k := by omega
                exact Hgood.out
            case measure => simp [intOf]; omega
        · obtain ⟨m, rfl⟩ : ∃ m, k = m + 1 := ⟨k - 1, by omega⟩
          obtain ⟨gl', gl'o, cap3, hv3, _, cz⟩ := intsAt_cell Hgl.out (k := m) (by rw [Eln.out]; omega)
          obtain ⟨rfl, rfl⟩ : gl = gl' ∧ glo = gl'o := by injection hv3 with h1 h2 h3; injection h1 with h1; injection h1 with h1 h4; exact ⟨h1, h4⟩
          obtain ⟨z, ez⟩ : ∃ z, L.getD m 0 = z := ⟨_, rfl⟩
          rw [ez] at cz
          have Ez := Lib.hid ez
          have hmI : (m : Int) < ln := by omega
          clear ez hv3 hz
          by_cases hxz : x ≤ z
          · have Hbad := Lib.hid (cycleM_bad (k := m + 1) (by rw [Eln.out]; exact hlt) (show okAt s L (m + 1) = false by unfold okAt; rw [Ex.out, Nat.add_sub_cancel, Ez.out, Bool.and_eq_false_iff]; right; simp; exact hxz))
            go_wp2
            obtain ⟨x0, x1, x2⟩ := set3 r0Wo r1Wo r2Wo (.int .i64 pages) (.slice ad s.length acap) (.slice (some ⟨gn, gno, none⟩) s.length ncap)
            refine bodyPost_ret (v := .tuple #[.agg #[.int .i64 pages, .slice ad s.length acap, .slice (some ⟨gn, gno, none⟩) s.length ncap], .bool false]) (by simp [results, Tryd.results69, go_sem, x0, x1, x2]) rfl ⟨⟨_, rfl, ?_⟩, set3_below HBw.out (by omega)⟩
            rw [Hbad.out]
            exact ⟨_, _, _, _, _, _, _, _, rfl, rfl⟩
          · have Hgood := Lib.hid (show okAt s L (m + 1) = true by unfold okAt; rw [Ex.out, Nat.add_sub_cancel, Ez.out, Hany.out]; simp; omega)
            go_upto_region 8 with (fail)
            have hlk : (L.take (m + 1)).length = m + 1 := by rw [List.length_take, Eln.out]; omega
            refine cyc_region (w.heap.size + 4) (w.heap.size + 1 + 1 + 1) w.heap.size gn gno p ncap (.slice d1 (m + 1) e1) (.slice d2 (m + 1) e2) (L.take (m + 1)) ((L.take (m + 1)).map (nOf s)) s.length x (nOf s x) ?text rfl rfl rfl rfl rfl rfl m1 m2 l2Wo cy hps (by omega) (by omega) (by omega) (by omega) n1 n2 (by rw [hlk]; exact O1.out) (by rw [List.length_map, hlk]; exact O2.out) Hap.out (by rw [hlk]; omega) (by rw [List.length_map, hlk]; omega) ?rest
            case text =>
              intro i o ho
              have hi : i < 18 := (Array.getElem?_eq_some_iff.1 ho).1
              rcases (show i = 0 ∨ i = 1 ∨ i = 2 ∨ i = 3 ∨ i = 4 ∨ i = 5 ∨ i = 6 ∨ i = 7 ∨ i = 8 ∨ i = 9 ∨ i = 10 ∨ i = 11 ∨ i = 12 ∨ i = 13 ∨ i = 14 ∨ i = 15 ∨ i = 16 ∨ i = 17 by omega) with rfl | rfl | rfl | rfl | rfl | rfl | rfl | rfl | rfl | rfl | rfl | rfl | rfl | rfl | rfl | rfl | rfl | rfl
              all_goals
                obtain rfl := Option.some.inj ho
                exact ⟨_, _, _, rfl, rfl, rfl, rfl, rfl, rfl⟩
            case rest =>
              intro a Wm ha1 ha2 ha3 hbm ho1 ho2 hap'
              obtain ⟨u, hu, ea⟩ : ∃ u : Nat → Value, (∀ t, Tm a t = u t) ∧ a = putL [42, 43, 44, 45, 46, 47, 48, 49, 50, 51, 52, 53, 54, 55, 56, 57] u _ := ⟨Tm a, fun _ => rfl, act_eq _ ha1 ha2 fun t ht => ha3 t (by simp at ht; omega)⟩
              rw [hu 46] at ho1 hap' ⊢
              rw [hu 55] at ho2 hap' ⊢
              rw [List.length_map] at ho2
              rw [hlk] at ho1 ho2
              have hB6 : w.heap.size + 1 + 1 + 1 < w.heap.size + 4 := by omega
              obtain ⟨q0, q1, q2⟩ := set2 ((hbm.cell (p := ⟨w.heap.size + 1 + 1 + 1, 0, none⟩) hB6).trans m0) ((hbm.cell (p := ⟨w.heap.size + 1 + 1 + 1, 1, none⟩) hB6).trans m1) ((hbm.cell (p := ⟨w.heap.size + 1 + 1 + 1, 2, none⟩) hB6).trans m2) (u 46) (u 55)
              have y1 : ((Wm.setCell ⟨w.heap.size + 1 + 1 + 1, 1, none⟩ (u 46)).setCell ⟨w.heap.size + 1 + 1 + 1, 2, none⟩ (u 55)).frozen? ⟨w.heap.size + 1 + 1 + 1, 1, none⟩ = false := by rw [World.frozen?_setCell, World.frozen?_setCell]; exact (hbm.frozen (p := ⟨w.heap.size + 1 + 1 + 1, 1, none⟩) hB6).trans n1
              have y2 : ((Wm.setCell ⟨w.heap.size + 1 + 1 + 1, 1, none⟩ (u 46)).setCell ⟨w.heap.size + 1 + 1 + 1, 2, none⟩ (u 55)).frozen? ⟨w.heap.size + 1 + 1 + 1, 2, none⟩ = false := by rw [World.frozen?_setCell, World.frozen?_setCell]; exact (hbm.frozen (p := ⟨w.heap.size + 1 + 1 + 1, 2, none⟩) hB6).trans n2
              have HO1 := Lib.hid (ownsRow_setCell_below (ownsRow_setCell_below ho1 (a := ⟨w.heap.size + 1 + 1 + 1, 1, none⟩) hB6 (u 46)) (a := ⟨w.heap.size + 1 + 1 + 1, 2, none⟩) hB6 (u 55))
              have HO2 := Lib.hid (ownsRow_setCell_below (ownsRow_setCell_below ho2 (a := ⟨w.heap.size + 1 + 1 + 1, 1, none⟩) hB6 (u 46)) (a := ⟨w.heap.size + 1 + 1 + 1, 2, none⟩) hB6 (u 55))
              have HBf := Lib.hid (((Hbw.out.trans (hbm.mono (show w.heap.size + 3 ≤ w.heap.size + 4 by omega))).setCell (p := ⟨w.heap.size + 1 + 1 + 1, 1, none⟩) (Nat.le_refl _) (u 46)).setCell (p := ⟨w.heap.size + 1 + 1 + 1, 2, none⟩) (Nat.le_refl _) (u 55))
              have Hap' := Lib.hid hap'
              obtain ⟨Wf, hWf⟩ : ∃ Wf, (Wm.setCell ⟨w.heap.size + 1 + 1 + 1, 1, none⟩ (u 46)).setCell ⟨w.heap.size + 1 + 1 + 1, 2, none⟩ (u 55) = Wf := ⟨_, rfl⟩
              rw [hWf] at q0 q1 q2 y1 y2 HO1 HO2 HBf ⊢
              subst ea
              simp only [putL, Act.put, List.setIfInBounds_toArray, List.set_cons_succ, List.set_cons_zero]
              clear hWf ho1 ho2 hu ha1 ha2 ha3 hbm hap'
              have htk : L.take (m + 1 + 1) = L.take (m + 1) ++ [x] := by
                rw [List.take_add_one, getD_get (k := m + 1) (by rw [Eln.out]; exact hlt), Ex.out]; rfl
              have Htk := Lib.hid htk
              clear htk
              go_wp2
              go_roundw
              case rel =>
                refine ⟨m + 1 + 1, u 46, u 55, hlt, by go_num, fun j hj => ?_, q0, q1, q2, y1, y2, by rw [Htk.out, List.map_append]; exact HO1.out, by rw [Htk.out, List.map_append, List.map_append]; exact HO2.out, Hap'.out, HBf.out⟩
                rcases Nat.lt_or_ge j (m + 1) with hjk | hjk
                · exact Hok.out j hjk
                · obtain rfl : j = m + 1 := by omega
                  exact Hgood.out
              case measure => simp [intOf]; omega
      · have Hbad := Lib.hid (cycleM_bad (k := k) (by rw [Eln.out]; exact hlt) (show okAt s L k = false by unfold okAt; rw [Ex.out, index_none hno, Bool.false_and]))
        clear hno
        go_wp2
        obtain ⟨x0, x1, x2⟩ := set3 r0Wo r1Wo r2Wo (.int .i64 pages) (.slice ad s.length acap) (.slice nd s.length ncap)
        refine bodyPost_ret (v := .tuple #[.agg #[.int .i64 pages, .slice ad s.length acap, .slice nd s.length ncap], .bool false]) (by simp [results, Tryd.results69, go_sem, x0, x1, x2]) rfl ⟨⟨_, rfl, ?_⟩, set3_below HBw.out (by omega)⟩
        rw [Hbad.out]
        exact ⟨_, _, _, _, _, _, _, _, rfl, rfl⟩
    · obtain rfl : k = ln := by omega
      have Hyes := Lib.hid (cycleM_good (s := s) (L := L) (fun j hj => Hok.out j (by rw [Eln.out] at hj; exact hj)))
      have htl : L.take k = L := List.take_of_length_le (by rw [Eln.out]; exact Nat.le_refl _)
      have Htl := Lib.hid htl
      clear htl
      go_wp2
      obtain ⟨x0, x1, x2⟩ := set3 r0Wo r1Wo r2Wo (.int .i64 pages) (.slice d1 k e1) (.slice d2 k e2)
      refine bodyPost_ret (v := .tuple #[.agg #[.int .i64 pages, .slice d1 k e1, .slice d2 k e2], .bool true]) (by simp [results, Tryd.results69, go_sem, x0, x1, x2]) rfl ⟨⟨_, rfl, ?_⟩, set3_below HBw.out (by omega)⟩
      rw [Hyes.out]
      have hb2 : w.heap.size + 1 + 1 < w.heap.size + 4 := by omega
      have g1 := ownsRow_setCell_below (ownsRow_setCell_below (ownsRow_setCell_below O1.out (a := ⟨w.heap.size + 1 + 1, 0, none⟩) hb2 (.int .i64 pages)) (a := ⟨w.heap.size + 1 + 1, 1, none⟩) hb2 (.slice d1 k e1)) (a := ⟨w.heap.size + 1 + 1, 2, none⟩) hb2 (.slice d2 k e2)
      have g2 := ownsRow_setCell_below (ownsRow_setCell_below (ownsRow_setCell_below O2.out (a := ⟨w.heap.size + 1 + 1, 0, none⟩) hb2 (.int .i64 pages)) (a := ⟨w.heap.size + 1 + 1, 1, none⟩) hb2 (.slice d1 k e1)) (a := ⟨w.heap.size + 1 + 1, 2, none⟩) hb2 (.slice d2 k e2)
      rw [Htl.out] at g1 g2
      exact ⟨_, _, _, _, _, _, _, _, rfl, rfl, fun W' _ hkk => ⟨_, _, rfl, ints_from (n := k) (by simpa [Function.comp_def] using g1) (Nat.le_add_right _ 4) hkk, ints_from (n := k) (by simpa [Function.comp_def] using g2) (Nat.le_add_right _ 4) hkk⟩⟩
end Go.Proofs.YtomheapokfphiaaDoor
