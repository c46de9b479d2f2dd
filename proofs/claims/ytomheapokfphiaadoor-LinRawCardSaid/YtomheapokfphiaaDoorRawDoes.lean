/-
  The contract of live.does.
-/
import Derived.Test.YtomheapokfphiaaDoorRawCycle
namespace Go.Proofs.YtomheapokfphiaaDoor
open Go Go.RowKit Go.Shelf

theorem set3_block (W : World) {g h : Nat} (hne : h ≠ g) (x0 x1 x2 : Value) : (((W.setCell ⟨g, 0, none⟩ x0).setCell ⟨g, 1, none⟩ x1).setCell ⟨g, 2, none⟩ x2).heap[h]? = W.heap[h]? :=
  ((Below.heap_setCell _ ⟨g, 2, none⟩ _ h hne).trans (Below.heap_setCell _ ⟨g, 1, none⟩ _ h hne)).trans (Below.heap_setCell _ ⟨g, 0, none⟩ _ h hne)

/-- The same, where what lives lies in blocks that lay in an older world, or that are newer than the call. -/
def DoneAt2 (b1 b2 : Nat) (w : World) (pages : Int) (r : Option LiveP) (v : Value) : Prop :=
  ∃ (p : Int) (d1 : Option Addr) (n1 k1 : Nat) (d2 : Option Addr) (n2 k2 : Nat) (b : Bool), v = .tuple #[.agg #[.int .i64 p, .slice d1 n1 k1, .slice d2 n2 k2], .bool b] ∧ (match r with
    | none => b = false
    | some s => b = true ∧ ∀ W' : World, w.heap.size ≤ W'.heap.size → (∀ g, g < w.heap.size → (g < b1 ∨ b2 ≤ g) → W'.heap[g]? = w.heap[g]?) → LiveAt W' (.agg #[.int .i64 p, .slice d1 n1 k1, .slice d2 n2 k2]) pages s)
theorem ints_old {w w' : World} {v : Value} {L : List Int} (h : IntsAt w v L) (hs : w.heap.size ≤ w'.heap.size) (hk : ∀ g, g < w.heap.size → w'.heap[g]? = w.heap[g]?) : IntsAt w' v L :=
  h.kept ⟨hs, fun g _ hg _ => (hk g (Array.getElem?_eq_some_iff.1 hg).1).trans hg⟩

set_option maxHeartbeats 4000000 in
theorem does_any2 (w1 : World) (pages : Int) (hp0 : 1 ≤ pages) (hp1 : pages ≤ 4096) (s : LiveP) (hs : s.length ≤ 65536) (o : OpP) (ho : o.fits) (hL : 0 ≤ 0) (v : Value) (ld : Option Addr) (lc : Nat) (w : World) (h1 : LiveAt w1 v pages s) (h12 : Below w1.heap.size w1 w) (hl : IntsAt w (.slice ld o.L.length lc) o.L) (hT : Tab w) :
    Calls Tryd.prog 56 #[v, opVal o (.slice ld o.L.length lc)] w fun e w' => (∃ u, e = .returned u ∧ DoneAt2 w1.heap.size w.heap.size w' pages (doesM pages s o) u) ∧ Below w.heap.size w w' := by
  have h := h1.kept (CellsKept.of h12)
  have H12 := Lib.hid h12
  have Hal := Lib.hid (fun (W : World) (hb : Below w.heap.size w W) => alloc_any pages hp0 hp1 s hs o ho v ld o.L.length lc W (h.kept (CellsKept.of hb)) (hT.below hb))
  have Hcy := Lib.hid (fun (W : World) (hb : Below w.heap.size w W) => cycle_any pages s hs o hL v ld lc W (h.kept (CellsKept.of hb)) (hl.kept (CellsKept.of hb)))
  clear h h12
  obtain ⟨av, nv, rfl, ha, hn⟩ := h1
  have HA := Lib.hid ha
  have HN := Lib.hid hn
  unfold doesM
  unfold opVal at *
  obtain ⟨kd, sz, at_, cd, L, b, e⟩ := o
  simp only [] at *
  obtain ⟨ad, acap, rfl, _⟩ := ha
  obtain ⟨nd, ncap, rfl, _⟩ := hn
  simp only [List.length_map] at *
  obtain ⟨ln, eln⟩ : ∃ ln, L.length = ln := ⟨_, rfl⟩
  rw [eln] at Hal Hcy ⊢
  obtain ⟨W0, hW0, hs0, X0, X1, X2, hB0⟩ := three_boxes w #[.int .i64 pages, .slice ad s.length acap, .slice nd s.length ncap] #[.int .i64 kd, .int .i64 sz, .int .i64 at_, .int .i64 cd, .slice ld ln lc, .int .i64 b, .int .i64 e] #[.int .i64 0, .slice none 0 0, .slice none 0 0] 63 50 63
  have HB := Lib.hid hB0
  have HX2 := Lib.hid X2
  have HW0 := Lib.hid hW0
  have hw2 : w.heap.size + 1 + 1 < W0.heap.size := by omega
  have q0W0 := X0
  have q1W0 := X1
  have q2W0 := X2
  have l0W0 : W0.cell? ⟨w.heap.size, 0, none⟩ = some (.int .i64 pages) := blk_cell q0W0 0
  have l1W0 : W0.cell? ⟨w.heap.size, 1, none⟩ = some (.slice ad s.length acap) := blk_cell q0W0 1
  have l2W0 : W0.cell? ⟨w.heap.size, 2, none⟩ = some (.slice nd s.length ncap) := blk_cell q0W0 2
  have o0W0 : W0.cell? ⟨w.heap.size + 1, 0, none⟩ = some (.int .i64 kd) := blk_cell q1W0 0
  have o1W0 : W0.cell? ⟨w.heap.size + 1, 1, none⟩ = some (.int .i64 sz) := blk_cell q1W0 1
  have o2W0 : W0.cell? ⟨w.heap.size + 1, 2, none⟩ = some (.int .i64 at_) := blk_cell q1W0 2
  have o3W0 : W0.cell? ⟨w.heap.size + 1, 3, none⟩ = some (.int .i64 cd) := blk_cell q1W0 3
  have o4W0 : W0.cell? ⟨w.heap.size + 1, 4, none⟩ = some (.slice ld ln lc) := blk_cell q1W0 4
  have o5W0 : W0.cell? ⟨w.heap.size + 1, 5, none⟩ = some (.int .i64 b) := blk_cell q1W0 5
  have o6W0 : W0.cell? ⟨w.heap.size + 1, 6, none⟩ = some (.int .i64 e) := blk_cell q1W0 6
  have r0W0 : W0.cell? ⟨w.heap.size + 1 + 1, 0, none⟩ = some (.int .i64 0) := blk_cell q2W0 0
  have r1W0 : W0.cell? ⟨w.heap.size + 1 + 1, 1, none⟩ = some (.slice none 0 0) := blk_cell q2W0 1
  have r2W0 : W0.cell? ⟨w.heap.size + 1 + 1, 2, none⟩ = some (.slice none 0 0) := blk_cell q2W0 2
  have z0W0 : W0.frozen? ⟨w.heap.size + 1 + 1, 0, none⟩ = false := blk_frozen q2W0 0
  have z1W0 : W0.frozen? ⟨w.heap.size + 1 + 1, 1, none⟩ = false := blk_frozen q2W0 1
  have z2W0 : W0.frozen? ⟨w.heap.size + 1 + 1, 2, none⟩ = false := blk_frozen q2W0 2
  clear hW0 hB0 hl eln hL ho X0 X1 X2 q0W0 q1W0 q2W0 hs0
  by_cases k1 : kd = 1
  · subst k1
    by_cases k2 : cd = 0
    · subst k2
      rw [if_pos ⟨rfl, rfl⟩]
      go_enter Tryd.func56, Tryd.ntmps56
      go_wp2_with fail
      rw [HW0.out]
      refine (Hal.out W0 HB.out).mono ?_
      rintro e' w5 ⟨⟨u, rfl, p, d1, n1, k1', d2, n2, k2', bb, rfl, hm⟩, hb1⟩
      have HM := Lib.hid hm
      have HB1 := Lib.hid (HB.out.trans (hb1.mono HB.out.size))
      have a0 := (hb1.cell (p := ⟨w.heap.size + 1 + 1, 0, none⟩) hw2).trans r0W0
      have a1 := (hb1.cell (p := ⟨w.heap.size + 1 + 1, 1, none⟩) hw2).trans r1W0
      have a2 := (hb1.cell (p := ⟨w.heap.size + 1 + 1, 2, none⟩) hw2).trans r2W0
      have b0 := (hb1.frozen (p := ⟨w.heap.size + 1 + 1, 0, none⟩) hw2).trans z0W0
      have b1 := (hb1.frozen (p := ⟨w.heap.size + 1 + 1, 1, none⟩) hw2).trans z1W0
      have b2 := (hb1.frozen (p := ⟨w.heap.size + 1 + 1, 2, none⟩) hw2).trans z2W0
      clear hm hb1
      go_wp2
      obtain ⟨x0, x1, x2⟩ := set3 a0 a1 a2 (.int .i64 p) (.slice d1 n1 k1') (.slice d2 n2 k2')
      refine bodyPost_ret (v := .tuple #[.agg #[.int .i64 p, .slice d1 n1 k1', .slice d2 n2 k2'], .bool bb]) (by simp [results, Tryd.results56, go_sem, x0, x1, x2]) rfl ⟨⟨_, rfl, p, d1, n1, k1', d2, n2, k2', bb, rfl, ?_⟩, set3_below HB1.out (by omega)⟩
      have hm := HM.out
      revert hm
      cases allocM pages s _ with
      | none => exact fun hm => hm
      | some s' =>
        rintro ⟨h1, h2⟩
        refine ⟨h1, fun W' hs' hk' => h2 _ (Nat.le_trans (by simp) hs') fun g hg hg2 => ?_⟩
        rw [hk' g (by simpa using hg2) (.inr (Nat.le_trans HB.out.size hg)), set3_block _ (by omega)]
    · have j2 : (cd == 0) = false := by simpa using k2
      rw [if_neg (fun h => k2 h.2), if_neg (fun h => by have := h.1; omega)]
      by_cases k3 : cd = 3
      · subst k3
        rw [if_pos (.inl ⟨rfl, rfl⟩)]
        go_enter Tryd.func56, Tryd.ntmps56
        go_wp2_with fail
        rw [HW0.out]
        go_region
        all_goals
          go_wp2
          obtain ⟨x0, x1, x2⟩ := set3 r0W0 r1W0 r2W0 (.int .i64 pages) (.slice ad s.length acap) (.slice nd s.length ncap)
          have hbf := set3_below (x0 := .int .i64 pages) (x1 := .slice ad s.length acap) (x2 := .slice nd s.length ncap) HB.out (show w.heap.size ≤ w.heap.size + 1 + 1 by omega)
          obtain ⟨Wf, hWf⟩ : ∃ Wf, ((W0.setCell ⟨w.heap.size + 1 + 1, 0, none⟩ (.int .i64 pages)).setCell ⟨w.heap.size + 1 + 1, 1, none⟩ (.slice ad s.length acap)).setCell ⟨w.heap.size + 1 + 1, 2, none⟩ (.slice nd s.length ncap) = Wf := ⟨_, rfl⟩
          rw [hWf] at x0 x1 x2 hbf ⊢
          have x0' : Wf.drew.cell? ⟨w.heap.size + 1 + 1, 0, none⟩ = _ := x0
          have x1' : Wf.drew.cell? ⟨w.heap.size + 1 + 1, 1, none⟩ = _ := x1
          have x2' : Wf.drew.cell? ⟨w.heap.size + 1 + 1, 2, none⟩ = _ := x2
          have hlive : ∀ W' : World, Wf.drew.heap.size ≤ W'.heap.size → (∀ g, g < Wf.drew.heap.size → (g < w1.heap.size ∨ w.heap.size ≤ g) → W'.heap[g]? = Wf.drew.heap[g]?) → LiveAt W' (.agg #[.int .i64 pages, .slice ad s.length acap, .slice nd s.length ncap]) pages s := fun W' hs' hk' => by
            have h12 := H12.out
            have hsz : w1.heap.size ≤ W'.heap.size := Nat.le_trans h12.size (Nat.le_trans hbf.size hs')
            have hkk : ∀ g, g < w1.heap.size → W'.heap[g]? = w1.heap[g]? := fun g hg => (hk' g (Nat.lt_of_lt_of_le hg (Nat.le_trans h12.size hbf.size)) (.inl hg)).trans ((hbf.block g (Nat.lt_of_lt_of_le hg h12.size)).trans (h12.block g hg))
            exact ⟨_, _, rfl, ints_old HA.out hsz hkk, ints_old HN.out hsz hkk⟩
          exact bodyPost_ret (v := .tuple #[.agg #[.int .i64 pages, .slice ad s.length acap, .slice nd s.length ncap], .bool true]) (by simp [results, Tryd.results56, go_sem, x0', x1', x2']) rfl ⟨⟨_, rfl, _, _, _, _, _, _, _, _, rfl, rfl, hlive⟩, hbf.drew⟩
      · have j3 : (cd == 3) = false := by simpa using k3
        rw [if_neg (by omega)]
        go_enter Tryd.func56, Tryd.ntmps56
        go_wp2_with fail
        rw [HW0.out]
        go_region
        all_goals
          go_wp2
          obtain ⟨x0, x1, x2⟩ := set3 r0W0 r1W0 r2W0 (.int .i64 pages) (.slice ad s.length acap) (.slice nd s.length ncap)
          have hbf := set3_below (x0 := .int .i64 pages) (x1 := .slice ad s.length acap) (x2 := .slice nd s.length ncap) HB.out (show w.heap.size ≤ w.heap.size + 1 + 1 by omega)
          obtain ⟨Wf, hWf⟩ : ∃ Wf, ((W0.setCell ⟨w.heap.size + 1 + 1, 0, none⟩ (.int .i64 pages)).setCell ⟨w.heap.size + 1 + 1, 1, none⟩ (.slice ad s.length acap)).setCell ⟨w.heap.size + 1 + 1, 2, none⟩ (.slice nd s.length ncap) = Wf := ⟨_, rfl⟩
          rw [hWf] at x0 x1 x2 hbf ⊢
          have x0' : Wf.drew.cell? ⟨w.heap.size + 1 + 1, 0, none⟩ = _ := x0
          have x1' : Wf.drew.cell? ⟨w.heap.size + 1 + 1, 1, none⟩ = _ := x1
          have x2' : Wf.drew.cell? ⟨w.heap.size + 1 + 1, 2, none⟩ = _ := x2
          exact bodyPost_ret (v := .tuple #[.agg #[.int .i64 pages, .slice ad s.length acap, .slice nd s.length ncap], .bool false]) (by simp [results, Tryd.results56, go_sem, x0', x1', x2']) rfl ⟨⟨_, rfl, _, _, _, _, _, _, _, _, rfl, rfl⟩, hbf.drew⟩
  · have j1 : (kd == 1) = false := by simpa using k1
    rw [if_neg (fun h => k1 h.1)]
    by_cases k2 : kd = 2
    · subst k2
      by_cases k3 : cd = 0
      · subst k3
        rw [if_pos ⟨rfl, rfl⟩]
        go_enter Tryd.func56, Tryd.ntmps56
        go_wp2_with fail
        rw [HW0.out]
        refine (Hcy.out W0 HB.out).mono ?_
        rintro e' w5 ⟨⟨u, rfl, p, d1, n1, k1', d2, n2, k2', bb, rfl, hm⟩, hb1⟩
        have HM := Lib.hid hm
        have HB1 := Lib.hid (HB.out.trans (hb1.mono HB.out.size))
        have a0 := (hb1.cell (p := ⟨w.heap.size + 1 + 1, 0, none⟩) hw2).trans r0W0
        have a1 := (hb1.cell (p := ⟨w.heap.size + 1 + 1, 1, none⟩) hw2).trans r1W0
        have a2 := (hb1.cell (p := ⟨w.heap.size + 1 + 1, 2, none⟩) hw2).trans r2W0
        have b0 := (hb1.frozen (p := ⟨w.heap.size + 1 + 1, 0, none⟩) hw2).trans z0W0
        have b1 := (hb1.frozen (p := ⟨w.heap.size + 1 + 1, 1, none⟩) hw2).trans z1W0
        have b2 := (hb1.frozen (p := ⟨w.heap.size + 1 + 1, 2, none⟩) hw2).trans z2W0
        clear hm hb1
        go_wp2
        obtain ⟨x0, x1, x2⟩ := set3 a0 a1 a2 (.int .i64 p) (.slice d1 n1 k1') (.slice d2 n2 k2')
        refine bodyPost_ret (v := .tuple #[.agg #[.int .i64 p, .slice d1 n1 k1', .slice d2 n2 k2'], .bool bb]) (by simp [results, Tryd.results56, go_sem, x0, x1, x2]) rfl ⟨⟨_, rfl, p, d1, n1, k1', d2, n2, k2', bb, rfl, ?_⟩, set3_below HB1.out (by omega)⟩
        have hm := HM.out
        revert hm
        cases cycleM s L with
        | none => exact fun hm => hm
        | some s' =>
          rintro ⟨h1, h2⟩
          refine ⟨h1, fun W' hs' hk' => h2 _ (Nat.le_trans (by simp) hs') fun g hg hg2 => ?_⟩
          rw [hk' g (by simpa using hg2) (.inr (Nat.le_trans HB.out.size hg)), set3_block _ (by omega)]
      · have j3 : (cd == 0) = false := by simpa using k3
        rw [if_neg (fun h => k3 h.2)]
        by_cases k4 : cd = 7
        · subst k4
          rw [if_pos (.inr ⟨rfl, rfl⟩)]
          go_enter Tryd.func56, Tryd.ntmps56
          go_wp2_with fail
          rw [HW0.out]
          go_region
          all_goals
            go_wp2
            obtain ⟨x0, x1, x2⟩ := set3 r0W0 r1W0 r2W0 (.int .i64 pages) (.slice ad s.length acap) (.slice nd s.length ncap)
            have hbf := set3_below (x0 := .int .i64 pages) (x1 := .slice ad s.length acap) (x2 := .slice nd s.length ncap) HB.out (show w.heap.size ≤ w.heap.size + 1 + 1 by omega)
            obtain ⟨Wf, hWf⟩ : ∃ Wf, ((W0.setCell ⟨w.heap.size + 1 + 1, 0, none⟩ (.int .i64 pages)).setCell ⟨w.heap.size + 1 + 1, 1, none⟩ (.slice ad s.length acap)).setCell ⟨w.heap.size + 1 + 1, 2, none⟩ (.slice nd s.length ncap) = Wf := ⟨_, rfl⟩
            rw [hWf] at x0 x1 x2 hbf ⊢
            have x0' : Wf.drew.cell? ⟨w.heap.size + 1 + 1, 0, none⟩ = _ := x0
            have x1' : Wf.drew.cell? ⟨w.heap.size + 1 + 1, 1, none⟩ = _ := x1
            have x2' : Wf.drew.cell? ⟨w.heap.size + 1 + 1, 2, none⟩ = _ := x2
            have hlive : ∀ W' : World, Wf.drew.heap.size ≤ W'.heap.size → (∀ g, g < Wf.drew.heap.size → (g < w1.heap.size ∨ w.heap.size ≤ g) → W'.heap[g]? = Wf.drew.heap[g]?) → LiveAt W' (.agg #[.int .i64 pages, .slice ad s.length acap, .slice nd s.length ncap]) pages s := fun W' hs' hk' => by
              have h12 := H12.out
              have hsz : w1.heap.size ≤ W'.heap.size := Nat.le_trans h12.size (Nat.le_trans hbf.size hs')
              have hkk : ∀ g, g < w1.heap.size → W'.heap[g]? = w1.heap[g]? := fun g hg => (hk' g (Nat.lt_of_lt_of_le hg (Nat.le_trans h12.size hbf.size)) (.inl hg)).trans ((hbf.block g (Nat.lt_of_lt_of_le hg h12.size)).trans (h12.block g hg))
              exact ⟨_, _, rfl, ints_old HA.out hsz hkk, ints_old HN.out hsz hkk⟩
            exact bodyPost_ret (v := .tuple #[.agg #[.int .i64 pages, .slice ad s.length acap, .slice nd s.length ncap], .bool true]) (by simp [results, Tryd.results56, go_sem, x0', x1', x2']) rfl ⟨⟨_, rfl, _, _, _, _, _, _, _, _, rfl, rfl, hlive⟩, hbf.drew⟩
        · have j4 : (cd == 7) = false := by simpa using k4
          rw [if_neg (by omega)]
          go_enter Tryd.func56, Tryd.ntmps56
          go_wp2_with fail
          rw [HW0.out]
          go_region
          all_goals
            go_wp2
            obtain ⟨x0, x1, x2⟩ := set3 r0W0 r1W0 r2W0 (.int .i64 pages) (.slice ad s.length acap) (.slice nd s.length ncap)
            have hbf := set3_below (x0 := .int .i64 pages) (x1 := .slice ad s.length acap) (x2 := .slice nd s.length ncap) HB.out (show w.heap.size ≤ w.heap.size + 1 + 1 by omega)
            obtain ⟨Wf, hWf⟩ : ∃ Wf, ((W0.setCell ⟨w.heap.size + 1 + 1, 0, none⟩ (.int .i64 pages)).setCell ⟨w.heap.size + 1 + 1, 1, none⟩ (.slice ad s.length acap)).setCell ⟨w.heap.size + 1 + 1, 2, none⟩ (.slice nd s.length ncap) = Wf := ⟨_, rfl⟩
            rw [hWf] at x0 x1 x2 hbf ⊢
            have x0' : Wf.drew.cell? ⟨w.heap.size + 1 + 1, 0, none⟩ = _ := x0
            have x1' : Wf.drew.cell? ⟨w.heap.size + 1 + 1, 1, none⟩ = _ := x1
            have x2' : Wf.drew.cell? ⟨w.heap.size + 1 + 1, 2, none⟩ = _ := x2
            exact bodyPost_ret (v := .tuple #[.agg #[.int .i64 pages, .slice ad s.length acap, .slice nd s.length ncap], .bool false]) (by simp [results, Tryd.results56, go_sem, x0', x1', x2']) rfl ⟨⟨_, rfl, _, _, _, _, _, _, _, _, rfl, rfl⟩, hbf.drew⟩
    · have j2 : (kd == 2) = false := by simpa using k2
      rw [if_neg (fun h => k2 h.1), if_neg (by omega)]
      go_enter Tryd.func56, Tryd.ntmps56
      go_wp2_with fail
      rw [HW0.out]
      go_region
      all_goals
        go_wp2
        obtain ⟨x0, x1, x2⟩ := set3 r0W0 r1W0 r2W0 (.int .i64 pages) (.slice ad s.length acap) (.slice nd s.length ncap)
        have hbf := set3_below (x0 := .int .i64 pages) (x1 := .slice ad s.length acap) (x2 := .slice nd s.length ncap) HB.out (show w.heap.size ≤ w.heap.size + 1 + 1 by omega)
        obtain ⟨Wf, hWf⟩ : ∃ Wf, ((W0.setCell ⟨w.heap.size + 1 + 1, 0, none⟩ (.int .i64 pages)).setCell ⟨w.heap.size + 1 + 1, 1, none⟩ (.slice ad s.length acap)).setCell ⟨w.heap.size + 1 + 1, 2, none⟩ (.slice nd s.length ncap) = Wf := ⟨_, rfl⟩
        rw [hWf] at x0 x1 x2 hbf ⊢
        have x0' : Wf.drew.cell? ⟨w.heap.size + 1 + 1, 0, none⟩ = _ := x0
        have x1' : Wf.drew.cell? ⟨w.heap.size + 1 + 1, 1, none⟩ = _ := x1
        have x2' : Wf.drew.cell? ⟨w.heap.size + 1 + 1, 2, none⟩ = _ := x2
        exact bodyPost_ret (v := .tuple #[.agg #[.int .i64 pages, .slice ad s.length acap, .slice nd s.length ncap], .bool false]) (by simp [results, Tryd.results56, go_sem, x0', x1', x2']) rfl ⟨⟨_, rfl, _, _, _, _, _, _, _, _, rfl, rfl⟩, hbf.drew⟩

theorem does_any (pages : Int) (hp0 : 1 ≤ pages) (hp1 : pages ≤ 4096) (s : LiveP) (hs : s.length ≤ 65536) (o : OpP) (ho : o.fits) (hL : 0 ≤ 0) (v : Value) (ld : Option Addr) (lc : Nat) (w : World) (h : LiveAt w v pages s) (hl : IntsAt w (.slice ld o.L.length lc) o.L) (hT : Tab w) :
    Calls Tryd.prog 56 #[v, opVal o (.slice ld o.L.length lc)] w fun e w' => (∃ u, e = .returned u ∧ DoneAt w' pages (doesM pages s o) u) ∧ Below w.heap.size w w' := by
  refine (does_any2 w pages hp0 hp1 s hs o ho hL v ld lc w h (Below.refl _ _) hl hT).mono ?_
  rintro e w' ⟨⟨u, rfl, p, d1, n1, k1, d2, n2, k2, b, rfl, hm⟩, hb⟩
  refine ⟨⟨_, rfl, p, d1, n1, k1, d2, n2, k2, b, rfl, ?_⟩, hb⟩
  revert hm
  cases doesM pages s o with
  | none => exact fun h => h
  | some s' => exact fun h => ⟨h.1, h.2 _ (Nat.le_refl _) fun _ _ _ => rfl⟩
end Go.Proofs.YtomheapokfphiaaDoor
