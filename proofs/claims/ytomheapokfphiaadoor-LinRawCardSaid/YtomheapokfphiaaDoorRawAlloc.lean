/-
  The contract of live.alloc.
-/
import Derived.Test.YtomheapokfphiaaDoorRawAllocRegion
namespace Go.Proofs.YtomheapokfphiaaDoor
open Go Go.RowKit Go.Shelf

/-- Whether a call that was tried was accepted, and what lives then. -/
def DoneAt (w : World) (pages : Int) (r : Option LiveP) (v : Value) : Prop :=
  ∃ (p : Int) (d1 : Option Addr) (n1 k1 : Nat) (d2 : Option Addr) (n2 k2 : Nat) (b : Bool), v = .tuple #[.agg #[.int .i64 p, .slice d1 n1 k1, .slice d2 n2 k2], .bool b] ∧ (match r with
    | none => b = false
    | some s => b = true ∧ LiveAt w (.agg #[.int .i64 p, .slice d1 n1 k1, .slice d2 n2 k2]) pages s)

/-- The same, where what lives lies in blocks from 'base' on alone. -/
def DoneFrom (base : Nat) (w : World) (pages : Int) (r : Option LiveP) (v : Value) : Prop :=
  ∃ (p : Int) (d1 : Option Addr) (n1 k1 : Nat) (d2 : Option Addr) (n2 k2 : Nat) (b : Bool), v = .tuple #[.agg #[.int .i64 p, .slice d1 n1 k1, .slice d2 n2 k2], .bool b] ∧ (match r with
    | none => b = false
    | some s => b = true ∧ ∀ W' : World, w.heap.size ≤ W'.heap.size → (∀ g, base ≤ g → g < w.heap.size → W'.heap[g]? = w.heap[g]?) → LiveAt W' (.agg #[.int .i64 p, .slice d1 n1 k1, .slice d2 n2 k2]) pages s)
theorem ints_from {w W' : World} {base b n : Nat} {v : Value} {L : List Int} (h : w.ownsRow b 3 1 v n (L.map iV)) (hb : base ≤ b) (hk : ∀ g, base ≤ g → g < w.heap.size → W'.heap[g]? = w.heap[g]?) : IntsAt W' v L :=
  ints_of_owns (own_kept h fun g hg => hk g (Nat.le_trans hb (own_lt h hg).2) (own_lt h hg).1)

theorem allocM_bad {pages : Int} {s : LiveP} {o : OpP} (h : noneOp pages o = true) : allocM pages s o = none := if_pos h
theorem allocM_not {pages : Int} {s : LiveP} {o : OpP} {k : Nat} (hk : k < s.length) (h : apB o.at_ (bytesOf o.size) ((s.map (·.1)).getD k 0) ((s.map (·.2)).getD k 0) = false) : allocM pages s o = none := by
  unfold allocM
  split
  · rfl
  · rw [if_neg]
    intro ha
    rw [List.all_eq_true] at ha
    have := ha s[k] (List.getElem_mem hk)
    simp [List.getD_eq_getElem?_getD, hk] at h
    rw [h] at this
    cases this
theorem allocM_yes {pages : Int} {s : LiveP} {o : OpP} (h : noneOp pages o = false) (ha : ∀ k, k < s.length → apB o.at_ (bytesOf o.size) ((s.map (·.1)).getD k 0) ((s.map (·.2)).getD k 0) = true) : allocM pages s o = some (s ++ [(o.at_, bytesOf o.size)]) := by
  unfold allocM
  rw [if_neg (by rw [h]; exact Bool.false_ne_true), if_pos]
  rw [List.all_eq_true]
  intro q hq
  obtain ⟨k, hk, rfl⟩ := List.getElem_of_mem hq
  have := ha k hk
  simpa [List.getD_eq_getElem?_getD, hk] using this

theorem blk_cell {w : World} {g : Nat} {c : Array Value} {t : TypeId} (h : w.heap[g]? = some (.cells c t (0, 0))) (j : Nat) : w.cell? ⟨g, j, none⟩ = c[j]? := by simp [World.cell?, h]
theorem blk_frozen {w : World} {g : Nat} {c : Array Value} {t : TypeId} (h : w.heap[g]? = some (.cells c t (0, 0))) (j : Nat) : w.frozen? ⟨g, j, none⟩ = false := by simp [World.frozen?, h]
theorem three_boxes (w : World) (A B C : Array Value) (a b c : TypeId) : ∃ W0, ((w.alloc (.cells A a)).alloc (.cells B b)).alloc (.cells C c) = W0 ∧ W0.heap.size = w.heap.size + 3 ∧ W0.heap[w.heap.size]? = some (.cells A a (0, 0)) ∧ W0.heap[w.heap.size + 1]? = some (.cells B b (0, 0)) ∧ W0.heap[w.heap.size + 1 + 1]? = some (.cells C c (0, 0)) ∧ Below w.heap.size w W0 := by
  refine ⟨_, rfl, by simp, ?_, ?_, ?_, ((new_below _).alloc (by simp) _).alloc (by simp; omega) _⟩
  · exact ((Below.heap_alloc _ _ _ (by simp; omega)).trans (Below.heap_alloc _ _ _ (by simp))).trans (World.alloc_heap_new w _)
  · have := World.alloc_heap_new (w.alloc (.cells A a)) (.cells B b)
    rw [World.size_alloc] at this
    exact (Below.heap_alloc _ _ _ (by simp)).trans this
  · have := World.alloc_heap_new ((w.alloc (.cells A a)).alloc (.cells B b)) (.cells C c)
    rw [World.size_alloc, World.size_alloc] at this
    exact this

theorem quiet_left {P : Program} {f : FuncId} {args : Array Value} {w : World} {n : Nat} {v : Value}
    (h : Calls P f args (w.drewN n) fun e w' => e = .returned v ∧ w.drewN n = w') : Calls P f args (w.drewN n) fun e w'' => e = .returned v ∧ ∃ m, w'' = w.drewN m :=
  h.mono fun _ _ ⟨he, hm⟩ => ⟨he, n, hm.symm⟩
theorem set3 {W : World} {g : Nat} {y0 y1 y2 : Value} (h0 : W.cell? ⟨g, 0, none⟩ = some y0) (h1 : W.cell? ⟨g, 1, none⟩ = some y1) (h2 : W.cell? ⟨g, 2, none⟩ = some y2) (x0 x1 x2 : Value) :
    (((W.setCell ⟨g, 0, none⟩ x0).setCell ⟨g, 1, none⟩ x1).setCell ⟨g, 2, none⟩ x2).cell? ⟨g, 0, none⟩ = some x0 ∧ (((W.setCell ⟨g, 0, none⟩ x0).setCell ⟨g, 1, none⟩ x1).setCell ⟨g, 2, none⟩ x2).cell? ⟨g, 1, none⟩ = some x1 ∧ (((W.setCell ⟨g, 0, none⟩ x0).setCell ⟨g, 1, none⟩ x1).setCell ⟨g, 2, none⟩ x2).cell? ⟨g, 2, none⟩ = some x2 := by
  have n01 : (⟨g, 0, none⟩ : Addr) ≠ ⟨g, 1, none⟩ := by simp
  have n02 : (⟨g, 0, none⟩ : Addr) ≠ ⟨g, 2, none⟩ := by simp
  have n12 : (⟨g, 1, none⟩ : Addr) ≠ ⟨g, 2, none⟩ := by simp
  refine ⟨?_, ?_, ?_⟩
  · rw [World.cell?_setCell_other _ _ _ _ n02.symm, World.cell?_setCell_other _ _ _ _ n01.symm]
    exact World.cell?_setCell_same _ _ _ h0
  · rw [World.cell?_setCell_other _ _ _ _ n12.symm]
    exact World.cell?_setCell_same _ _ _ ((World.cell?_setCell_other _ _ _ _ n01).trans h1)
  · exact World.cell?_setCell_same _ _ _ ((World.cell?_setCell_other _ _ _ _ n12).trans ((World.cell?_setCell_other _ _ _ _ n02).trans h2))
theorem set2 {W : World} {g : Nat} {y0 y1 y2 : Value} (h0 : W.cell? ⟨g, 0, none⟩ = some y0) (h1 : W.cell? ⟨g, 1, none⟩ = some y1) (h2 : W.cell? ⟨g, 2, none⟩ = some y2) (x1 x2 : Value) :
    ((W.setCell ⟨g, 1, none⟩ x1).setCell ⟨g, 2, none⟩ x2).cell? ⟨g, 0, none⟩ = some y0 ∧ ((W.setCell ⟨g, 1, none⟩ x1).setCell ⟨g, 2, none⟩ x2).cell? ⟨g, 1, none⟩ = some x1 ∧ ((W.setCell ⟨g, 1, none⟩ x1).setCell ⟨g, 2, none⟩ x2).cell? ⟨g, 2, none⟩ = some x2 := by
  have n10 : (⟨g, 1, none⟩ : Addr) ≠ ⟨g, 0, none⟩ := by simp
  have n20 : (⟨g, 2, none⟩ : Addr) ≠ ⟨g, 0, none⟩ := by simp
  have n21 : (⟨g, 2, none⟩ : Addr) ≠ ⟨g, 1, none⟩ := by simp
  refine ⟨?_, ?_, ?_⟩
  · rw [World.cell?_setCell_other _ _ _ _ n20, World.cell?_setCell_other _ _ _ _ n10]; exact h0
  · rw [World.cell?_setCell_other _ _ _ _ n21]; exact World.cell?_setCell_same _ _ _ h1
  · exact World.cell?_setCell_same _ _ _ ((World.cell?_setCell_other _ _ _ _ n21.symm).trans h2)
theorem set2_other (W : World) {g h j : Nat} (hne : g ≠ h) (x1 x2 : Value) :
    ((W.setCell ⟨g, 1, none⟩ x1).setCell ⟨g, 2, none⟩ x2).cell? ⟨h, j, none⟩ = W.cell? ⟨h, j, none⟩ ∧ ((W.setCell ⟨g, 1, none⟩ x1).setCell ⟨g, 2, none⟩ x2).frozen? ⟨h, j, none⟩ = W.frozen? ⟨h, j, none⟩ := by
  refine ⟨?_, by rw [World.frozen?_setCell, World.frozen?_setCell]⟩
  rw [World.cell?_setCell_other _ _ _ _ (show (⟨g, 2, none⟩ : Addr) ≠ ⟨h, j, none⟩ from fun e => hne (by injection e)), World.cell?_setCell_other _ _ _ _ (show (⟨g, 1, none⟩ : Addr) ≠ ⟨h, j, none⟩ from fun e => hne (by injection e))]
theorem set3_below {w W : World} {g : Nat} (h : Below w.heap.size w W) (hg : w.heap.size ≤ g) {x0 x1 x2 : Value} : Below w.heap.size w (((W.setCell ⟨g, 0, none⟩ x0).setCell ⟨g, 1, none⟩ x1).setCell ⟨g, 2, none⟩ x2) :=
  ((h.setCell (p := ⟨g, 0, none⟩) hg _).setCell (p := ⟨g, 1, none⟩) hg _).setCell (p := ⟨g, 2, none⟩) hg _

set_option maxHeartbeats 4000000 in
theorem alloc_any (pages : Int) (hp0 : 1 ≤ pages) (hp1 : pages ≤ 4096) (s : LiveP) (hs : s.length ≤ 65536) (o : OpP) (ho : o.fits) (v : Value) (ld : Option Addr) (ln lc : Nat) (w : World) (h : LiveAt w v pages s) (hT : Tab w) :
    Calls Tryd.prog 68 #[v, opVal o (.slice ld ln lc)] w fun e w' => (∃ u, e = .returned u ∧ DoneFrom w.heap.size w' pages (allocM pages s o) u) ∧ Below w.heap.size w w' := by
  obtain ⟨av, nv, rfl, ha, hn⟩ := h
  have HA := Lib.hid ha
  have HN := Lib.hid hn
  obtain ⟨r, hr⟩ := cls_ex o.size
  have hof := Lib.hid (fun (W : World) (hb : Below w.heap.size w W) => of_any o.size r hr ho.2.1.2 W (hT.below hb))
  have hby := Lib.hid (fun (W : World) (hb : Below w.heap.size w W) => bytes_any r.1 r.2.1 W (hT.below hb))
  have hcls := bytesOf_cls hr
  have hbd := bytesOf_bd o.size
  have hat0 := ho.2.2.1
  unfold opVal
  obtain ⟨kd, sz, at_, cd, L, b, e⟩ := o
  simp only [] at *
  obtain ⟨r1, r2, r3⟩ := r
  simp only [] at *
  obtain ⟨ad, acap, rfl, _⟩ := ha
  obtain ⟨nd, ncap, rfl, _⟩ := hn
  simp only [List.length_map] at *
  obtain ⟨W0, hW0, hs0, X0, X1, X2, hB0⟩ := three_boxes w #[.int .i64 pages, .slice ad s.length acap, .slice nd s.length ncap] #[.int .i64 kd, .int .i64 sz, .int .i64 at_, .int .i64 cd, .slice ld ln lc, .int .i64 b, .int .i64 e] #[.int .i64 0, .slice none 0 0, .slice none 0 0] 63 50 63
  have HB := Lib.hid hB0
  have HX0 := Lib.hid X0
  have HX1 := Lib.hid X1
  have HX2 := Lib.hid X2
  have HW0 := Lib.hid hW0
  have hw0 : w.heap.size < W0.heap.size := by omega
  have hw1 : w.heap.size + 1 < W0.heap.size := by omega
  have hw2 : w.heap.size + 1 + 1 < W0.heap.size := by omega
  obtain ⟨n, en⟩ : ∃ n, bytesOf sz = n := ⟨_, rfl⟩
  rw [en] at hbd hcls
  clear hr ho X0 X1 X2 hW0 hB0 hs0
  have g5 : IntKind.i64.wrap (pages * 8192) = pages * 8192 := by rw [IntKind.wrap_i64]; omega
  have g6 : IntKind.i64.wrap (pages * 8192 - n) = pages * 8192 - n := by rw [IntKind.wrap_i64]; omega
  rcases hcls with ⟨hr3, hn, hsz⟩ | ⟨hr3, hn⟩
  · rw [hn] at hby
    rw [hr3] at hof
    clear hn hr3
    by_cases c1 : n < 1
    · have hbad : noneOp pages ⟨kd, sz, at_, cd, L, b, e⟩ = true := by simp [noneOp, en]; omega
      rw [allocM_bad hbad]
      clear hbad
      go_enter Tryd.func68, Tryd.ntmps68
      go_wp2_with fail
      rw [HW0.out]
      refine (hof.out _ HB.out).mono ?_
      rintro e w1 ⟨rfl, hb1⟩
      have Hb1 := Lib.hid hb1
      have q0w1 := (hb1.block _ (by omega)).trans HX0.out
      have q1w1 := (hb1.block _ (by omega)).trans HX1.out
      have q2w1 := (hb1.block _ (by omega)).trans HX2.out
      have l0w1 : w1.cell? ⟨w.heap.size, 0, none⟩ = some (.int .i64 pages) := blk_cell q0w1 0
      have l1w1 : w1.cell? ⟨w.heap.size, 1, none⟩ = some (.slice ad s.length acap) := blk_cell q0w1 1
      have l2w1 : w1.cell? ⟨w.heap.size, 2, none⟩ = some (.slice nd s.length ncap) := blk_cell q0w1 2
      have o0w1 : w1.cell? ⟨w.heap.size + 1, 0, none⟩ = some (.int .i64 kd) := blk_cell q1w1 0
      have o1w1 : w1.cell? ⟨w.heap.size + 1, 1, none⟩ = some (.int .i64 sz) := blk_cell q1w1 1
      have o2w1 : w1.cell? ⟨w.heap.size + 1, 2, none⟩ = some (.int .i64 at_) := blk_cell q1w1 2
      have o3w1 : w1.cell? ⟨w.heap.size + 1, 3, none⟩ = some (.int .i64 cd) := blk_cell q1w1 3
      have o4w1 : w1.cell? ⟨w.heap.size + 1, 4, none⟩ = some (.slice ld ln lc) := blk_cell q1w1 4
      have o5w1 : w1.cell? ⟨w.heap.size + 1, 5, none⟩ = some (.int .i64 b) := blk_cell q1w1 5
      have o6w1 : w1.cell? ⟨w.heap.size + 1, 6, none⟩ = some (.int .i64 e) := blk_cell q1w1 6
      have r0w1 : w1.cell? ⟨w.heap.size + 1 + 1, 0, none⟩ = some (.int .i64 0) := blk_cell q2w1 0
      have r1w1 : w1.cell? ⟨w.heap.size + 1 + 1, 1, none⟩ = some (.slice none 0 0) := blk_cell q2w1 1
      have r2w1 : w1.cell? ⟨w.heap.size + 1 + 1, 2, none⟩ = some (.slice none 0 0) := blk_cell q2w1 2
      have z0w1 : w1.frozen? ⟨w.heap.size + 1 + 1, 0, none⟩ = false := blk_frozen q2w1 0
      have z1w1 : w1.frozen? ⟨w.heap.size + 1 + 1, 1, none⟩ = false := blk_frozen q2w1 1
      have z2w1 : w1.frozen? ⟨w.heap.size + 1 + 1, 2, none⟩ = false := blk_frozen q2w1 2
      clear hb1 q0w1 q1w1 q2w1
      go_wp2_with fail
      refine (hby.out _ (HB.out.trans (Hb1.out.mono HB.out.size))).mono ?_
      rintro e w2 ⟨rfl, rfl⟩
      go_wp2
      obtain ⟨e0, e1, e2⟩ := set3 r0w1 r1w1 r2w1 (.int .i64 pages) (.slice ad s.length acap) (.slice nd s.length ncap)
      refine bodyPost_ret (v := .tuple #[.agg #[.int .i64 pages, .slice ad s.length acap, .slice nd s.length ncap], .bool false]) (by simp [results, Tryd.results68, go_sem, e0, e1, e2]) rfl ⟨⟨_, rfl, _, _, _, _, _, _, _, _, rfl, rfl⟩, ?_⟩
      exact set3_below (HB.out.trans (Hb1.out.mono HB.out.size)) (by omega)
    · by_cases c2 : at_ < 0
      · have hbad : noneOp pages ⟨kd, sz, at_, cd, L, b, e⟩ = true := by simp [noneOp, en]; omega
        rw [allocM_bad hbad]
        clear hbad
        go_enter Tryd.func68, Tryd.ntmps68
        go_wp2_with fail
        rw [HW0.out]
        refine (hof.out _ HB.out).mono ?_
        rintro e w1 ⟨rfl, hb1⟩
        have Hb1 := Lib.hid hb1
        have q0w1 := (hb1.block _ (by omega)).trans HX0.out
        have q1w1 := (hb1.block _ (by omega)).trans HX1.out
        have q2w1 := (hb1.block _ (by omega)).trans HX2.out
        have l0w1 : w1.cell? ⟨w.heap.size, 0, none⟩ = some (.int .i64 pages) := blk_cell q0w1 0
        have l1w1 : w1.cell? ⟨w.heap.size, 1, none⟩ = some (.slice ad s.length acap) := blk_cell q0w1 1
        have l2w1 : w1.cell? ⟨w.heap.size, 2, none⟩ = some (.slice nd s.length ncap) := blk_cell q0w1 2
        have o0w1 : w1.cell? ⟨w.heap.size + 1, 0, none⟩ = some (.int .i64 kd) := blk_cell q1w1 0
        have o1w1 : w1.cell? ⟨w.heap.size + 1, 1, none⟩ = some (.int .i64 sz) := blk_cell q1w1 1
        have o2w1 : w1.cell? ⟨w.heap.size + 1, 2, none⟩ = some (.int .i64 at_) := blk_cell q1w1 2
        have o3w1 : w1.cell? ⟨w.heap.size + 1, 3, none⟩ = some (.int .i64 cd) := blk_cell q1w1 3
        have o4w1 : w1.cell? ⟨w.heap.size + 1, 4, none⟩ = some (.slice ld ln lc) := blk_cell q1w1 4
        have o5w1 : w1.cell? ⟨w.heap.size + 1, 5, none⟩ = some (.int .i64 b) := blk_cell q1w1 5
        have o6w1 : w1.cell? ⟨w.heap.size + 1, 6, none⟩ = some (.int .i64 e) := blk_cell q1w1 6
        have r0w1 : w1.cell? ⟨w.heap.size + 1 + 1, 0, none⟩ = some (.int .i64 0) := blk_cell q2w1 0
        have r1w1 : w1.cell? ⟨w.heap.size + 1 + 1, 1, none⟩ = some (.slice none 0 0) := blk_cell q2w1 1
        have r2w1 : w1.cell? ⟨w.heap.size + 1 + 1, 2, none⟩ = some (.slice none 0 0) := blk_cell q2w1 2
        have z0w1 : w1.frozen? ⟨w.heap.size + 1 + 1, 0, none⟩ = false := blk_frozen q2w1 0
        have z1w1 : w1.frozen? ⟨w.heap.size + 1 + 1, 1, none⟩ = false := blk_frozen q2w1 1
        have z2w1 : w1.frozen? ⟨w.heap.size + 1 + 1, 2, none⟩ = false := blk_frozen q2w1 2
        clear hb1 q0w1 q1w1 q2w1
        go_wp2_with fail
        refine (hby.out _ (HB.out.trans (Hb1.out.mono HB.out.size))).mono ?_
        rintro e w2 ⟨rfl, rfl⟩
        go_wp2
        obtain ⟨e0, e1, e2⟩ := set3 r0w1 r1w1 r2w1 (.int .i64 pages) (.slice ad s.length acap) (.slice nd s.length ncap)
        refine bodyPost_ret (v := .tuple #[.agg #[.int .i64 pages, .slice ad s.length acap, .slice nd s.length ncap], .bool false]) (by simp [results, Tryd.results68, go_sem, e0, e1, e2]) rfl ⟨⟨_, rfl, _, _, _, _, _, _, _, _, rfl, rfl⟩, ?_⟩
        exact set3_below (HB.out.trans (Hb1.out.mono HB.out.size)) (by omega)
      · by_cases c3 : pages * 8192 < n
        · have hbad : noneOp pages ⟨kd, sz, at_, cd, L, b, e⟩ = true := by simp [noneOp, en]; omega
          rw [allocM_bad hbad]
          clear hbad
          go_enter Tryd.func68, Tryd.ntmps68
          go_wp2_with fail
          rw [HW0.out]
          refine (hof.out _ HB.out).mono ?_
          rintro e w1 ⟨rfl, hb1⟩
          have Hb1 := Lib.hid hb1
          have q0w1 := (hb1.block _ (by omega)).trans HX0.out
          have q1w1 := (hb1.block _ (by omega)).trans HX1.out
          have q2w1 := (hb1.block _ (by omega)).trans HX2.out
          have l0w1 : w1.cell? ⟨w.heap.size, 0, none⟩ = some (.int .i64 pages) := blk_cell q0w1 0
          have l1w1 : w1.cell? ⟨w.heap.size, 1, none⟩ = some (.slice ad s.length acap) := blk_cell q0w1 1
          have l2w1 : w1.cell? ⟨w.heap.size, 2, none⟩ = some (.slice nd s.length ncap) := blk_cell q0w1 2
          have o0w1 : w1.cell? ⟨w.heap.size + 1, 0, none⟩ = some (.int .i64 kd) := blk_cell q1w1 0
          have o1w1 : w1.cell? ⟨w.heap.size + 1, 1, none⟩ = some (.int .i64 sz) := blk_cell q1w1 1
          have o2w1 : w1.cell? ⟨w.heap.size + 1, 2, none⟩ = some (.int .i64 at_) := blk_cell q1w1 2
          have o3w1 : w1.cell? ⟨w.heap.size + 1, 3, none⟩ = some (.int .i64 cd) := blk_cell q1w1 3
          have o4w1 : w1.cell? ⟨w.heap.size + 1, 4, none⟩ = some (.slice ld ln lc) := blk_cell q1w1 4
          have o5w1 : w1.cell? ⟨w.heap.size + 1, 5, none⟩ = some (.int .i64 b) := blk_cell q1w1 5
          have o6w1 : w1.cell? ⟨w.heap.size + 1, 6, none⟩ = some (.int .i64 e) := blk_cell q1w1 6
          have r0w1 : w1.cell? ⟨w.heap.size + 1 + 1, 0, none⟩ = some (.int .i64 0) := blk_cell q2w1 0
          have r1w1 : w1.cell? ⟨w.heap.size + 1 + 1, 1, none⟩ = some (.slice none 0 0) := blk_cell q2w1 1
          have r2w1 : w1.cell? ⟨w.heap.size + 1 + 1, 2, none⟩ = some (.slice none 0 0) := blk_cell q2w1 2
          have z0w1 : w1.frozen? ⟨w.heap.size + 1 + 1, 0, none⟩ = false := blk_frozen q2w1 0
          have z1w1 : w1.frozen? ⟨w.heap.size + 1 + 1, 1, none⟩ = false := blk_frozen q2w1 1
          have z2w1 : w1.frozen? ⟨w.heap.size + 1 + 1, 2, none⟩ = false := blk_frozen q2w1 2
          clear hb1 q0w1 q1w1 q2w1
          go_wp2_with fail
          refine (hby.out _ (HB.out.trans (Hb1.out.mono HB.out.size))).mono ?_
          rintro e w2 ⟨rfl, rfl⟩
          go_wp2
          obtain ⟨e0, e1, e2⟩ := set3 r0w1 r1w1 r2w1 (.int .i64 pages) (.slice ad s.length acap) (.slice nd s.length ncap)
          refine bodyPost_ret (v := .tuple #[.agg #[.int .i64 pages, .slice ad s.length acap, .slice nd s.length ncap], .bool false]) (by simp [results, Tryd.results68, go_sem, e0, e1, e2]) rfl ⟨⟨_, rfl, _, _, _, _, _, _, _, _, rfl, rfl⟩, ?_⟩
          exact set3_below (HB.out.trans (Hb1.out.mono HB.out.size)) (by omega)
        · by_cases c4 : pages * 8192 - n < at_
          · have hbad : noneOp pages ⟨kd, sz, at_, cd, L, b, e⟩ = true := by simp [noneOp, en]; omega
            rw [allocM_bad hbad]
            clear hbad
            go_enter Tryd.func68, Tryd.ntmps68
            go_wp2_with fail
            rw [HW0.out]
            refine (hof.out _ HB.out).mono ?_
            rintro e w1 ⟨rfl, hb1⟩
            have Hb1 := Lib.hid hb1
            have q0w1 := (hb1.block _ (by omega)).trans HX0.out
            have q1w1 := (hb1.block _ (by omega)).trans HX1.out
            have q2w1 := (hb1.block _ (by omega)).trans HX2.out
            have l0w1 : w1.cell? ⟨w.heap.size, 0, none⟩ = some (.int .i64 pages) := blk_cell q0w1 0
            have l1w1 : w1.cell? ⟨w.heap.size, 1, none⟩ = some (.slice ad s.length acap) := blk_cell q0w1 1
            have l2w1 : w1.cell? ⟨w.heap.size, 2, none⟩ = some (.slice nd s.length ncap) := blk_cell q0w1 2
            have o0w1 : w1.cell? ⟨w.heap.size + 1, 0, none⟩ = some (.int .i64 kd) := blk_cell q1w1 0
            have o1w1 : w1.cell? ⟨w.heap.size + 1, 1, none⟩ = some (.int .i64 sz) := blk_cell q1w1 1
            have o2w1 : w1.cell? ⟨w.heap.size + 1, 2, none⟩ = some (.int .i64 at_) := blk_cell q1w1 2
            have o3w1 : w1.cell? ⟨w.heap.size + 1, 3, none⟩ = some (.int .i64 cd) := blk_cell q1w1 3
            have o4w1 : w1.cell? ⟨w.heap.size + 1, 4, none⟩ = some (.slice ld ln lc) := blk_cell q1w1 4
            have o5w1 : w1.cell? ⟨w.heap.size + 1, 5, none⟩ = some (.int .i64 b) := blk_cell q1w1 5
            have o6w1 : w1.cell? ⟨w.heap.size + 1, 6, none⟩ = some (.int .i64 e) := blk_cell q1w1 6
            have r0w1 : w1.cell? ⟨w.heap.size + 1 + 1, 0, none⟩ = some (.int .i64 0) := blk_cell q2w1 0
            have r1w1 : w1.cell? ⟨w.heap.size + 1 + 1, 1, none⟩ = some (.slice none 0 0) := blk_cell q2w1 1
            have r2w1 : w1.cell? ⟨w.heap.size + 1 + 1, 2, none⟩ = some (.slice none 0 0) := blk_cell q2w1 2
            have z0w1 : w1.frozen? ⟨w.heap.size + 1 + 1, 0, none⟩ = false := blk_frozen q2w1 0
            have z1w1 : w1.frozen? ⟨w.heap.size + 1 + 1, 1, none⟩ = false := blk_frozen q2w1 1
            have z2w1 : w1.frozen? ⟨w.heap.size + 1 + 1, 2, none⟩ = false := blk_frozen q2w1 2
            clear hb1 q0w1 q1w1 q2w1
            go_wp2_with fail
            refine (hby.out _ (HB.out.trans (Hb1.out.mono HB.out.size))).mono ?_
            rintro e w2 ⟨rfl, rfl⟩
            go_wp2
            obtain ⟨e0, e1, e2⟩ := set3 r0w1 r1w1 r2w1 (.int .i64 pages) (.slice ad s.length acap) (.slice nd s.length ncap)
            refine bodyPost_ret (v := .tuple #[.agg #[.int .i64 pages, .slice ad s.length acap, .slice nd s.length ncap], .bool false]) (by simp [results, Tryd.results68, go_sem, e0, e1, e2]) rfl ⟨⟨_, rfl, _, _, _, _, _, _, _, _, rfl, rfl⟩, ?_⟩
            exact set3_below (HB.out.trans (Hb1.out.mono HB.out.size)) (by omega)
          · have hgood : noneOp pages ⟨kd, sz, at_, cd, L, b, e⟩ = false := by simp [noneOp, en]; omega
            go_enter Tryd.func68, Tryd.ntmps68
            go_wp2_with fail
            rw [HW0.out]
            refine (hof.out _ HB.out).mono ?_
            rintro e w1 ⟨rfl, hb1⟩
            have Hb1 := Lib.hid hb1
            have q0w1 := (hb1.block _ (by omega)).trans HX0.out
            have q1w1 := (hb1.block _ (by omega)).trans HX1.out
            have q2w1 := (hb1.block _ (by omega)).trans HX2.out
            have l0w1 : w1.cell? ⟨w.heap.size, 0, none⟩ = some (.int .i64 pages) := blk_cell q0w1 0
            have l1w1 : w1.cell? ⟨w.heap.size, 1, none⟩ = some (.slice ad s.length acap) := blk_cell q0w1 1
            have l2w1 : w1.cell? ⟨w.heap.size, 2, none⟩ = some (.slice nd s.length ncap) := blk_cell q0w1 2
            have o0w1 : w1.cell? ⟨w.heap.size + 1, 0, none⟩ = some (.int .i64 kd) := blk_cell q1w1 0
            have o1w1 : w1.cell? ⟨w.heap.size + 1, 1, none⟩ = some (.int .i64 sz) := blk_cell q1w1 1
            have o2w1 : w1.cell? ⟨w.heap.size + 1, 2, none⟩ = some (.int .i64 at_) := blk_cell q1w1 2
            have o3w1 : w1.cell? ⟨w.heap.size + 1, 3, none⟩ = some (.int .i64 cd) := blk_cell q1w1 3
            have o4w1 : w1.cell? ⟨w.heap.size + 1, 4, none⟩ = some (.slice ld ln lc) := blk_cell q1w1 4
            have o5w1 : w1.cell? ⟨w.heap.size + 1, 5, none⟩ = some (.int .i64 b) := blk_cell q1w1 5
            have o6w1 : w1.cell? ⟨w.heap.size + 1, 6, none⟩ = some (.int .i64 e) := blk_cell q1w1 6
            have r0w1 : w1.cell? ⟨w.heap.size + 1 + 1, 0, none⟩ = some (.int .i64 0) := blk_cell q2w1 0
            have r1w1 : w1.cell? ⟨w.heap.size + 1 + 1, 1, none⟩ = some (.slice none 0 0) := blk_cell q2w1 1
            have r2w1 : w1.cell? ⟨w.heap.size + 1 + 1, 2, none⟩ = some (.slice none 0 0) := blk_cell q2w1 2
            have z0w1 : w1.frozen? ⟨w.heap.size + 1 + 1, 0, none⟩ = false := blk_frozen q2w1 0
            have z1w1 : w1.frozen? ⟨w.heap.size + 1 + 1, 1, none⟩ = false := blk_frozen q2w1 1
            have z2w1 : w1.frozen? ⟨w.heap.size + 1 + 1, 2, none⟩ = false := blk_frozen q2w1 2
            clear hb1 q0w1 q1w1 q2w1
            go_wp2_with fail
            refine (hby.out _ (HB.out.trans (Hb1.out.mono HB.out.size))).mono ?_
            rintro e w2 ⟨rfl, rfl⟩
            go_wp2_with fail
            go_loopw [54] (fun i wr => ∃ k : Nat, k ≤ s.length ∧ i = .int .i64 k ∧ (∀ j, j < k → apB at_ n ((s.map (·.1)).getD j 0) ((s.map (·.2)).getD j 0) = true) ∧ Below w1.heap.size w1 wr) (fun i _ => s.length - (intOf i).toNat)
            case atStart => exact ⟨0, Nat.zero_le _, rfl, fun j hj => absurd hj (Nat.not_lt_zero j), Below.refl _ _⟩
            case round =>
              obtain ⟨k, hk, rfl, hno, hbw⟩ := hrel
              have Hno := Lib.hid hno
              have Hbw := Lib.hid hbw
              have HB1 := Lib.hid (HB.out.trans (Hb1.out.mono HB.out.size))
              have HBw := Lib.hid (HB1.out.trans (hbw.mono HB1.out.size))
              have Hbw0 := Lib.hid (Hb1.out.trans (hbw.mono Hb1.out.size))
              obtain ⟨Wo, hWo⟩ : ∃ Wo, Wo = wr := ⟨_, rfl⟩
              subst hWo
              have q0Wo := (Hbw0.out.block _ (by omega)).trans HX0.out
              have q1Wo := (Hbw0.out.block _ (by omega)).trans HX1.out
              have q2Wo := (Hbw0.out.block _ (by omega)).trans HX2.out
              have l0Wo : Wo.cell? ⟨w.heap.size, 0, none⟩ = some (.int .i64 pages) := blk_cell q0Wo 0
              have l1Wo : Wo.cell? ⟨w.heap.size, 1, none⟩ = some (.slice ad s.length acap) := blk_cell q0Wo 1
              have l2Wo : Wo.cell? ⟨w.heap.size, 2, none⟩ = some (.slice nd s.length ncap) := blk_cell q0Wo 2
              have o0Wo : Wo.cell? ⟨w.heap.size + 1, 0, none⟩ = some (.int .i64 kd) := blk_cell q1Wo 0
              have o1Wo : Wo.cell? ⟨w.heap.size + 1, 1, none⟩ = some (.int .i64 sz) := blk_cell q1Wo 1
              have o2Wo : Wo.cell? ⟨w.heap.size + 1, 2, none⟩ = some (.int .i64 at_) := blk_cell q1Wo 2
              have o3Wo : Wo.cell? ⟨w.heap.size + 1, 3, none⟩ = some (.int .i64 cd) := blk_cell q1Wo 3
              have o4Wo : Wo.cell? ⟨w.heap.size + 1, 4, none⟩ = some (.slice ld ln lc) := blk_cell q1Wo 4
              have o5Wo : Wo.cell? ⟨w.heap.size + 1, 5, none⟩ = some (.int .i64 b) := blk_cell q1Wo 5
              have o6Wo : Wo.cell? ⟨w.heap.size + 1, 6, none⟩ = some (.int .i64 e) := blk_cell q1Wo 6
              have r0Wo : Wo.cell? ⟨w.heap.size + 1 + 1, 0, none⟩ = some (.int .i64 0) := blk_cell q2Wo 0
              have r1Wo : Wo.cell? ⟨w.heap.size + 1 + 1, 1, none⟩ = some (.slice none 0 0) := blk_cell q2Wo 1
              have r2Wo : Wo.cell? ⟨w.heap.size + 1 + 1, 2, none⟩ = some (.slice none 0 0) := blk_cell q2Wo 2
              have z0Wo : Wo.frozen? ⟨w.heap.size + 1 + 1, 0, none⟩ = false := blk_frozen q2Wo 0
              have z1Wo : Wo.frozen? ⟨w.heap.size + 1 + 1, 1, none⟩ = false := blk_frozen q2Wo 1
              have z2Wo : Wo.frozen? ⟨w.heap.size + 1 + 1, 2, none⟩ = false := blk_frozen q2Wo 2
              clear hno hbw q0Wo q1Wo q2Wo
              by_cases hlt : k < s.length
              · obtain ⟨g, go, cap', hv, hg, c0⟩ := intsAt_cell (HA.out.kept (CellsKept.of HBw.out)) (k := k) (by rw [List.length_map]; exact hlt)
                obtain ⟨g', g'o, cap'', hv', hg', c1⟩ := intsAt_cell (HN.out.kept (CellsKept.of HBw.out)) (k := k) (by rw [List.length_map]; exact hlt)
                obtain ⟨rfl, rfl⟩ : ad = some ⟨g, go, none⟩ ∧ acap = cap' := by injection hv with h1 h2 h3; exact ⟨h1, h3⟩
                obtain ⟨rfl, rfl⟩ : nd = some ⟨g', g'o, none⟩ ∧ ncap = cap'' := by injection hv' with h1 h2 h3; exact ⟨h1, h3⟩
                have Hnot := Lib.hid (fun hb => allocM_not (pages := pages) (o := ⟨kd, sz, at_, cd, L, b, e⟩) hlt hb)
                simp only [en] at Hnot
                obtain ⟨x, ex⟩ : ∃ x, (s.map (·.1)).getD k 0 = x := ⟨_, rfl⟩
                obtain ⟨y, ey⟩ : ∃ y, (s.map (·.2)).getD k 0 = y := ⟨_, rfl⟩
                rw [ex] at c0 Hnot
                rw [ey] at c1 Hnot
                have hap := fun W => apart_any at_ n x y W
                obtain ⟨bb, eb⟩ : ∃ bb, apB at_ n x y = bb := ⟨_, rfl⟩
                simp only [eb] at hap Hnot
                have Hap := Lib.hid hap
                have Eb := Lib.hid (show apB at_ n ((s.map (·.1)).getD k 0) ((s.map (·.2)).getD k 0) = bb by rw [ex, ey]; exact eb)
                have hkI : (k : Int) < s.length := by omega
                clear hap eb ex ey hv hv'
                cases bb with
                | false =>
                  go_wp2_with fail
                  go_quiet ((go_at_call 25; exact quiet_left (Hap.out _)))
                  go_wp2
                  obtain ⟨e0, e1, e2⟩ := set3 (W := Wo.drewN nq) r0Wo r1Wo r2Wo (.int .i64 pages) (.slice (some ⟨g, go, none⟩) s.length acap) (.slice (some ⟨g', g'o, none⟩) s.length ncap)
                  refine bodyPost_ret (v := .tuple #[.agg #[.int .i64 pages, .slice (some ⟨g, go, none⟩) s.length acap, .slice (some ⟨g', g'o, none⟩) s.length ncap], .bool false]) (by simp [results, Tryd.results68, go_sem, e0, e1, e2]) rfl ⟨⟨_, rfl, ?_⟩, ?_⟩
                  · rw [Hnot.out trivial]
                    exact ⟨_, _, _, _, _, _, _, _, rfl, rfl⟩
                  · have hh := set3_below (x0 := .int .i64 pages) (x1 := .slice (some ⟨g, go, none⟩) s.length acap) (x2 := .slice (some ⟨g', g'o, none⟩) s.length ncap) HBw.out (show w.heap.size ≤ w.heap.size + 1 + 1 by omega)
                    exact ⟨hh.os, hh.tape, hh.output, hh.size, hh.block⟩
                | true =>
                  go_wp2_with fail
                  go_quiet ((go_at_call 25; exact quiet_left (Hap.out _)))
                  go_wp2
                  go_roundw
                  case rel => exact ⟨k + 1, hlt, by go_num, fun j hj => by
                    rcases Nat.lt_or_ge j k with h | h
                    · exact Hno.out j h
                    · obtain rfl : j = k := by omega
                      exact Eb.out, (have h := Hbw.out; ⟨h.os, h.tape, h.output, h.size, h.block⟩)⟩
                  case measure => simp [intOf]; omega
              · obtain rfl : k = s.length := by omega
                have Hyes := Lib.hid (allocM_yes hgood (by simp only [en]; exact Hno.out))
                have HAo := Lib.hid (HA.out.kept (CellsKept.of HBw.out))
                have HNo := Lib.hid (HN.out.kept (CellsKept.of HBw.out))
                have hw0o : w.heap.size < Wo.heap.size := Nat.lt_of_lt_of_le hw0 Hbw0.out.size
                have hw1o : w.heap.size + 1 < Wo.heap.size := Nat.lt_of_lt_of_le hw1 Hbw0.out.size
                have z10 := blk_frozen ((Hbw0.out.block _ hw0).trans HX0.out) 1
                have z20 := blk_frozen ((Hbw0.out.block _ hw0).trans HX0.out) 2
                go_upto_region 11 with (fail)
                refine alloc_region w.heap.size (w.heap.size + 1) _ _ (s.map (·.1)) (s.map (·.2)) at_ n ?text rfl rfl rfl rfl rfl l1Wo l2Wo o2Wo hw0o hw1o z10 z20 HAo.out HNo.out (by rw [List.length_map]; exact hs) (by rw [List.length_map]; exact hs) ?rest
                case text =>
                  intro i o ho
                  have hi : i < 17 := (Array.getElem?_eq_some_iff.1 ho).1
                  rcases (show i = 0 ∨ i = 1 ∨ i = 2 ∨ i = 3 ∨ i = 4 ∨ i = 5 ∨ i = 6 ∨ i = 7 ∨ i = 8 ∨ i = 9 ∨ i = 10 ∨ i = 11 ∨ i = 12 ∨ i = 13 ∨ i = 14 ∨ i = 15 ∨ i = 16 by omega) with rfl | rfl | rfl | rfl | rfl | rfl | rfl | rfl | rfl | rfl | rfl | rfl | rfl | rfl | rfl | rfl | rfl
                  all_goals
                    obtain rfl := Option.some.inj ho
                    exact ⟨_, _, _, rfl, rfl, rfl, rfl, rfl, rfl⟩
                case rest =>
                  intro a Wm ha1 ha2 ha3 hbm ho1 ho2
                  obtain ⟨u, hu, ea⟩ : ∃ u : Nat → Value, (∀ t, Tm a t = u t) ∧ a = putL [72, 73, 74, 75, 76, 77, 78, 79, 80, 81, 82, 83, 84, 85, 86] u _ := ⟨Tm a, fun _ => rfl, act_eq _ ha1 ha2 fun t ht => ha3 t (by simp at ht; omega)⟩
                  rw [hu 78] at ho1 ⊢
                  rw [hu 84] at ho2 ⊢
                  obtain ⟨d1, k1, e1⟩ := own_slice ho1
                  obtain ⟨d2, k2, e2⟩ := own_slice ho2
                  rw [e1] at ho1 ⊢
                  rw [e2] at ho2 ⊢
                  subst ea
                  simp only [putL, Act.put, List.setIfInBounds_toArray, List.set_cons_succ, List.set_cons_zero]
                  obtain ⟨q0, q1, q2⟩ := set2 ((hbm.cell (p := ⟨w.heap.size, 0, none⟩) hw0o).trans l0Wo) ((hbm.cell (p := ⟨w.heap.size, 1, none⟩) hw0o).trans l1Wo) ((hbm.cell (p := ⟨w.heap.size, 2, none⟩) hw0o).trans l2Wo) (.slice d1 ((s.map (·.1)).length + 1) k1) (.slice d2 ((s.map (·.2)).length + 1) k2)
                  have hw2o : w.heap.size + 1 + 1 < Wo.heap.size := Nat.lt_of_lt_of_le hw2 Hbw0.out.size
                  have hoth := fun j => set2_other Wm (g := w.heap.size) (h := w.heap.size + 1 + 1) (j := j) (by omega) (.slice d1 ((s.map (·.1)).length + 1) k1) (.slice d2 ((s.map (·.2)).length + 1) k2)
                  have p0 := (hoth 0).1.trans ((hbm.cell (p := ⟨w.heap.size + 1 + 1, 0, none⟩) hw2o).trans r0Wo)
                  have p1 := (hoth 1).1.trans ((hbm.cell (p := ⟨w.heap.size + 1 + 1, 1, none⟩) hw2o).trans r1Wo)
                  have p2 := (hoth 2).1.trans ((hbm.cell (p := ⟨w.heap.size + 1 + 1, 2, none⟩) hw2o).trans r2Wo)
                  have y0 := (hoth 0).2.trans ((hbm.frozen (p := ⟨w.heap.size + 1 + 1, 0, none⟩) hw2o).trans z0Wo)
                  have y1 := (hoth 1).2.trans ((hbm.frozen (p := ⟨w.heap.size + 1 + 1, 1, none⟩) hw2o).trans z1Wo)
                  have y2 := (hoth 2).2.trans ((hbm.frozen (p := ⟨w.heap.size + 1 + 1, 2, none⟩) hw2o).trans z2Wo)
                  have HO1 := Lib.hid (ownsRow_setCell_below (ownsRow_setCell_below ho1 (a := ⟨w.heap.size, 1, none⟩) hw0o (.slice d1 ((s.map (·.1)).length + 1) k1)) (a := ⟨w.heap.size, 2, none⟩) hw0o (.slice d2 ((s.map (·.2)).length + 1) k2))
                  have HO2 := Lib.hid (ownsRow_setCell_below (ownsRow_setCell_below ho2 (a := ⟨w.heap.size, 1, none⟩) hw0o (.slice d1 ((s.map (·.1)).length + 1) k1)) (a := ⟨w.heap.size, 2, none⟩) hw0o (.slice d2 ((s.map (·.2)).length + 1) k2))
                  have HBf := Lib.hid (((HBw.out.trans (hbm.mono HBw.out.size)).setCell (p := ⟨w.heap.size, 1, none⟩) (Nat.le_refl _) (.slice d1 ((s.map (·.1)).length + 1) k1)).setCell (p := ⟨w.heap.size, 2, none⟩) (Nat.le_refl _) (.slice d2 ((s.map (·.2)).length + 1) k2))
                  obtain ⟨Wf, hWf⟩ : ∃ Wf, (Wm.setCell ⟨w.heap.size, 1, none⟩ (.slice d1 ((s.map (·.1)).length + 1) k1)).setCell ⟨w.heap.size, 2, none⟩ (.slice d2 ((s.map (·.2)).length + 1) k2) = Wf := ⟨_, rfl⟩
                  rw [hWf] at q0 q1 q2 p0 p1 p2 y0 y1 y2 HO1 HO2 HBf ⊢
                  clear hWf hoth ho1 ho2 e1 e2 hu ha1 ha2 ha3 hbm
                  go_wp2
                  obtain ⟨x0, x1, x2⟩ := set3 p0 p1 p2 (.int .i64 pages) (.slice d1 (s.length + 1) k1) (.slice d2 (s.length + 1) k2)
                  simp only [List.length_map] at HO1 HO2 HBf
                  refine bodyPost_ret (v := .tuple #[.agg #[.int .i64 pages, .slice d1 (s.length + 1) k1, .slice d2 (s.length + 1) k2], .bool true]) (by simp [results, Tryd.results68, go_sem, x0, x1, x2]) rfl ⟨⟨_, rfl, ?_⟩, set3_below HBf.out (by omega)⟩
                  rw [Hyes.out]
                  have g1 := ownsRow_setCell_below (ownsRow_setCell_below (ownsRow_setCell_below HO1.out (a := ⟨w.heap.size + 1 + 1, 0, none⟩) hw2o (.int .i64 pages)) (a := ⟨w.heap.size + 1 + 1, 1, none⟩) hw2o (.slice d1 (s.length + 1) k1)) (a := ⟨w.heap.size + 1 + 1, 2, none⟩) hw2o (.slice d2 (s.length + 1) k2)
                  have g2 := ownsRow_setCell_below (ownsRow_setCell_below (ownsRow_setCell_below HO2.out (a := ⟨w.heap.size + 1 + 1, 0, none⟩) hw2o (.int .i64 pages)) (a := ⟨w.heap.size + 1 + 1, 1, none⟩) hw2o (.slice d1 (s.length + 1) k1)) (a := ⟨w.heap.size + 1 + 1, 2, none⟩) hw2o (.slice d2 (s.length + 1) k2)
                  have hbo := HBw.out.size
                  exact ⟨_, _, _, _, _, _, _, _, rfl, rfl, fun W' _ hkk => ⟨_, _, rfl, ints_from (n := s.length + 1) (by simpa [en] using g1) hbo hkk, ints_from (n := s.length + 1) (by simpa [en] using g2) hbo hkk⟩⟩
  · have hbad : noneOp pages ⟨kd, sz, at_, cd, L, b, e⟩ = true := by simp [noneOp, en, hn]
    rw [allocM_bad hbad]
    clear hbad hat0
    rw [hr3] at hof
    go_enter Tryd.func68, Tryd.ntmps68
    go_wp2_with fail
    rw [HW0.out]
    refine (hof.out _ HB.out).mono ?_
    rintro e w1 ⟨rfl, hb1⟩
    have Hb1 := Lib.hid hb1
    have q0w1 := (hb1.block _ (by omega)).trans HX0.out
    have q1w1 := (hb1.block _ (by omega)).trans HX1.out
    have q2w1 := (hb1.block _ (by omega)).trans HX2.out
    have l0w1 : w1.cell? ⟨w.heap.size, 0, none⟩ = some (.int .i64 pages) := blk_cell q0w1 0
    have l1w1 : w1.cell? ⟨w.heap.size, 1, none⟩ = some (.slice ad s.length acap) := blk_cell q0w1 1
    have l2w1 : w1.cell? ⟨w.heap.size, 2, none⟩ = some (.slice nd s.length ncap) := blk_cell q0w1 2
    have o0w1 : w1.cell? ⟨w.heap.size + 1, 0, none⟩ = some (.int .i64 kd) := blk_cell q1w1 0
    have o1w1 : w1.cell? ⟨w.heap.size + 1, 1, none⟩ = some (.int .i64 sz) := blk_cell q1w1 1
    have o2w1 : w1.cell? ⟨w.heap.size + 1, 2, none⟩ = some (.int .i64 at_) := blk_cell q1w1 2
    have o3w1 : w1.cell? ⟨w.heap.size + 1, 3, none⟩ = some (.int .i64 cd) := blk_cell q1w1 3
    have o4w1 : w1.cell? ⟨w.heap.size + 1, 4, none⟩ = some (.slice ld ln lc) := blk_cell q1w1 4
    have o5w1 : w1.cell? ⟨w.heap.size + 1, 5, none⟩ = some (.int .i64 b) := blk_cell q1w1 5
    have o6w1 : w1.cell? ⟨w.heap.size + 1, 6, none⟩ = some (.int .i64 e) := blk_cell q1w1 6
    have r0w1 : w1.cell? ⟨w.heap.size + 1 + 1, 0, none⟩ = some (.int .i64 0) := blk_cell q2w1 0
    have r1w1 : w1.cell? ⟨w.heap.size + 1 + 1, 1, none⟩ = some (.slice none 0 0) := blk_cell q2w1 1
    have r2w1 : w1.cell? ⟨w.heap.size + 1 + 1, 2, none⟩ = some (.slice none 0 0) := blk_cell q2w1 2
    have z0w1 : w1.frozen? ⟨w.heap.size + 1 + 1, 0, none⟩ = false := blk_frozen q2w1 0
    have z1w1 : w1.frozen? ⟨w.heap.size + 1 + 1, 1, none⟩ = false := blk_frozen q2w1 1
    have z2w1 : w1.frozen? ⟨w.heap.size + 1 + 1, 2, none⟩ = false := blk_frozen q2w1 2
    clear hb1 q0w1 q1w1 q2w1
    go_wp2_with fail
    refine (hby.out _ (HB.out.trans (Hb1.out.mono HB.out.size))).mono ?_
    rintro e w2 ⟨rfl, rfl⟩
    go_wp2
    obtain ⟨e0, e1, e2⟩ := set3 r0w1 r1w1 r2w1 (.int .i64 pages) (.slice ad s.length acap) (.slice nd s.length ncap)
    refine bodyPost_ret (v := .tuple #[.agg #[.int .i64 pages, .slice ad s.length acap, .slice nd s.length ncap], .bool false]) (by simp [results, Tryd.results68, go_sem, e0, e1, e2]) rfl ⟨⟨_, rfl, _, _, _, _, _, _, _, _, rfl, rfl⟩, ?_⟩
    exact set3_below (HB.out.trans (Hb1.out.mono HB.out.size)) (by omega)
end Go.Proofs.YtomheapokfphiaaDoor
