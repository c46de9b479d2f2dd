/-
  The contract of SameScript, at two scripts that read alike.
-/
import Derived.Test.YtkdigojjeiidmaaDoorLater
namespace Go.Proofs.YtkdigojjeiidmaaDoor
open Go Go.RowKit Go.Shelf

/-- A cell of a row of one's own, in a later world. -/
theorem own_cell {w wr : World} {B e s n : Nat} {v : Value} {xs : List Value} {B0 : Nat} (h : w.ownsRow B e s v n xs) (hb : Below B0 w wr) (hB : w.heap.size ≤ B0) {j : Nat} (hj : j < n * s) (hs : 0 < n) :
    ∃ g cap, v = .slice (some ⟨g, 0, none⟩) n cap ∧ g < w.heap.size ∧ wr.cell? ⟨g, j, none⟩ = xs[j]? := by
  rcases h.2 with ⟨rfl, h0⟩ | ⟨g, cap, cur, rfl, _, hh, _⟩
  · omega
  · have hlt : g < w.heap.size := (Array.getElem?_eq_some_iff.1 hh).1
    refine ⟨g, cap, rfl, hlt, ?_⟩
    rw [World.cell?_of_block (w := w) (hb.block g (by omega))]
    exact World.ownsRow.cellAt h j hj
theorem map_get {α : Type} {f : α → Value} {l : List α} {j : Nat} (h : j < l.length) : ∃ x, l[j]? = some x ∧ (l.map f)[j]? = some (f x) := by
  refine ⟨l[j], List.getElem?_eq_getElem h, ?_⟩
  rw [List.getElem?_map, List.getElem?_eq_getElem h]; rfl
theorem ints_of_own {w : World} {base n : Nat} {v : Value} {L : List Int} (h : w.ownsRow base 3 1 v n (L.map iV)) : IntsAt w v L := ints_of_owns h
/-- Call j of a row. -/
theorem CallsOwn.get {w : World} {base : Nat} {v : Value} {cl : List CallP} (h : CallsOwn w base v cl) {j : Nat} (hj : j < cl.length) :
    ∃ (o : CallP) (g cap : Nat) (lv : Value), cl[j]? = some o ∧ v = .slice (some ⟨g, 0, none⟩) cl.length cap ∧ g < w.heap.size ∧ w.cell? ⟨g, j * 3, none⟩ = some (.int .i64 o.kind) ∧ w.cell? ⟨g, j * 3 + 1, none⟩ = some (.int .i64 o.a) ∧ w.cell? ⟨g, j * 3 + 2, none⟩ = some lv ∧ w.ownsRow base 3 1 lv o.L.length (o.L.map iV) := by
  obtain ⟨xs, h1, h2⟩ := h
  have ho : cl[j]? = some cl[j] := List.getElem?_eq_getElem hj
  obtain ⟨lv, a, b, c, d⟩ := h2 j _ ho
  obtain ⟨g, cap, e, hg, k0⟩ := own_cell h1 (Below.refl _ w) (Nat.le_refl _) (j := j * 3) (by omega) (by omega)
  obtain ⟨g1, cap1, e1, _, k1⟩ := own_cell h1 (Below.refl _ w) (Nat.le_refl _) (j := j * 3 + 1) (by omega) (by omega)
  obtain ⟨g2, cap2, e2, _, k2⟩ := own_cell h1 (Below.refl _ w) (Nat.le_refl _) (j := j * 3 + 2) (by omega) (by omega)
  subst e
  obtain ⟨rfl, rfl⟩ : g = g1 ∧ cap = cap1 := by simpa using e1
  obtain ⟨rfl, rfl⟩ : g = g2 ∧ cap = cap2 := by simpa using e2
  exact ⟨_, g, cap, lv, ho, rfl, hg, k0.trans a, k1.trans b, k2.trans c, d⟩
theorem ListsOwn.get {w : World} {base : Nat} {v : Value} {ls : List (List CallP)} (h : ListsOwn w base v ls) {j : Nat} (hj : j < ls.length) :
    ∃ (cl : List CallP) (g cap : Nat) (cv : Value), ls[j]? = some cl ∧ v = .slice (some ⟨g, 0, none⟩) ls.length cap ∧ g < w.heap.size ∧ w.cell? ⟨g, j, none⟩ = some cv ∧ CallsOwn w base cv cl := by
  obtain ⟨xs, h1, h2⟩ := h
  have ho : ls[j]? = some ls[j] := List.getElem?_eq_getElem hj
  obtain ⟨cv, a, b⟩ := h2 j _ ho
  obtain ⟨g, cap, e, hg, k0⟩ := own_cell h1 (Below.refl _ w) (Nat.le_refl _) (j := j) (by omega) (by omega)
  exact ⟨_, g, cap, cv, ho, e, hg, k0.trans a, b⟩
def box29 (s : ScriptP) (dv cv pv : Value) : Obj := .cells #[.int .i64 s.pages, .int .i64 s.threads, dv, cv, pv] 29

set_option maxRecDepth 100000 in
set_option maxHeartbeats 4000000 in
theorem sameScript_any (b1 b2 : Nat) (va vb : Value) (s : ScriptP) (w : World) (h1 : ScriptOwn w b1 va s) (h2 : ScriptOwn w b2 vb s)
    (hd : s.draws.length ≤ 4398046511104) (hc : s.calls.length ≤ 4398046511104) (hp : s.picks.length ≤ 4398046511104) (hcl : ∀ cl ∈ s.calls, cl.length ≤ 4398046511104 ∧ ∀ o ∈ cl, o.L.length ≤ 4398046511104) :
    Calls Tryd.prog 11 #[va, vb] w fun e w' => e = .returned (.bool true) ∧ Below w.heap.size w w' := by
  obtain ⟨dv, cv, pv, rfl, hd1, hc1, hp1⟩ := h1
  obtain ⟨dv', cv', pv', rfl, hd2, hc2, hp2⟩ := h2
  obtain ⟨xd, yd, rfl⟩ := own_slice hd1
  obtain ⟨xc, yc, rfl⟩ := hc1.slice
  obtain ⟨xp, yp, rfl⟩ := own_slice hp1
  obtain ⟨xd', yd', rfl⟩ := own_slice hd2
  obtain ⟨xc', yc', rfl⟩ := hc2.slice
  obtain ⟨xp', yp', rfl⟩ := own_slice hp2
  obtain ⟨pages, threads, draws, calls, picks⟩ := s
  simp only at *
  have HD1 := Lib.hid hd1
  have HD2 := Lib.hid hd2
  have HC1 := Lib.hid hc1
  have HC2 := Lib.hid hc2
  have HP1 := Lib.hid hp1
  have HP2 := Lib.hid hp2
  have HCL := Lib.hid hcl
  clear hd1 hd2 hc1 hc2 hp1 hp2 hcl
  obtain ⟨nd, ed⟩ : ∃ nd, draws.length = nd := ⟨_, rfl⟩
  obtain ⟨nc, ec⟩ : ∃ nc, calls.length = nc := ⟨_, rfl⟩
  obtain ⟨np, ep⟩ : ∃ np, picks.length = np := ⟨_, rfl⟩
  rw [ed] at hd HD1 HD2 ⊢
  rw [ec] at hc HC1 HC2 ⊢
  rw [ep] at hp HP1 HP2 ⊢
  have ED := Lib.hid ed
  have EC := Lib.hid ec
  have EP := Lib.hid ep
  clear ed ec ep
  go_enter Tryd.func11, Tryd.ntmps11
  go_wp2_with fail
  obtain ⟨W2, eW⟩ : ∃ W2, (w.alloc (.cells #[.int .i64 pages, .int .i64 threads, .slice xd nd yd, .slice xc nc yc, .slice xp np yp] 29)).alloc (.cells #[.int .i64 pages, .int .i64 threads, .slice xd' nd yd', .slice xc' nc yc', .slice xp' np yp'] 29) = W2 := ⟨_, rfl⟩
  have hA0 : W2.heap[w.heap.size]? = some (.cells #[.int .i64 pages, .int .i64 threads, .slice xd nd yd, .slice xc nc yc, .slice xp np yp] 29 (0, 0)) := by rw [← eW]; exact (Below.heap_alloc _ _ _ (by simp)).trans (World.alloc_heap_new _ _)
  have hA1 : W2.heap[w.heap.size + 1]? = some (.cells #[.int .i64 pages, .int .i64 threads, .slice xd' nd yd', .slice xc' nc yc', .slice xp' np yp'] 29 (0, 0)) := by
    rw [← eW]
    have : (w.alloc (.cells #[.int .i64 pages, .int .i64 threads, .slice xd nd yd, .slice xc nc yc, .slice xp np yp] 29)).heap.size = w.heap.size + 1 := by simp
    rw [← this]
    exact World.alloc_heap_new _ _
  have hW2 : Below w.heap.size w W2 := by rw [← eW]; exact ((Below.refl _ w).alloc (Nat.le_refl _) _).alloc (by simp) _
  have HA0 := Lib.hid hA0
  have HA1 := Lib.hid hA1
  have HW2 := Lib.hid hW2
  clear hA0 hA1 hW2
  rw [eW]
  clear eW
  go_loopw [5] (fun i wr => ∃ k : Nat, k ≤ nd ∧ i = .int .i64 k ∧ Below W2.heap.size W2 wr) (fun i _ => nd - (intOf i).toNat)
  case atStart => exact ⟨0, by omega, rfl, Below.refl _ _⟩
  case round =>
    obtain ⟨k, hk, rfl, HB⟩ := hrel
    obtain ⟨Wo, hWo⟩ : ∃ Wo, Wo = wr := ⟨_, rfl⟩
    subst hWo
    have HBw := below_more HW2.out HB
    have cA := blk_cell ((HB.block _ (Array.getElem?_eq_some_iff.1 HA0.out).1).trans HA0.out) 2
    have cB := blk_cell ((HB.block _ (Array.getElem?_eq_some_iff.1 HA1.out).1).trans HA1.out) 2
    simp at cA cB
    have HB := Lib.hid HB
    have HBw := Lib.hid HBw
    by_cases hlt : k < nd
    · have hki : (k : Int) < nd := by omega
      obtain ⟨g, cap, hv, hg, hcell⟩ := own_cell HD1.out HBw.out (Nat.le_refl _) (j := k) (by omega) (by omega)
      obtain ⟨g', cap', hv', hg', hcell'⟩ := own_cell HD2.out HBw.out (Nat.le_refl _) (j := k) (by omega) (by omega)
      obtain rfl : xd = some ⟨g, 0, none⟩ := by injection hv
      obtain rfl : xd' = some ⟨g', 0, none⟩ := by injection hv'
      obtain ⟨x, _, hx⟩ := map_get (f := uV) (l := draws) (j := k) (by rw [ED.out]; exact hlt)
      rw [hx] at hcell hcell'
      simp only [uV] at hcell hcell'
      obtain ⟨y, hy⟩ : ∃ y, y = x := ⟨x, rfl⟩
      have hne : (x != y) = false := by simp [hy]
      rw [← hy] at hcell'
      clear hy
      clear hv hv' hx
      go_wp2_with fail
      go_quiet (fail)
      go_wp2_with fail
      go_roundw
      case rel => exact ⟨k + 1, by omega, by go_num, draw_below HB.out _⟩
      case measure => simp [intOf]; omega
    · obtain rfl : k = nd := by omega
      go_wp2_with fail
      go_loopw [6] (fun i wr => ∃ t : Nat, t ≤ nc ∧ i = .int .i64 t ∧ Below W2.heap.size W2 wr) (fun i _ => nc - (intOf i).toNat)
      case atStart => exact ⟨0, by omega, rfl, HB.out⟩
      case round =>
        clear cA cB HB HBw hlt hk
        obtain ⟨t, ht, rfl, HB⟩ := hrel
        obtain ⟨Wo, hWo⟩ : ∃ Wo, Wo = wr := ⟨_, rfl⟩
        subst hWo
        have HBw := below_more HW2.out HB
        have cA := blk_cell ((HB.block _ (Array.getElem?_eq_some_iff.1 HA0.out).1).trans HA0.out) 3
        have cB := blk_cell ((HB.block _ (Array.getElem?_eq_some_iff.1 HA1.out).1).trans HA1.out) 3
        simp at cA cB
        have HB := Lib.hid HB
        have HBw := Lib.hid HBw
        by_cases hlt : t < nc
        · have hti : (t : Int) < nc := by omega
          obtain ⟨cl, g, cap, cv1, hcl, hv, hg, hcell, hown⟩ := HC1.out.get (j := t) (by rw [EC.out]; exact hlt)
          obtain ⟨cl2, g', cap', cv2, hcl2, hv', hg', hcell', hown'⟩ := HC2.out.get (j := t) (by rw [EC.out]; exact hlt)
          obtain rfl : cl = cl2 := Option.some.inj (hcl.symm.trans hcl2)
          obtain rfl : xc = some ⟨g, 0, none⟩ := by injection hv
          obtain rfl : xc' = some ⟨g', 0, none⟩ := by injection hv'
          obtain ⟨z1, y1, rfl⟩ := hown.slice
          obtain ⟨z2, y2, rfl⟩ := hown'.slice
          have hl4 := HCL.out cl (List.mem_of_getElem? hcl)
          obtain ⟨m, em⟩ : ∃ m, cl.length = m := ⟨_, rfl⟩
          rw [em] at hown hown' hcell hcell' hl4
          have Em := Lib.hid em
          have HO1 := Lib.hid hown
          have HO2 := Lib.hid hown'
          have HL4 := Lib.hid hl4.2
          have hm4 := hl4.1
          have e1 := (HBw.out.cell (p := ⟨g, t, none⟩) hg).trans hcell
          have e2 := (HBw.out.cell (p := ⟨g', t, none⟩) hg').trans hcell'
          have Hg := Lib.hid hg
          have Hg' := Lib.hid hg'
          have Hc := Lib.hid hcell
          have Hc' := Lib.hid hcell'
          clear hv hv' hcl hcl2 hcell hcell' hown hown' hl4 em hg hg'
          go_wp2_with fail
          go_quiet (fail)
          go_wp2_with fail
          clear cA cB e1 e2
          go_loopw [7] (fun i wr => ∃ q : Nat, q ≤ m ∧ i = .int .i64 q ∧ Below W2.heap.size W2 wr) (fun i _ => m - (intOf i).toNat)
          case atStart => exact ⟨0, by omega, rfl, draw_below HB.out _⟩
          case round =>
            clear HB HBw
            obtain ⟨q, hq, rfl, HB⟩ := hrel
            obtain ⟨Wi, hWi⟩ : ∃ Wi, Wi = wr := ⟨_, rfl⟩
            subst hWi
            have HBw := below_more HW2.out HB
            have cA := blk_cell ((HB.block _ (Array.getElem?_eq_some_iff.1 HA0.out).1).trans HA0.out) 3
            have cB := blk_cell ((HB.block _ (Array.getElem?_eq_some_iff.1 HA1.out).1).trans HA1.out) 3
            simp at cA cB
            have HB := Lib.hid HB
            have HBw := Lib.hid HBw
            have e1 := (HBw.out.cell (p := ⟨g, t, none⟩) Hg.out).trans Hc.out
            have e2 := (HBw.out.cell (p := ⟨g', t, none⟩) Hg'.out).trans Hc'.out
            by_cases hqm : q < m
            · have hqi : (q : Int) < m := by omega
              obtain ⟨oc, u1, p1, lv1, ho1, hv1, hu1, a0, a1, a2, ao⟩ := HO1.out.get (j := q) (by rw [Em.out]; exact hqm)
              obtain ⟨oc2, u2, p2, lv2, ho2, hv2, hu2, d0, d1, d2, dp⟩ := HO2.out.get (j := q) (by rw [Em.out]; exact hqm)
              obtain rfl : oc = oc2 := Option.some.inj (ho1.symm.trans ho2)
              obtain rfl : z1 = some ⟨u1, 0, none⟩ := by injection hv1
              obtain rfl : z2 = some ⟨u2, 0, none⟩ := by injection hv2
              obtain ⟨v1, x1, rfl⟩ := own_slice ao
              obtain ⟨v2, x2, rfl⟩ := own_slice dp
              have hol := HL4.out oc (List.mem_of_getElem? ho1)
              have hsz : w.heap.size ≤ Wi.heap.size := HBw.out.size
              have hlt1 := (Array.getElem?_eq_some_iff.1 HA0.out).1
              have hlt2 := (Array.getElem?_eq_some_iff.1 HA1.out).1
              have hszB : W2.heap.size ≤ Wi.heap.size := HB.out.size
              have late : ∀ (x : Later Wi) (b o : Nat) (v : Value), b < w.heap.size → w.cell? ⟨b, o, none⟩ = some v → x.to.cell? ⟨b, o, none⟩ = some v := fun x b o v hb hc => by
                rw [Later.cell x (by show b < Wi.heap.size; omega), HBw.out.cell (p := ⟨b, o, none⟩) hb]; exact hc
              have L0 : ∀ x : Later Wi, x.to.cell? ⟨w.heap.size, 3, none⟩ = some (.slice (some ⟨g, 0, none⟩) nc yc) := fun x => by rw [Later.cell x (by show w.heap.size < Wi.heap.size; omega)]; exact cA
              have L1 : ∀ x : Later Wi, x.to.cell? ⟨w.heap.size + 1, 3, none⟩ = some (.slice (some ⟨g', 0, none⟩) nc yc') := fun x => by rw [Later.cell x (by show w.heap.size + 1 < Wi.heap.size; omega)]; exact cB
              have L2 : ∀ x : Later Wi, x.to.cell? ⟨g, t, none⟩ = some (.slice (some ⟨u1, 0, none⟩) m y1) := fun x => late x _ _ _ Hg.out Hc.out
              have L3 : ∀ x : Later Wi, x.to.cell? ⟨g', t, none⟩ = some (.slice (some ⟨u2, 0, none⟩) m y2) := fun x => late x _ _ _ Hg'.out Hc'.out
              have M0 : ∀ x : Later Wi, x.to.cell? ⟨u1, q * 3, none⟩ = some (.int .i64 oc.kind) := fun x => late x _ _ _ hu1 a0
              have M1 : ∀ x : Later Wi, x.to.cell? ⟨u1, q * 3 + 1, none⟩ = some (.int .i64 oc.a) := fun x => late x _ _ _ hu1 a1
              have M2 : ∀ x : Later Wi, x.to.cell? ⟨u1, q * 3 + 2, none⟩ = some (.slice v1 oc.L.length x1) := fun x => late x _ _ _ hu1 a2
              have N0 : ∀ x : Later Wi, x.to.cell? ⟨u2, q * 3, none⟩ = some (.int .i64 oc.kind) := fun x => late x _ _ _ hu2 d0
              have N1 : ∀ x : Later Wi, x.to.cell? ⟨u2, q * 3 + 1, none⟩ = some (.int .i64 oc.a) := fun x => late x _ _ _ hu2 d1
              have N2 : ∀ x : Later Wi, x.to.cell? ⟨u2, q * 3 + 2, none⟩ = some (.slice v2 oc.L.length x2) := fun x => late x _ _ _ hu2 d2
              have HCall := Lib.hid (fun x : Later Wi => (by
                have := sameCall_any oc oc (.slice v1 oc.L.length x1) (.slice v2 oc.L.length x2) x.to ((ints_of_owns ao).kept (CellsKept.of (below_more HBw.out x.below))) ((ints_of_owns dp).kept (CellsKept.of (below_more HBw.out x.below))) (by omega)
                rw [sameC_self] at this
                exact this : Calls Tryd.prog 22 #[callV oc (.slice v1 oc.L.length x1), callV oc (.slice v2 oc.L.length x2)] x.to fun e w' => e = .returned (.bool true) ∧ Below x.to.heap.size x.to w'))
              unfold callV at HCall
              clear a0 a1 a2 d0 d1 d2 late ao dp hv1 hv2 ho1 ho2 hu1 hu2 hlt1 hlt2
              go_wp2_with fail
              clear cA cB e1 e2
              refine wp_region_later (by kernel_rfl) (by kernel_rfl) ?_
              repeat (first | go_big_quiet_skip | (go_big_quiet_want; go_big_quiet_op; first | go_big_quiet_on | (apply Exists.intro; refine ⟨fun _ => ?_, ?_⟩; (focus (go_at_call 22; exact later_call (HCall.out _))); go_big_quiet_on)))
              refine wpQuiet_nil ?_
              rintro _ ⟨z, rfl⟩
              have HZ := Lib.hid (HB.out.trans (z.below.mono hszB))
              generalize z.to = Wz at *
              go_wp2_with fail
              go_roundw
              case rel => exact ⟨q + 1, by omega, by go_num, HZ.out⟩
              case measure => simp [intOf]; omega
            · obtain rfl : q = m := by omega
              go_wp2_with fail
              go_roundw
              case rel => exact ⟨t + 1, by omega, by go_num, HB.out⟩
              case measure => simp [intOf]; omega
        · obtain rfl : t = nc := by omega
          go_wp2_with fail
          clear cA cB
          go_loopw [8] (fun i wr => ∃ k : Nat, k ≤ np ∧ i = .int .i64 k ∧ Below W2.heap.size W2 wr) (fun i _ => np - (intOf i).toNat)
          case atStart => exact ⟨0, by omega, rfl, HB.out⟩
          case round =>
            clear HB HBw
            obtain ⟨k, hk, rfl, HB⟩ := hrel
            obtain ⟨Wo, hWo⟩ : ∃ Wo, Wo = wr := ⟨_, rfl⟩
            subst hWo
            have HBw := below_more HW2.out HB
            have cA := blk_cell ((HB.block _ (Array.getElem?_eq_some_iff.1 HA0.out).1).trans HA0.out) 4
            have cB := blk_cell ((HB.block _ (Array.getElem?_eq_some_iff.1 HA1.out).1).trans HA1.out) 4
            simp at cA cB
            have HB := Lib.hid HB
            have HBw := Lib.hid HBw
            by_cases hlt : k < np
            · have hki : (k : Int) < np := by omega
              obtain ⟨g, cap, hv, hg, hcell⟩ := own_cell HP1.out HBw.out (Nat.le_refl _) (j := k) (by omega) (by omega)
              obtain ⟨g', cap', hv', hg', hcell'⟩ := own_cell HP2.out HBw.out (Nat.le_refl _) (j := k) (by omega) (by omega)
              obtain rfl : xp = some ⟨g, 0, none⟩ := by injection hv
              obtain rfl : xp' = some ⟨g', 0, none⟩ := by injection hv'
              obtain ⟨x, _, hx⟩ := map_get (f := iV) (l := picks) (j := k) (by rw [EP.out]; exact hlt)
              rw [hx] at hcell hcell'
              simp only [iV] at hcell hcell'
              obtain ⟨y, hy⟩ : ∃ y, y = x := ⟨x, rfl⟩
              have hne : (x != y) = false := by simp [hy]
              rw [← hy] at hcell'
              clear hy
              clear hv hv' hx
              go_wp2_with fail
              go_quiet (fail)
              go_wp2_with fail
              go_roundw
              case rel => exact ⟨k + 1, by omega, by go_num, draw_below HB.out _⟩
              case measure => simp [intOf]; omega
            · obtain rfl : k = np := by omega
              go_wp2
              go_ret
              exact ⟨rfl, HBw.out⟩
end Go.Proofs.YtkdigojjeiidmaaDoor
