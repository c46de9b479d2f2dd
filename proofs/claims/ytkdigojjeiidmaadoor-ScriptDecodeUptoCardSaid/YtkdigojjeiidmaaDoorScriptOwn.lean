/-
  ScriptOwn's walk: what is decoded may be overwritten; decoded again, it is the document's.
-/
import Derived.Test.YtkdigojjeiidmaaDoorTurned
import Derived.Test.YtkdigojjeiidmaaDoorRefDecode
import Derived.Test.YtkdigojjeiidmaaDoorAwake
import Derived.Test.YtkdigojjeiidmaaDoorBytes
namespace Go.Proofs.YtkdigojjeiidmaaDoor
open Go Go.RowKit Go.Shelf

theorem CellsKept.turned {B : Nat} {w a wr : World} (h : Below w.heap.size w a) (k : Turned B a wr) (hB : w.heap.size ≤ B) : CellsKept w wr := CellsKept.of (h.trans (k.below.mono hB))
/-- Both decodings of the same bytes, held against each other. -/
theorem own_same (ns : List Nat) (b1 b2 : Nat) (va vb : Value) (w : World) (h1 : ScriptOwn w b1 va (decodeM ns)) (h2 : ScriptOwn w b2 vb (decodeM ns)) (hroom : ns.length + 300 ≤ 4398046511104) :
    Calls Tryd.prog 11 #[va, vb] w fun e w' => e = .returned (.bool true) ∧ Below w.heap.size w w' :=
  sameScript_any b1 b2 va vb (decodeM ns) w h1 h2 (by show (drawsM ns 8).length ≤ _; rw [drawsM_len]; decide) (by show (listsM ns _).length ≤ _; rw [listsM_len]; have := threads_ge ns; omega)
    (by show (picksM _ _ _ _).length ≤ _; rw [picksM_len]; omega) (fun cl hcl => by have := lists_small ns _ cl hcl; exact ⟨by omega, fun o ho => by have := this.2 o ho; omega⟩)

set_option maxRecDepth 100000 in
set_option maxHeartbeats 4000000 in
theorem scriptOwn_any (ad : Option Addr) (n cap : Nat) (ns : List Nat) (w : World) (hb : BytesAt w ad ns ∧ ns.length = n) (hcap : ns.length ≤ cap) (hroom : ns.length ≤ 1048576) (ht : Pow w) :
    Calls Tryd.prog 4 #[.slice ad n cap] w fun e w' => e = .returned (.bool true) ∧ Below w.heap.size w w' := by
  obtain ⟨hb, rfl⟩ := hb
  have hroom' : ns.length + 300 ≤ 4398046511104 := by omega
  have HD := Lib.hid (fun (w' : World) (k : CellsKept w w') => decode_any ad cap ns w' (hb.kept k) hcap hroom')
  have HR := Lib.hid (fun (w' : World) (k : CellsKept w w') => refdecode_any ad cap ns w' (hb.kept k) hroom')
  have HT := Lib.hid ht
  have HS := Lib.hid (fun (b1 b2 : Nat) (va vb : Value) (w : World) (h1 : ScriptOwn w b1 va (decodeM ns)) (h2 : ScriptOwn w b2 vb (decodeM ns)) => own_same ns b1 b2 va vb w h1 h2 hroom')
  have hc6 : (decodeM ns).calls.length ≤ 6 := by show (listsM ns _).length ≤ _; rw [listsM_len]; have := threads_ge ns; omega
  have hp6 : (decodeM ns).picks.length ≤ 4398046511104 := by show (picksM _ _ _ _).length ≤ _; rw [picksM_len]; omega
  have HCL := Lib.hid (show ∀ cl ∈ (decodeM ns).calls, cl.length ≤ 11 ∧ ∀ o ∈ cl, o.L.length ≤ 8 from lists_small ns _)
  clear hb hcap ht hroom
  generalize ns.length = n at *
  generalize hs : decodeM ns = s at *
  obtain ⟨pages, threads, draws, calls, picks⟩ := s
  go_enter Tryd.func4, Tryd.ntmps4
  go_wp2_with fail
  refine (HD.out w (CellsKept.refl w)).mono ?_
  rintro e w1 ⟨⟨v, rfl, dv, cv, pv, rfl, hd, hc, hp⟩, hb⟩
  rw [hs] at hd hc hp ⊢
  simp only at hd hc hp hc6 hp6 HCL ⊢
  obtain ⟨da, dc, rfl⟩ := own_slice hd
  obtain ⟨ca, cc, rfl⟩ := hc.slice
  obtain ⟨pa, pc, rfl⟩ := own_slice hp
  obtain ⟨nd, ed⟩ : ∃ nd, draws.length = nd := ⟨_, rfl⟩
  obtain ⟨nc, ec⟩ : ∃ nc, calls.length = nc := ⟨_, rfl⟩
  obtain ⟨np, ep⟩ : ∃ np, picks.length = np := ⟨_, rfl⟩
  rw [ed] at hd ⊢
  rw [ec] at hc hc6 ⊢
  rw [ep] at hp hp6 ⊢
  have EC := Lib.hid ec
  have EP := Lib.hid ep
  clear ed ec ep hd
  go_wp2_with fail
  obtain ⟨W2, eW⟩ : ∃ W2, w1.alloc (.cells #[.int .i64 pages, .int .i64 threads, .slice da nd dc, .slice ca nc cc, .slice pa np pc] 29) = W2 := ⟨_, rfl⟩
  have hX : W2.heap[w1.heap.size]? = some (.cells #[.int .i64 pages, .int .i64 threads, .slice da nd dc, .slice ca nc cc, .slice pa np pc] 29 (0, 0)) := by rw [← eW]; exact World.alloc_heap_new _ _
  have hb2 : Below w1.heap.size w1 W2 := by rw [← eW]; exact new_below _
  have HX := Lib.hid hX
  have HC := Lib.hid (hc.kept (w' := W2) (fun g _ hg => hb2.block g hg))
  have HP := Lib.hid (own_kept hp (fun g hg => hb2.block g (own_lt hp hg).1))
  have HW2 := Lib.hid (below_more hb hb2)
  clear hX hb hb2 hc hp
  rw [eW]
  clear eW
  have cX : ∀ (wr : World), Turned w.heap.size W2 wr → ∀ j, wr.cell? ⟨w1.heap.size, j, none⟩ = (#[.int .i64 pages, .int .i64 threads, .slice da nd dc, .slice ca nc cc, .slice pa np pc] : Array Value)[j]? := fun wr h j => blk_cell (h.other _ _ _ HX.out (by decide) (by decide)) j
  have HcX := Lib.hid cX
  clear cX
  go_loopw [4] (fun i wr => ∃ t : Nat, t ≤ nc ∧ i = .int .i64 t ∧ Turned w.heap.size W2 wr) (fun i _ => nc - (intOf i).toNat)
  case atStart => exact ⟨0, by omega, rfl, Turned.refl _ _⟩
  case round =>
    obtain ⟨t, ht, rfl, HB⟩ := hrel
    obtain ⟨Wo, hWo⟩ : ∃ Wo, Wo = wr := ⟨_, rfl⟩
    subst hWo
    have cA := HcX.out _ HB 3
    simp at cA
    have HB := Lib.hid HB
    by_cases hlt : t < nc
    · have hti : (t : Int) < nc := by omega
      obtain ⟨cl, g, cap', cv1, hcl, hv, hcell, hown⟩ := HC.out.turned (j := t) (by rw [EC.out]; exact hlt)
      obtain rfl : ca = some ⟨g, 0, none⟩ := by injection hv
      obtain ⟨z1, y1, rfl⟩ := hown.slice
      have hl4 := HCL.out cl (List.mem_of_getElem? hcl)
      obtain ⟨m, em⟩ : ∃ m, cl.length = m := ⟨_, rfl⟩
      rw [em] at hown hl4 hcell
      have Em := Lib.hid em
      have HO1 := Lib.hid hown
      have HL4 := Lib.hid hl4.2
      have hm4 := hl4.1
      have HcG := Lib.hid (fun (wr : World) (k : Turned w.heap.size W2 wr) => hcell _ wr k)
      clear hv hcl hcell hown hl4 em
      have cG := HcG.out _ HB.out
      go_wp2_with fail
      clear cA cG
      go_loopw [5] (fun i wr => ∃ q : Nat, q ≤ m ∧ i = .int .i64 q ∧ Turned w.heap.size W2 wr) (fun i _ => m - (intOf i).toNat)
      case atStart => exact ⟨0, by omega, rfl, HB.out⟩
      case round =>
        clear HB
        obtain ⟨q, hq, rfl, HB⟩ := hrel
        obtain ⟨Wi, hWi⟩ : ∃ Wi, Wi = wr := ⟨_, rfl⟩
        subst hWi
        have cA := HcX.out _ HB 3
        simp at cA
        have cG := HcG.out _ HB
        have HB := Lib.hid HB
        by_cases hqm : q < m
        · have hqi : (q : Int) < m := by omega
          obtain ⟨oc, u, p1, k0, x0, lv, cs, ho, hv, hu, hub, e0, e1, e2, hl⟩ := HO1.out.turned HB.out (j := q) (by rw [Em.out]; exact hqm)
          obtain rfl : z1 = some ⟨u, 0, none⟩ := by injection hv
          have hol := HL4.out oc (List.mem_of_getElem? ho)
          obtain ⟨la, ln, lc, rfl, hln, hrow⟩ : ∃ la ln lc, lv = .slice la ln lc ∧ ln ≤ 8 ∧ ∀ j, j < ln → ∀ wr, Turned w.heap.size W2 wr → ∃ (g' : Nat) (x : Int) (cs : Array Value), la = some ⟨g', 0, none⟩ ∧ w.heap.size ≤ g' ∧ wr.heap[g']? = some (.cells cs 3 (0, 0)) ∧ cs[j]? = some (.int .i64 x) := by
            rcases hl with rfl | hl
            · exact ⟨none, 0, 0, rfl, by omega, fun j hj => by omega⟩
            · obtain ⟨la, lc, rfl⟩ := own_slice hl
              refine ⟨la, _, lc, rfl, hol, fun j hj wr k => ?_⟩
              obtain ⟨g', cap', x, cs', hv', hg', hh, hx⟩ := ints_turned hl k hj
              injection hv' with hv'
              exact ⟨g', x, cs', hv', hg', hh, hx⟩
          have Hrow := Lib.hid hrow
          have Hub := Lib.hid hub
          have He := Lib.hid (And.intro e0 (And.intro e1 e2))
          have Hu := Lib.hid hu
          have c2 := (blk_cell hub (q * 3 + 2)).trans e2
          clear hv hl hrow hub hol ho e0 e1 e2 hu
          go_wp2_with fail
          clear cA cG c2
          go_loopw [6] (fun i wr => ∃ k : Nat, k ≤ ln ∧ i = .int .i64 k ∧ Turned w.heap.size W2 wr ∧ wr.heap[u]? = some (.cells cs 36 (0, 0))) (fun i _ => ln - (intOf i).toNat)
          case atStart => exact ⟨0, by omega, rfl, HB.out, Hub.out⟩
          case round =>
            clear HB Hub
            obtain ⟨k, hk, rfl, HB, hub⟩ := hrel
            obtain ⟨Wk, hWk⟩ : ∃ Wk, Wk = wr := ⟨_, rfl⟩
            subst hWk
            have cA := HcX.out _ HB 3
            simp at cA
            have cG := HcG.out _ HB
            have c2 := (blk_cell hub (q * 3 + 2)).trans He.out.2.2
            have HB := Lib.hid HB
            have Hub := Lib.hid hub
            by_cases hkl : k < ln
            · have hki : (k : Int) < ln := by omega
              obtain ⟨g3, x3, cs3, rfl, hg3, hh3, hx3⟩ := Hrow.out k hkl _ HB.out
              have c3 := (blk_cell hh3 k).trans hx3
              have f3 := blk_frozen hh3 k
              have Hh3 := Lib.hid hh3
              clear hh3 hx3 hub
              go_wp2_with fail
              go_roundw
              case rel => exact ⟨k + 1, by omega, by go_num, HB.out.setInt hg3 Hh3.out _ _, by rw [Below.heap_setCell _ _ _ _ (show u ≠ g3 from blk_type Hub.out Hh3.out (by decide))]; exact Hub.out⟩
              case measure => simp [intOf]; omega
            · obtain rfl : k = ln := by omega
              have c0 := (blk_cell hub (q * 3)).trans He.out.1
              have c1 := (blk_cell hub (q * 3 + 1)).trans He.out.2.1
              have f0 := blk_frozen hub (q * 3)
              have f1 := blk_frozen hub (q * 3 + 1)
              have f2 := blk_frozen hub (q * 3 + 2)
              clear hub
              go_wp2_with fail
              go_roundw
              case rel => exact ⟨q + 1, by omega, by go_num, HB.out.setCall Hu.out Hub.out q⟩
              case measure => simp [intOf]; omega
        · obtain rfl : q = m := by omega
          go_wp2_with fail
          go_roundw
          case rel => exact ⟨t + 1, by omega, by go_num, HB.out⟩
          case measure => simp [intOf]; omega
    · obtain rfl : t = nc := by omega
      go_wp2_with fail
      clear cA
      go_loopw [7] (fun i wr => ∃ k : Nat, k ≤ np ∧ i = .int .i64 k ∧ Turned w.heap.size W2 wr) (fun i _ => np - (intOf i).toNat)
      case atStart => exact ⟨0, by omega, rfl, HB.out⟩
      case round =>
        clear HB
        obtain ⟨k, hk, rfl, HB⟩ := hrel
        obtain ⟨Wk, hWk⟩ : ∃ Wk, Wk = wr := ⟨_, rfl⟩
        subst hWk
        have cA := HcX.out _ HB 4
        simp at cA
        have HB := Lib.hid HB
        by_cases hkp : k < np
        · have hki : (k : Int) < np := by omega
          obtain ⟨g3, cap3, x3, cs3, hv, hg3, hh3, hx3⟩ := ints_turned HP.out HB.out hkp
          obtain rfl : pa = some ⟨g3, 0, none⟩ := by injection hv
          have c3 := (blk_cell hh3 k).trans hx3
          have f3 := blk_frozen hh3 k
          have Hh3 := Lib.hid hh3
          clear hh3 hx3 hv
          go_wp2_with fail
          go_roundw
          case rel => exact ⟨k + 1, by omega, by go_num, HB.out.setInt hg3 Hh3.out _ _⟩
          case measure => simp [intOf]; omega
        · obtain rfl : k = np := by omega
          have HB0 := Lib.hid (HW2.out.trans HB.out.below)
          have HDz := HD.out Wk (CellsKept.of HB0.out)
          go_wp2_with fail
          refine HDz.mono ?_
          rintro e w3 ⟨⟨va, rfl, hva⟩, hb3⟩
          rw [hs] at hva
          have HB3 := Lib.hid (below_more HB0.out hb3)
          have HRz := HR.out w3 (CellsKept.of HB3.out)
          have Hva := Lib.hid hva
          clear hva hb3
          go_wp2_with fail
          refine HRz.mono ?_
          rintro e w4 ⟨⟨vb, rfl, hvb⟩, hb4⟩
          rw [hs] at hvb
          have HB4 := Lib.hid (below_more HB3.out hb4)
          have HSz := HS.out _ _ va vb w4 (Hva.out.kept (fun g _ hg => hb4.block g hg)) hvb
          clear hvb hb4
          go_wp2_with fail
          refine HSz.mono ?_
          rintro e w5 ⟨rfl, hb5⟩
          have HB5 := Lib.hid (below_more HB4.out hb5)
          have HAz := awake_any w5 (HT.out.below HB5.out)
          clear hb5
          go_wp2_with fail
          refine HAz.mono ?_
          rintro e w6 ⟨rfl, hb6⟩
          have HB6 := Lib.hid (below_more HB5.out hb6)
          clear hb6
          go_wp2
          go_ret
          exact ⟨rfl, HB6.out⟩
theorem scriptOwn_walk (a : Option Addr) (l c : Nat) (ns : List Nat) (w : World) (h : BytesArg w a l c ns) (ht : Pow w) : Calls Tryd.prog 4 #[.slice a l c] w fun e w' => e = .returned (.bool true) ∧ Below w.heap.size w w' := by
  obtain ⟨hb, hl, hc, hk⟩ := h
  exact scriptOwn_any a l c ns w ⟨hb, hl⟩ (by omega) (by omega) ht
end Go.Proofs.YtkdigojjeiidmaaDoor
