/-
  ScriptDecode's walk.
-/
import Derived.Test.YtkdigojjeiidmaaDoorDecRegion
import Derived.Test.YtkdigojjeiidmaaDoorScriptEnd
namespace Go.Proofs.YtkdigojjeiidmaaDoor
open Go Go.RowKit Go.Shelf

set_option maxRecDepth 100000 in
set_option maxHeartbeats 4000000 in
theorem scriptDecode_any (ad : Option Addr) (cap : Nat) (ns : List Nat) (w : World) (hb : BytesAt w ad ns) (hcap : ns.length ≤ cap) (hroom : ns.length ≤ 1048576) (ht : Pow w) :
    Calls Tryd.prog 6 #[.slice ad ns.length cap] w fun e w' => e = .returned (.bool true) ∧ Below w.heap.size w w' := by
  have HBy := Lib.hid hb
  have HT := Lib.hid ht
  have H255 := Lib.hid hb.2.1
  have HD := Lib.hid (fun (w' : World) (k : CellsKept w w') => decode_any ad cap ns w' (hb.kept k) hcap (by omega))
  have hl1 : (decodeM ns).picks.length = ns.length - endOf ns := picksM_len _ _ _ _
  have hT := threads_ge ns
  have HPk := Lib.hid (show ∀ x ∈ (decodeM ns).picks, 0 ≤ x ∧ x < (threadsOf ns : Nat) from picks_lt ns (threadsOf ns) _ hT.1 _)
  have hT1 : (decodeM ns).threads = ((threadsOf ns : Nat) : Int) := rfl
  have hnp : ns.length - endOf ns ≤ 1048576 := by omega
  have hE : (w.alloc (.cells #[] 5)).ownsRow w.heap.size 5 1 (.slice (some ⟨w.heap.size, 0, none⟩) 0 0) 0 [] := World.ownsRow_made _ _ 0 (Nat.le_refl _) (Nat.zero_le _) rfl
  have HE := Lib.hid hE
  have hk1 : Below w.heap.size w (w.alloc (.cells #[] 5)) := new_below _
  have HBy1 := Lib.hid (hb.kept (CellsKept.of hk1))
  have hsz1 := hk1.size
  have HK1 := Lib.hid hk1
  clear hb ht hk1
  generalize threadsOf ns = T at *
  generalize ns.length - endOf ns = np at *
  obtain ⟨n, hn⟩ : ∃ n, ns.length = n := ⟨_, rfl⟩
  have Hn := Lib.hid hn
  rw [hn] at HD hroom ⊢
  go_enter Tryd.func6, Tryd.ntmps6
  go_wp2_with (at_builtin; (refine wpList_append_bytes rfl _ _ rfl w.heap.size _ 0 [] rfl HE.out ad n cap ns rfl HBy1.out Hn.out (by omega) hsz1 ?_; intro v3 w3 hown3 hgrow3; have HO3 := Lib.hid hown3; have HB3 := Lib.hid (HK1.out.grown hgrow3 hsz1 (fun k e => by have := own_later HE.out k e; omega)); clear hown3 hgrow3))
  obtain ⟨wa, wc, rfl, hwas, _, _⟩ := bytes_of_owns (ns := ns) (n := 0 + n) (by simpa using HO3.out) H255.out
  rw [Nat.zero_add]
  have HWas := Lib.hid hwas
  clear hwas
  refine (HD.out w3 (CellsKept.of HB3.out)).mono ?_
  rintro e w4 ⟨⟨v, rfl, dv, cv, pv, rfl, hd, hc, hp⟩, hb4⟩
  generalize hs : decodeM ns = s at *
  obtain ⟨pages, threads, draws, calls, picks⟩ := s
  simp only at hd hc hp hl1 hT1 HPk ⊢
  subst hT1
  rw [hl1] at hp
  obtain ⟨da, dc, rfl⟩ := own_slice hd
  obtain ⟨ca, cc, rfl⟩ := hc.slice
  obtain ⟨pa, pc, rfl⟩ := own_slice hp
  have hSO : ScriptOwn w4 w3.heap.size (.agg #[.int .i64 pages, .int .i64 (T : Nat), .slice da draws.length dc, .slice ca calls.length cc, .slice pa np pc]) ⟨pages, (T : Nat), draws, calls, picks⟩ := ⟨_, _, _, rfl, hd, hc, by rw [hl1]; exact hp⟩
  obtain ⟨nd, ed⟩ : ∃ nd, draws.length = nd := ⟨_, rfl⟩
  obtain ⟨nc, ec⟩ : ∃ nc, calls.length = nc := ⟨_, rfl⟩
  rw [ed, ec] at hSO
  rw [ed, ec]
  have HB4 := Lib.hid (below_more HB3.out hb4)
  have HP := Lib.hid hp
  have HWas4 := Lib.hid (HWas.out.kept (CellsKept.of hb4))
  have HSO := Lib.hid hSO
  have hk5 : Below w4.heap.size w4 (w4.alloc (.cells #[.int .i64 pages, .int .i64 (T : Nat), .slice da nd dc, .slice ca nc cc, .slice pa np pc] 29)) := new_below _
  have HX := Lib.hid (World.alloc_heap_new w4 (.cells #[.int .i64 pages, .int .i64 (T : Nat), .slice da nd dc, .slice ca nc cc, .slice pa np pc] 29))
  have HK5 := Lib.hid hk5
  have hsz5 := hk5.size
  clear hd hc hp ed ec hb4 hSO hk5
  go_upto_region 3 with (fail)
  have hnn := Hn.out
  subst hnn
  refine dec_region w4.heap.size pages (T : Nat) da nd dc ca nc cc pa np pc ad cap wa wc ns ⟨pages, (T : Nat), draws, calls, picks⟩ w3.heap.size ?text rfl rfl rfl rfl rfl HX.out ((HBy.out.kept (CellsKept.of HB4.out)).kept (CellsKept.of HK5.out)) (HWas4.out.kept (CellsKept.of HK5.out)) (by omega) hs (HSO.out.kept (fun g _ hg => HK5.out.block g hg)) ?rest
  case text =>
    intro i o ho
    have hi : i < 20 := (Array.getElem?_eq_some_iff.1 ho).1
    rcases (show i = 0 ∨ i = 1 ∨ i = 2 ∨ i = 3 ∨ i = 4 ∨ i = 5 ∨ i = 6 ∨ i = 7 ∨ i = 8 ∨ i = 9 ∨ i = 10 ∨ i = 11 ∨ i = 12 ∨ i = 13 ∨ i = 14 ∨ i = 15 ∨ i = 16 ∨ i = 17 ∨ i = 18 ∨ i = 19 by omega) with rfl | rfl | rfl | rfl | rfl | rfl | rfl | rfl | rfl | rfl | rfl | rfl | rfl | rfl | rfl | rfl | rfl | rfl | rfl | rfl
    all_goals
      obtain rfl := Option.some.inj ho
      exact ⟨_, _, _, rfl, rfl, rfl, rfl, (fun k t b hg => by cases hg <;> rfl), rfl, rfl⟩
  case rest =>
    intro a W1 ha1 ha2 ha3 h30 hB1
    obtain ⟨u, hu, ea⟩ : ∃ u : Nat → Value, (∀ t, Tm a t = u t) ∧ a = putL [11, 12, 13, 14, 15, 16, 17, 18, 19, 20, 21, 22, 23, 24, 25, 26, 27, 28, 29, 30] u _ := ⟨Tm a, fun _ => rfl, act_eq _ ha1 ha2 fun t ht => ha3 t (by simp at ht; omega)⟩
    have h30' := (hu 30).symm.trans h30
    clear hu ha1 ha2 ha3 h30
    subst ea
    simp only [putL, h30', Act.put, List.setIfInBounds_toArray, List.set_cons_succ, List.set_cons_zero]
    clear h30'
    obtain ⟨n, hn⟩ : ∃ n, ns.length = n := ⟨_, rfl⟩
    rw [hn]
    have HX1 := Lib.hid ((hB1.block _ (Array.getElem?_eq_some_iff.1 HX.out).1).trans HX.out)
    have HB45 := Lib.hid (below_more HK5.out hB1)
    have HB1 := Lib.hid (below_more HB4.out (below_more HK5.out hB1))
    clear hB1
    go_wp2_with fail
    go_loopw [5] (fun i wr => ∃ k : Nat, k ≤ np ∧ i = .int .i64 k ∧ Below W1.heap.size W1 wr) (fun i _ => np - (intOf i).toNat)
    case atStart => exact ⟨0, by omega, rfl, Below.refl _ _⟩
    case round =>
      obtain ⟨k, hk, rfl, HB⟩ := hrel
      obtain ⟨Wo, hWo⟩ : ∃ Wo, Wo = wr := ⟨_, rfl⟩
      subst hWo
      have hXo := (HB.block _ (Array.getElem?_eq_some_iff.1 HX1.out).1).trans HX1.out
      have cX := blk_cell hXo 4
      have cT := blk_cell hXo 1
      simp at cX cT
      have HB := Lib.hid HB
      clear hXo
      by_cases hkm : k < np
      · have hki : (k : Int) < np := by omega
        obtain ⟨g5, cap5, hv5, hg5, hc5⟩ := own_cell HP.out (below_more HB45.out HB.out) (Nat.le_refl _) (j := k) (by omega) (by omega)
        obtain rfl : pa = some ⟨g5, 0, none⟩ := by injection hv5
        obtain ⟨x, hxm, hx⟩ := map_get (f := iV) (l := picks) (j := k) (by omega)
        rw [hx] at hc5
        simp only [iV] at hc5
        have hr := HPk.out x (List.mem_of_getElem? hxm)
        have d0 : decide (x < 0) = false := decide_eq_false (by omega)
        have d1 : decide ((T : Int) ≤ x) = false := decide_eq_false (by omega)
        clear hv5 hxm hx
        go_wp2_with fail
        go_quiet (fail)
        go_wp2_with fail
        go_roundw
        case rel => exact ⟨k + 1, by omega, by go_num, draw_below HB.out _⟩
        case measure => simp [intOf]; omega
      · obtain rfl : k = np := by omega
        have HBz := Lib.hid (below_more HB1.out HB.out)
        have HA := awake_any Wo (HT.out.below HBz.out)
        go_wp2_with fail
        refine HA.mono ?_
        rintro e w9 ⟨rfl, hb9⟩
        have HB9 := Lib.hid (below_more HBz.out hb9)
        clear hb9
        go_wp2
        go_ret
        exact ⟨rfl, HB9.out⟩
theorem scriptDecode_walk (a : Option Addr) (l c : Nat) (ns : List Nat) (w : World) (h : BytesArg w a l c ns) (ht : Pow w) : Calls Tryd.prog 6 #[.slice a l c] w fun e w' => e = .returned (.bool true) ∧ Below w.heap.size w w' := by
  obtain ⟨hb, rfl, hc, hk⟩ := h
  exact scriptDecode_any a c ns w hb hc hk ht
end Go.Proofs.YtkdigojjeiidmaaDoor
