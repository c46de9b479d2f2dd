/-
  The contracts of the document's at and call.
-/
import Derived.Test.YtkdigojjeiidmaaDoorField
namespace Go.Proofs.YtkdigojjeiidmaaDoor
open Go Go.RowKit Go.Shelf

/-- Bytes that lie below block B, from an address on; the slice's own length. -/
theorem at_any (B : Nat) (ad : Option Addr) (cap : Nat) (ns : List Nat) (i : Nat) (w : World) (hb : BytesIn B w ad ns) (hmax : ns.length ≤ 9223372036854775807) :
    Calls Tryd.prog 26 #[.slice ad ns.length cap, .int .i64 (i : Nat)] w fun e w' => e = .returned (.int .i64 (bt ns i : Nat)) ∧ w = w' := by
  obtain ⟨h255, hr⟩ := hb
  have hle := bt_le h255 i
  by_cases hi : i < ns.length
  · rcases hr with rfl | ⟨g, c, rfl, hg, hc⟩
    · simp at hi
    · have hj : ns[i]? = some (bt ns i) := by unfold bt; rw [List.getD_eq_getElem?_getD, List.getElem?_eq_getElem hi]; rfl
      have k0 := hc i _ hj
      generalize bt ns i = x at *
      clear hc hj h255
      obtain ⟨n, en⟩ : ∃ n, ns.length = n := ⟨_, rfl⟩
      rw [en] at hi hmax ⊢
      clear en
      have hi' : (i : Int) < n := by omega
      have hwr : IntKind.i64.wrap (x : Int) = x := by rw [IntKind.wrap_i64]; omega
      go_enter Tryd.func26, Tryd.ntmps26
      go_wp2
      go_ret
      exact ⟨rfl, rfl⟩
  · rw [bt_out (by omega)]
    obtain ⟨n, en⟩ : ∃ n, ns.length = n := ⟨_, rfl⟩
    rw [en] at hi hmax ⊢
    clear en hr h255
    have hi' : ¬ (i : Int) < n := by omega
    go_enter Tryd.func26, Tryd.ntmps26
    go_wp2
    go_ret
    exact ⟨rfl, rfl⟩

set_option maxRecDepth 8000 in
set_option maxHeartbeats 1600000 in
theorem refcall_4 (x y z : Nat) (w : World) (hx : x % 8 = 4) :
    Calls Tryd.prog 27 #[.int .i64 (x : Nat), .int .i64 (y : Nat), .int .i64 (z : Nat)] w fun e w' => CallDone w.heap.size (callM x y z) e w' ∧ Below w.heap.size w w' := by
  rw [callM_4 _ _ hx]
  have HX := Lib.hid hx
  obtain ⟨m0, em⟩ : ∃ m0, (7 : Int) = m0 := ⟨_, rfl⟩
  try rw [em]
  have EM := Lib.hid em
  have r8 : (x : Int).tmod 8 = ((x % 8 : Nat) : Int) := tmod_nat x 8
  clear em hx
  rw [HX.out] at r8
  go_enter Tryd.func27, Tryd.ntmps27
  go_wp2
  refine bodyPost_ret (by simp [results, Tryd.results27, go_sem]) rfl ⟨callDone_nil, (Below.refl _ _).alloc (Nat.le_refl _) _⟩
set_option maxRecDepth 8000 in
set_option maxHeartbeats 1600000 in
theorem refcall_5 (x y z : Nat) (w : World) (hx : x % 8 = 5) :
    Calls Tryd.prog 27 #[.int .i64 (x : Nat), .int .i64 (y : Nat), .int .i64 (z : Nat)] w fun e w' => CallDone w.heap.size (callM x y z) e w' ∧ Below w.heap.size w w' := by
  rw [callM_5 _ _ hx]
  have HX := Lib.hid hx
  obtain ⟨m0, em⟩ : ∃ m0, ((1 + y % 16 : Nat) : Int) = m0 := ⟨_, rfl⟩
  try rw [em]
  have EM := Lib.hid em
  have r8 : (x : Int).tmod 8 = ((x % 8 : Nat) : Int) := tmod_nat x 8
  clear em hx
  rw [HX.out] at r8
  have r16 : (y : Int).tmod 16 = ((y % 16 : Nat) : Int) := tmod_nat y 16
  have hm16 : y % 16 < 16 := Nat.mod_lt _ (by decide)
  have e16 : 1 + ((y % 16 : Nat) : Int) = m0 := by have := EM.out; omega
  generalize y % 16 = q at *
  go_enter Tryd.func27, Tryd.ntmps27
  go_wp2
  refine bodyPost_ret (by simp [results, Tryd.results27, go_sem]) rfl ⟨callDone_nil, (Below.refl _ _).alloc (Nat.le_refl _) _⟩
set_option maxRecDepth 8000 in
set_option maxHeartbeats 1600000 in
theorem refcall_7 (x y z : Nat) (w : World) (hx : x % 8 = 7) :
    Calls Tryd.prog 27 #[.int .i64 (x : Nat), .int .i64 (y : Nat), .int .i64 (z : Nat)] w fun e w' => CallDone w.heap.size (callM x y z) e w' ∧ Below w.heap.size w w' := by
  rw [callM_7 _ _ hx]
  have HX := Lib.hid hx
  obtain ⟨m0, em⟩ : ∃ m0, ((1 + y % 16 : Nat) : Int) = m0 := ⟨_, rfl⟩
  try rw [em]
  have EM := Lib.hid em
  have r8 : (x : Int).tmod 8 = ((x % 8 : Nat) : Int) := tmod_nat x 8
  clear em hx
  rw [HX.out] at r8
  have r16 : (y : Int).tmod 16 = ((y % 16 : Nat) : Int) := tmod_nat y 16
  have hm16 : y % 16 < 16 := Nat.mod_lt _ (by decide)
  have e16 : 1 + ((y % 16 : Nat) : Int) = m0 := by have := EM.out; omega
  generalize y % 16 = q at *
  go_enter Tryd.func27, Tryd.ntmps27
  go_wp2
  refine bodyPost_ret (by simp [results, Tryd.results27, go_sem]) rfl ⟨callDone_nil, (Below.refl _ _).alloc (Nat.le_refl _) _⟩
set_option maxRecDepth 8000 in
set_option maxHeartbeats 1600000 in
theorem refcall_0 (x y z : Nat) (w : World) (hx : x % 8 < 4) :
    Calls Tryd.prog 27 #[.int .i64 (x : Nat), .int .i64 (y : Nat), .int .i64 (z : Nat)] w fun e w' => CallDone w.heap.size (callM x y z) e w' ∧ Below w.heap.size w w' := by
  rw [callM_0 _ _ hx]
  have HX := Lib.hid hx
  obtain ⟨m0, em⟩ : ∃ m0, ((y % 32 * 2 ^ (z % 11) : Nat) : Int) = m0 := ⟨_, rfl⟩
  try rw [em]
  have EM := Lib.hid em
  have r8 : (x : Int).tmod 8 = ((x % 8 : Nat) : Int) := tmod_nat x 8
  clear em hx
  have hk : x % 8 < 4 := HX.out
  clear HX
  generalize x % 8 = k at *
  have r32 : (y : Int).tmod 32 = ((y % 32 : Nat) : Int) := tmod_nat y 32
  have r11 : (z : Int).tmod 11 = ((z % 11 : Nat) : Int) := tmod_nat z 11
  have hm32 : y % 32 < 32 := Nat.mod_lt _ (by decide)
  have hm11 : z % 11 < 11 := Nat.mod_lt _ (by decide)
  have t4 : ((k : Int) == 4) = false := by simp; omega
  have t5 : ((k : Int) == 5) = false := by simp; omega
  have t6 : ((k : Int) == 6) = false := by simp; omega
  have t7 : ((k : Int) == 7) = false := by simp; omega
  have hp : 2 ^ (z % 11) ≤ 2 ^ 10 := Nat.pow_le_pow_right (by decide) (by omega)
  have hq : y % 32 * 2 ^ (z % 11) ≤ 31 * 1024 := Nat.mul_le_mul (by omega) hp
  obtain ⟨s, es⟩ : ∃ s, z % 11 = s := ⟨_, rfl⟩
  obtain ⟨q, eq⟩ : ∃ q, y % 32 = q := ⟨_, rfl⟩
  have em := EM.out
  rw [es, eq] at em hq
  rw [es] at r11 hm11
  rw [eq] at r32 hm32
  have hwr : wrap64 ((q : Int) * 2 ^ s) = m0 := by
    rw [← em]
    have e : (q : Int) * 2 ^ s = ((q * 2 ^ s : Nat) : Int) := by push_cast; rfl
    rw [e]
    unfold wrap64
    omega
  clear hp hq es eq em
  go_enter Tryd.func27, Tryd.ntmps27
  go_wp2
  refine bodyPost_ret (by simp [results, Tryd.results27, go_sem]) rfl ⟨callDone_nil, (Below.refl _ _).alloc (Nat.le_refl _) _⟩
set_option maxRecDepth 8000 in
set_option maxHeartbeats 1600000 in
theorem refcall_6 (x y z : Nat) (hz : z ≤ 255) (w : World) (hx : x % 8 = 6) :
    Calls Tryd.prog 27 #[.int .i64 (x : Nat), .int .i64 (y : Nat), .int .i64 (z : Nat)] w fun e w' => CallDone w.heap.size (callM x y z) e w' ∧ Below w.heap.size w w' := by
  rw [callM_6 _ _ hx]
  have HX := Lib.hid hx
  obtain ⟨m0, em⟩ : ∃ m0, ((y % 2 : Nat) : Int) = m0 := ⟨_, rfl⟩
  try rw [em]
  have EM := Lib.hid em
  have r8 : (x : Int).tmod 8 = ((x % 8 : Nat) : Int) := tmod_nat x 8
  clear em hx
  rw [HX.out] at r8
  have r2 : (y : Int).tmod 2 = m0 := (tmod_nat y 2).trans EM.out
  obtain ⟨i0, hi0, hz0, hz1, hz2⟩ := info_parts' info3
  have hk0 : Below w.heap.size w (w.alloc (.cells #[.int .i64 0, .int .i64 0, .slice none 0 0] 36)) := (Below.refl _ _).alloc (Nat.le_refl _) _
  have HK0 := Lib.hid hk0
  have b0 : (w.alloc (.cells #[.int .i64 0, .int .i64 0, .slice none 0 0] 36)).heap[w.heap.size]? = some (.cells #[.int .i64 0, .int .i64 0, .slice none 0 0] 36 (0, 0)) := World.alloc_heap_new _ _
  have B0 := Lib.hid b0
  have hw3 : w.heap.size < (w.alloc (.cells #[.int .i64 0, .int .i64 0, .slice none 0 0] 36)).heap.size := by simp
  have HW := Lib.hid hw3
  clear hk0 b0 hw3
  go_enter Tryd.func27, Tryd.ntmps27
  go_wp2_with fail
  obtain ⟨w3, e3⟩ : ∃ w3, w.alloc (.cells #[.int .i64 0, .int .i64 0, .slice none 0 0] 36) = w3 := ⟨_, rfl⟩
  rw [e3] at HK0 B0 HW ⊢
  have hwlt := HW.out
  have hz3 : w3.heap.size = w.heap.size + 1 := by rw [← e3]; simp
  clear e3
  rw [← hz3]
  clear hz3
  go_loopw [8] (fun i wr => ∃ k : Nat, k ≤ 8 ∧ i = .int .i64 k ∧ BitsAt w3.heap.size m0 z k w3 wr) (fun i _ => 8 - (intOf i).toNat)
  case atStart => exact ⟨0, by omega, rfl, .slice none 0 0, World.alloc_heap_new _ _, World.ownsRow_nil _ _ _ _, (Below.refl _ _).alloc (Nat.le_refl _) _⟩
  case round =>
    obtain ⟨k, hk8, rfl, lv, hC, hown, hbw⟩ := hrel
    obtain ⟨Wo, hWo⟩ : ∃ Wo, Wo = wr := ⟨_, rfl⟩
    subst hWo
    obtain ⟨ld, lcap, rfl⟩ := own_slice hown
    have hlen := bitsM_len z k
    have HC := Lib.hid hC
    have HO := Lib.hid hown
    have HBw := Lib.hid hbw
    have hsz : w3.heap.size < Wo.heap.size := (Array.getElem?_eq_some_iff.1 hC).1
    have d2 := blk_cell hC 2
    have g2 := blk_frozen hC 2
    simp at d2
    clear hC hown hbw
    by_cases hlt : k < 8
    · have hdiv : z / 2 ^ k < 256 := Nat.lt_of_le_of_lt (Nat.div_le_self _ _) (by omega)
      have hbit := i64_and1 (z / 2 ^ k) hdiv
      have Hsucc := Lib.hid (show bitsM z (k + 1) = bitsM z k ++ if z / 2 ^ k % 2 = 1 then [(k : Int)] else [] from rfl)
      have ediv : ((z / 2 ^ k : Nat) : Int) = (z : Int) / 2 ^ k := by push_cast; rfl
      rw [ediv] at hbit
      clear ediv hdiv
      generalize bitsM z k = L at *
      by_cases hb1 : z / 2 ^ k % 2 = 1
      · rw [hb1] at hbit
        rw [if_pos hb1] at Hsucc
        clear hb1
        have Hnews := Lib.hid (World.news_of_block (World.alloc_heap_new Wo (.cells #[.int .i64 (k : Nat)] 3)))
        have Hone := Lib.hid (show ∀ v ∈ [Value.int .i64 (k : Nat)], v.oneCell' = true by simp [Value.oneCell'])
        have Hl2 := Lib.hid (HO.out.alloc (.cells #[.int .i64 (k : Nat)] 3))
        go_wp2_with (at_builtin; refine wpList_append_lies _ rfl _ _ 27 rfl (w3.heap.size + 1) 3 i0 (.int .i64 0) 1 8 Tryd.underlying27 hi0 hz0 hz1 hz2 rfl (by decide) _ _ _ rfl Hl2.out _ 1 1 _ rfl rfl Hnews.out Hone.out (by omega) (by unfold maxLen; omega) (by omega) (by simp; omega) _ rfl ?_; intro g' cap' w1 hown' hgrow _ _; have HC1 := Lib.hid (blk_grown hgrow ((Below.heap_alloc _ _ _ hsz).trans HC.out) (fun e => by have := own_later HO.out _ e; omega)); have x2 := blk_cell HC1.out 2; have y2 := blk_frozen HC1.out 2; simp at x2)
        have HB1 := Lib.hid ((HBw.out.alloc (by omega) (.cells #[.int .i64 (k : Nat)] 3)).grown hgrow (by simp; omega) (fun j e => by have := own_later HO.out _ e; omega))
        have hs1 : w3.heap.size < w1.heap.size := (Array.getElem?_eq_some_iff.1 HC1.out).1
        go_roundw
        case rel =>
          refine ⟨k + 1, by omega, by go_num, _, (blk_set HC1.out 2 _).trans (by simp; rfl), ?_, HB1.out.setCell (Nat.le_refl _) _⟩
          rw [Hsucc.out, List.map_append, List.length_append]
          exact own_kept hown' (fun g hg => Below.heap_setCell _ _ _ _ (show g ≠ w3.heap.size by have := own_later hown' _ hg; omega))
        case measure => simp [intOf]; omega
      · have hb0 : z / 2 ^ k % 2 = 0 := by omega
        rw [hb0] at hbit
        rw [if_neg hb1, List.append_nil] at Hsucc
        clear hb1 hb0
        go_wp2_with fail
        go_roundw
        case rel => exact ⟨k + 1, by omega, by go_num, _, HC.out, by rw [Hsucc.out]; exact HO.out, HBw.out⟩
        case measure => simp [intOf]; omega
    · obtain rfl : k = 8 := by omega
      have d0 := blk_cell HC.out 0
      have d1 := blk_cell HC.out 1
      have B4 := Lib.hid ((HBw.out.block w.heap.size hwlt).trans B0.out)
      have c0 := blk_cell B4.out 0
      have c1 := blk_cell B4.out 1
      have c2 := blk_cell B4.out 2
      have f0 := blk_frozen B4.out 0
      have f1 := blk_frozen B4.out 1
      have f2 := blk_frozen B4.out 2
      simp at c0 c1 c2 d0 d1
      have K4 := Lib.hid (HK0.out.trans (HBw.out.mono (Nat.le_of_lt hwlt)))
      go_wp2
      refine bodyPost_ret (by simp [results, Tryd.results27, go_sem, c0, c1, c2]; rfl) rfl ⟨⟨_, rfl, own_kept (own_weaken HO.out (by omega)) (fun g hg => ?_)⟩, ?_⟩
      · have hne : g ≠ w.heap.size := by have := own_later HO.out _ hg; omega
        exact (Below.heap_setCell _ _ _ _ hne).trans ((Below.heap_setCell _ _ _ _ hne).trans (Below.heap_setCell _ _ _ _ hne))
      exact ((K4.out.setCell (p := ⟨w.heap.size, 0, none⟩) (Nat.le_refl _) _).setCell (p := ⟨w.heap.size, 1, none⟩) (Nat.le_refl _) _).setCell (p := ⟨w.heap.size, 2, none⟩) (Nat.le_refl _) _
theorem refcall_any (x y z : Nat) (hz : z ≤ 255) (w : World) :
    Calls Tryd.prog 27 #[.int .i64 (x : Nat), .int .i64 (y : Nat), .int .i64 (z : Nat)] w fun e w' => CallDone w.heap.size (callM x y z) e w' ∧ Below w.heap.size w w' := by
  rcases (show x % 8 < 4 ∨ x % 8 = 4 ∨ x % 8 = 5 ∨ x % 8 = 6 ∨ x % 8 = 7 by omega) with hx | hx | hx | hx | hx
  · exact refcall_0 x y z w hx
  · exact refcall_4 x y z w hx
  · exact refcall_5 x y z w hx
  · exact refcall_6 x y z hz w hx
  · exact refcall_7 x y z w hx
end Go.Proofs.YtkdigojjeiidmaaDoor
