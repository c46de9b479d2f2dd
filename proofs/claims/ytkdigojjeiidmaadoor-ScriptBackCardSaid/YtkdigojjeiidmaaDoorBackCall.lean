/-
  ScriptBack's call by numbers: its contract.
-/
import Derived.Test.YtkdigojjeiidmaaDoorBackPlain
import Derived.Test.YtkdigojjeiidmaaDoorCall
namespace Go.Proofs.YtkdigojjeiidmaaDoor
open Go Go.RowKit Go.Shelf

/-- A slice of 16-bit numbers, as it lies. -/
def ShortsAt (w : World) (v : Value) (l : List Nat) : Prop :=
  ∃ ad cap, v = .slice ad l.length cap ∧ (l = [] ∨ ∃ g c, ad = some ⟨g, c, none⟩ ∧ g < w.heap.size ∧ (∀ (j : Nat) (x : Nat), l[j]? = some x → w.cell? ⟨g, c + j, none⟩ = some (.int .u16 (x : Nat))))
def CallBDone (base : Nat) (o : CallP) (w : World) (e : Ending) (w' : World) : Prop := ∃ lv, e = .returned (callV o lv) ∧ IntsAt w' lv o.L ∧ Below base w w'
theorem callDone {base : Nat} {w w' : World} {o : CallP} {lv : Value} (hi : IntsAt w' lv o.L) (hb : Below base w w') : CallBDone base o w (.returned (.agg #[.int .i64 o.kind, .int .i64 o.a, lv])) w' := ⟨lv, rfl, hi, hb⟩
theorem callB_0 {k a n : Nat} {l : List Nat} (h : k % 5 = 0) : callB k a n l = ⟨1, (n / 2 : Nat), []⟩ := by unfold callB; rw [if_pos h]
theorem callB_1 {k a n : Nat} {l : List Nat} (h : k % 5 = 1) : callB k a n l = ⟨2, 0, []⟩ := by unfold callB; rw [if_neg (by omega), if_pos h]
theorem callB_2 {k a n : Nat} {l : List Nat} (h : k % 5 = 2) : callB k a n l = ⟨3, 1 + (n % 4096 : Nat), []⟩ := by unfold callB; rw [if_neg (by omega), if_neg (by omega), if_pos h]
theorem callB_3 {k a n : Nat} {l : List Nat} (h : k % 5 = 3) : callB k a n l = ⟨5, 1 + (n % 4096 : Nat), []⟩ := by unfold callB; rw [if_neg (by omega), if_neg (by omega), if_neg (by omega), if_pos h]
theorem callB_4 {k a n : Nat} {l : List Nat} (h : k % 5 = 4) : callB k a n l = ⟨4, (a % 2 : Nat), atsJ l (min l.length 8)⟩ := by unfold callB; rw [if_neg (by omega), if_neg (by omega), if_neg (by omega), if_neg (by omega)]

/-- The call in the making: so many names. -/
def BackAt (w W2 : World) (m0 : Int) (ls : List Nat) (j : Nat) (wr : World) : Prop :=
  ∃ lv, wr.heap[w.heap.size + 1]? = some (.cells #[.int .i64 4, .int .i64 m0, lv] 36 (0, 0)) ∧ wr.heap[w.heap.size]? = some (.cells #[.int .i64 0, .int .i64 0, .slice none 0 0] 36 (0, 0)) ∧ wr.ownsRow W2.heap.size 3 1 lv j ((atsJ ls j).map iV) ∧ Below w.heap.size w wr
set_option maxRecDepth 8000 in
set_option maxHeartbeats 4000000 in
theorem callB_any (k a n : Nat) (_hk : k ≤ 255) (ha : a ≤ 255) (hn : n < 18446744073709551616) (sv : Value) (ls : List Nat) (w : World) (hs : ShortsAt w sv ls) (h65 : ∀ x ∈ ls, x ≤ 65535) (hmax : ls.length ≤ 9223372036854775807) :
    Calls Tryd.prog 23 #[.int .u8 k, .int .u8 a, .int .u64 n, sv] w fun e w' => CallBDone w.heap.size (callB k a n ls) w e w' := by
  obtain ⟨sd, sc, rfl, hs⟩ := hs
  have q5 : (k : Int).tmod 5 = ((k % 5 : Nat) : Int) := tmod_nat k 5
  have h5 : k % 5 < 5 := Nat.mod_lt _ (by decide)
  obtain ⟨q, eq⟩ : ∃ q, k % 5 = q := ⟨_, rfl⟩
  rw [eq] at q5 h5
  rcases (show q = 0 ∨ q = 1 ∨ q = 2 ∨ q = 3 ∨ q = 4 by omega) with rfl | rfl | rfl | rfl | rfl
  · rw [callB_0 eq, show ((n / 2 : Nat) : Int) = (n : Int) / 2 by omega]
    clear eq hs
    go_enter Tryd.func23, Tryd.ntmps23
    go_wp2_with fail
    refine bodyPost_ret (by simp [results, Tryd.results23, go_sem]) rfl (callDone (o := ⟨1, (n : Int) / 2, []⟩) (intsAt_nil _) ?_)
    exact (Below.refl _ _).alloc (Nat.le_refl _) _
  · rw [callB_1 eq]
    clear eq hs
    go_enter Tryd.func23, Tryd.ntmps23
    go_wp2_with fail
    refine bodyPost_ret (by simp [results, Tryd.results23, go_sem]) rfl (callDone (o := ⟨2, 0, []⟩) (intsAt_nil _) ?_)
    exact (Below.refl _ _).alloc (Nat.le_refl _) _
  · rw [callB_2 eq, show ((n % 4096 : Nat) : Int) = (n : Int) % 4096 by omega]
    clear eq hs
    go_enter Tryd.func23, Tryd.ntmps23
    go_wp2_with fail
    refine bodyPost_ret (by simp [results, Tryd.results23, go_sem]) rfl (callDone (o := ⟨3, 1 + (n : Int) % 4096, []⟩) (intsAt_nil _) ?_)
    exact (Below.refl _ _).alloc (Nat.le_refl _) _
  · rw [callB_3 eq, show ((n % 4096 : Nat) : Int) = (n : Int) % 4096 by omega]
    clear eq hs
    go_enter Tryd.func23, Tryd.ntmps23
    go_wp2_with fail
    refine bodyPost_ret (by simp [results, Tryd.results23, go_sem]) rfl (callDone (o := ⟨5, 1 + (n : Int) % 4096, []⟩) (intsAt_nil _) ?_)
    exact (Below.refl _ _).alloc (Nat.le_refl _) _
  · rw [callB_4 eq, show ((a % 2 : Nat) : Int) = (a : Int) % 2 by omega]
    have r2 : (a : Int).tmod 2 = (a : Int) % 2 := (tmod_nat a 2).trans (by omega)
    obtain ⟨m0, em⟩ : ∃ m0, (a : Int) % 2 = m0 := ⟨_, rfl⟩
    rw [em] at r2 ⊢
    obtain ⟨n0, hn0⟩ : ∃ n0, ls.length = n0 := ⟨_, rfl⟩
    rw [hn0] at hmax ⊢
    have Hn0 := Lib.hid hn0
    have HS := Lib.hid hs
    have HL := Lib.hid (atJ_bound h65)
    have H65 := Lib.hid (getD_small h65)
    obtain ⟨M, eM⟩ : ∃ M, min n0 8 = M := ⟨_, rfl⟩
    rw [eM]
    have hM1 : M ≤ n0 ∧ M ≤ 8 ∧ (M = n0 ∨ M = 8) := by omega
    clear eq hs em hn0 h65 eM
    obtain ⟨i0, hi0, hz0, hz1, hz2⟩ := info_parts' info3
    go_enter Tryd.func23, Tryd.ntmps23
    go_wp2_with fail
    obtain ⟨W2, eW⟩ : ∃ W2, (w.alloc (.cells #[.int .i64 0, .int .i64 0, .slice none 0 0] 36)).alloc (.cells #[.int .i64 4, .int .i64 m0, .slice none 0 0] 36) = W2 := ⟨_, rfl⟩
    have hs1 : (w.alloc (.cells #[.int .i64 0, .int .i64 0, .slice none 0 0] 36)).heap.size = w.heap.size + 1 := by simp
    have hz2' : W2.heap.size = w.heap.size + 2 := by rw [← eW]; simp
    have sC : W2.heap[w.heap.size + 1]? = some (.cells #[.int .i64 4, .int .i64 m0, .slice none 0 0] 36 (0, 0)) := by rw [← eW, ← hs1]; exact World.alloc_heap_new _ _
    have sR : W2.heap[w.heap.size]? = some (.cells #[.int .i64 0, .int .i64 0, .slice none 0 0] 36 (0, 0)) := by rw [← eW]; exact (Below.heap_alloc _ _ _ (by simp)).trans (World.alloc_heap_new _ _)
    have kW : Below w.heap.size w W2 := by rw [← eW]; exact ((Below.refl _ w).alloc (Nat.le_refl _) _).alloc (by simp) _
    have HC2 := Lib.hid sC
    have HR2 := Lib.hid sR
    have HW2 := Lib.hid kW
    have Hz2 := Lib.hid hz2'
    clear hs1 sC sR kW hz2'
    try rw [eW]
    clear eW
    go_loopw [10, 11] (fun x i wr => ∃ j : Nat, j ≤ M ∧ x = .int .i64 (atJ ls j) ∧ i = .int .i64 j ∧ BackAt w W2 m0 ls j wr) (fun _ i _ => M - (intOf i).toNat)
    case atStart => exact ⟨0, by omega, rfl, rfl, _, HC2.out, HR2.out, World.ownsRow_nil _ _ _ _, HW2.out⟩
    case round =>
      obtain ⟨j, hj, rfl, rfl, lv, hC, hR, hown, hbw⟩ := hrel
      obtain ⟨Wo, hWo⟩ : ∃ Wo, Wo = wr := ⟨_, rfl⟩
      subst hWo
      obtain ⟨ld, lcap, rfl⟩ := own_slice hown
      have HC := Lib.hid hC
      have HR := Lib.hid hR
      have HO := Lib.hid hown
      have HBw := Lib.hid hbw
      have hsz : w.heap.size + 1 < Wo.heap.size := (Array.getElem?_eq_some_iff.1 hC).1
      have d2 := blk_cell hC 2
      have g2 := blk_frozen hC 2
      simp at d2
      have hB := HL.out j
      have Hsucc := Lib.hid (show atsJ ls (j + 1) = atsJ ls j ++ [atJ ls (j + 1)] from rfl)
      have hstep : atJ ls (j + 1) = atJ ls j + 1 + (ls.getD j 0 : Nat) := rfl
      clear hC hR hown hbw
      by_cases hlt : j < M
      · have hj8 : (j : Int) < 8 := by omega
        have hjn : (j : Int) < n0 := by omega
        have hjl : j < ls.length := by rw [Hn0.out]; omega
        obtain ⟨g, c, rfl, hg, hc⟩ := HS.out.resolve_left (fun e => by rw [e] at hjl; simp at hjl)
        have hx := hc j _ (List.getElem?_eq_getElem hjl)
        have ex : ls.getD j 0 = ls[j] := by rw [List.getD_eq_getElem?_getD, List.getElem?_eq_getElem hjl]; rfl
        rw [← ex] at hx
        have hcell := ((HBw.out.cell (p := ⟨g, c + j, none⟩) hg)).trans hx
        have hxb := H65.out j
        clear hc hx ex
        generalize ls.getD j 0 = x at *
        obtain ⟨A', eA⟩ : ∃ A', atJ ls (j + 1) = A' := ⟨_, rfl⟩
        rw [eA] at hstep Hsucc
        have HA := Lib.hid eA
        have HA0 := Lib.hid (show atJ ls j = atJ ls j from rfl)
        clear eA
        generalize atJ ls j = A at *
        have w1 : A + 1 + (x : Int) = A' := hstep.symm
        have hA' : -1 ≤ A' ∧ A' ≤ 1000000 := by omega
        have hA0 : -1 ≤ A ∧ A ≤ 1000000 := by omega
        obtain ⟨h1a, h1b⟩ := hA'
        obtain ⟨h2a, h2b⟩ := hA0
        clear hstep hB
        have Hnews := Lib.hid (World.news_of_block (World.alloc_heap_new Wo (.cells #[.int .i64 A'] 3)))
        have Hone := Lib.hid (show ∀ v ∈ [Value.int .i64 A'], v.oneCell' = true by simp [Value.oneCell'])
        have Hl2 := Lib.hid (HO.out.alloc (.cells #[.int .i64 A'] 3))
        go_wp2_with (at_builtin; refine wpList_append_lies _ rfl _ _ 27 rfl W2.heap.size 3 i0 (.int .i64 0) 1 8 Tryd.underlying27 hi0 hz0 hz1 hz2 rfl (by decide) _ _ _ rfl Hl2.out _ 1 1 _ rfl rfl Hnews.out Hone.out (by omega) (by unfold maxLen; omega) (by omega) (by have := Hz2.out; simp; omega) _ rfl ?_; intro g' cap' w3 hown' hgrow _ _; have HC1 := Lib.hid (blk_grown hgrow ((Below.heap_alloc _ _ _ hsz).trans HC.out) (fun e => by have := own_later HO.out _ e; have := Hz2.out; omega)); have HR1 := Lib.hid (blk_grown hgrow ((Below.heap_alloc _ _ _ (by omega)).trans HR.out) (fun e => by have := own_later HO.out _ e; have := Hz2.out; omega)); have x2 := blk_cell HC1.out 2; have y2 := blk_frozen HC1.out 2; simp at x2)
        have HB1 := Lib.hid ((HBw.out.alloc (by omega) (.cells #[.int .i64 A'] 3)).grown hgrow (by simp; omega) (fun j e => by have := own_later HO.out _ e; have := Hz2.out; omega))
        go_roundw
        case rel =>
          refine ⟨j + 1, by omega, by rw [HA.out], by go_num, _, (blk_set HC1.out 2 _).trans (by simp; rfl), (Below.heap_setCell _ _ _ _ (show w.heap.size ≠ w.heap.size + 1 by omega)).trans HR1.out, ?_, HB1.out.setCell (p := ⟨w.heap.size + 1, 2, none⟩) (Nat.le_succ _) _⟩
          rw [Hsucc.out, List.map_append]
          exact own_kept hown' (fun g hg => Below.heap_setCell _ _ _ _ (show g ≠ w.heap.size + 1 by have := own_later hown' _ hg; have := Hz2.out; omega))
        case measure => simp [intOf]; omega
      · obtain rfl : j = M := by omega
        have d0 := blk_cell HC.out 0
        have d1 := blk_cell HC.out 1
        have c0 := blk_cell HR.out 0
        have c1 := blk_cell HR.out 1
        have c2 := blk_cell HR.out 2
        have f0 := blk_frozen HR.out 0
        have f1 := blk_frozen HR.out 1
        have f2 := blk_frozen HR.out 2
        simp at c0 c1 c2 d0 d1
        have HI := Lib.hid (ints_of_owns HO.out)
        have HF := Lib.hid (far_own (R := w.heap.size) HO.out (by have := Hz2.out; omega))
        clear hB hstep
        by_cases hjn : (j : Int) < n0
        · have h8 : ¬ (j : Int) < 8 := by omega
          go_wp2
          refine bodyPost_ret (by simp [results, Tryd.results23, go_sem, c0, c1, c2]) rfl (callDone (o := ⟨4, m0, atsJ ls j⟩) (((HI.out.set HF.out _ _).set HF.out _ _).set HF.out _ _) ?_)
          exact ((HBw.out.setCell (p := ⟨w.heap.size, 0, none⟩) (Nat.le_refl _) _).setCell (p := ⟨w.heap.size, 1, none⟩) (Nat.le_refl _) _).setCell (p := ⟨w.heap.size, 2, none⟩) (Nat.le_refl _) _
        · go_wp2
          refine bodyPost_ret (by simp [results, Tryd.results23, go_sem, c0, c1, c2]) rfl (callDone (o := ⟨4, m0, atsJ ls j⟩) (((HI.out.set HF.out _ _).set HF.out _ _).set HF.out _ _) ?_)
          exact ((HBw.out.setCell (p := ⟨w.heap.size, 0, none⟩) (Nat.le_refl _) _).setCell (p := ⟨w.heap.size, 1, none⟩) (Nat.le_refl _) _).setCell (p := ⟨w.heap.size, 2, none⟩) (Nat.le_refl _) _
end Go.Proofs.YtkdigojjeiidmaaDoor
