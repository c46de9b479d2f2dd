/-
  The statement of Ops that makes a call: it draws its order, asks for a size, and lays a block.
-/
import Derived.Test.YtomheapokfphiaaDoorLinTable
import Derived.Test.YtomheapokfphiaaDoorLinSize
namespace Go.Proofs.YtomheapokfphiaaDoor
open Go Go.RowKit Go.Shelf

def zeroOp : Array Value := #[.int .i64 0, .int .i64 0, .int .i64 0, .int .i64 0, .slice none 0 0, .int .i64 0, .int .i64 0]
def newOp (n1 n2 n3 : Nat) : Array Value := #[.int .i64 1, .int .i64 (sizeOf26 n1), .int .i64 (128 * ((n3 % 70 : Nat) : Int)), .int .i64 0, .slice none 0 0, .int .i64 ((n2 % 20 : Nat) : Int), .int .i64 0]

def opsSpec (gn cn n cap i n1 n2 n3 : Nat) : TSpec where
  D := fun
    | 0 => some (some 22, .move (.tmp 0), [])
    | 1 => some (some 23, .move (.tmp 6), [])
    | 2 => some (some 24, .binOp .add 3 (.tmp 23) (.const (.int .i64 1)) 3, [1])
    | 3 => some (some 25, .indexAddr 38 (.tmp 22) (.tmp 24), [0, 2])
    | 4 => some (some 26, .load 5 (.tmp 25), [3])
    | 5 => some (some 27, .convert 5 3 (.tmp 26), [4])
    | 6 => some (some 28, .call { callee := .value (.func 47), args := #[.tmp 27], argTypes := #[3] }, [5])
    | 7 => some (some 29, .move (.tmp 0), [])
    | 8 => some (some 30, .move (.tmp 6), [])
    | 9 => some (some 31, .binOp .add 3 (.tmp 30) (.const (.int .i64 2)) 3, [8])
    | 10 => some (some 32, .indexAddr 38 (.tmp 29) (.tmp 31), [7, 9])
    | 11 => some (some 33, .load 5 (.tmp 32), [10])
    | 12 => some (some 34, .convert 5 3 (.tmp 33), [11])
    | 13 => some (some 35, .binOp .rem 3 (.tmp 34) (.const (.int .i64 20)) 3, [12])
    | 14 => some (some 36, .move (.tmp 0), [])
    | 15 => some (some 37, .move (.tmp 6), [])
    | 16 => some (some 38, .binOp .add 3 (.tmp 37) (.const (.int .i64 3)) 3, [15])
    | 17 => some (some 39, .indexAddr 38 (.tmp 36) (.tmp 38), [14, 16])
    | 18 => some (some 40, .load 5 (.tmp 39), [17])
    | 19 => some (some 41, .convert 5 3 (.tmp 40), [18])
    | 20 => some (some 42, .binOp .rem 3 (.tmp 41) (.const (.int .i64 70)) 3, [19])
    | 21 => some (some 43, .binOp .mul 3 (.const (.int .i64 128)) (.tmp 42) 3, [20])
    | 22 => some (some 44, .build 50 #[(0, .const (.int .i64 1)), (1, .tmp 28), (5, .tmp 35), (2, .tmp 43)], [6, 13, 21])
    | 23 => some (some 7, .alloc 50, [])
    | 24 => some (none, .store 50 (.tmp 7) (.tmp 44), [23, 22, 6])
    | _ => none
  triv := fun
    | 0 => some (22, .slice (some ⟨gn, cn, none⟩) n cap)
    | 1 => some (23, .int .i64 (i : Nat))
    | 2 => some (24, .int .i64 ((i + 1 : Nat) : Int))
    | 3 => some (25, .pointer (some ⟨gn, cn + (i + 1), none⟩))
    | 4 => some (26, .int .u8 (n1 : Nat))
    | 5 => some (27, .int .i64 (n1 : Nat))
    | 6 => some (28, .int .i64 (sizeOf26 n1))
    | 7 => some (29, .slice (some ⟨gn, cn, none⟩) n cap)
    | 8 => some (30, .int .i64 (i : Nat))
    | 9 => some (31, .int .i64 ((i + 2 : Nat) : Int))
    | 10 => some (32, .pointer (some ⟨gn, cn + (i + 2), none⟩))
    | 11 => some (33, .int .u8 (n2 : Nat))
    | 12 => some (34, .int .i64 (n2 : Nat))
    | 13 => some (35, .int .i64 ((n2 % 20 : Nat) : Int))
    | 14 => some (36, .slice (some ⟨gn, cn, none⟩) n cap)
    | 15 => some (37, .int .i64 (i : Nat))
    | 16 => some (38, .int .i64 ((i + 3 : Nat) : Int))
    | 17 => some (39, .pointer (some ⟨gn, cn + (i + 3), none⟩))
    | 18 => some (40, .int .u8 (n3 : Nat))
    | 19 => some (41, .int .i64 (n3 : Nat))
    | 20 => some (42, .int .i64 ((n3 % 70 : Nat) : Int))
    | 21 => some (43, .int .i64 (128 * ((n3 % 70 : Nat) : Int)))
    | 22 => some (44, .agg (newOp n1 n2 n3))
    | _ => none
  lo := 22
  hi := 44
  odd := [7]
  N := 25

theorem run_build50 {o : Oper} {a : Act} {w : World} {n1 n2 n3 : Nat} (hp : o.op = .build 50 #[(0, .const (.int .i64 1)), (1, .tmp 28), (5, .tmp 35), (2, .tmp 43)]) (h1 : Tm a 28 = .int .i64 (sizeOf26 n1)) (h2 : Tm a 35 = .int .i64 ((n2 % 20 : Nat) : Int)) (h3 : Tm a 43 = .int .i64 (128 * ((n3 % 70 : Nat) : Int))) :
    (execOp a.eval o).run Tryd.prog w = .ok (.value (.agg (newOp n1 n2 n3))) w := by
  have h1' := tm_get h1
  have h2' := tm_get h2
  have h3' := tm_get h3
  unfold newOp
  generalize sizeOf26 n1 = z at *
  generalize n2 % 20 = y at *
  generalize n3 % 70 = x at *
  simp [execOp, hp, h1', h2', h3', go_sem]
theorem run_alloc50 {o : Oper} {a : Act} {w : World} (hp : o.op = .alloc 50) : (execOp a.eval o).run Tryd.prog w = .ok (.value (.pointer (some ⟨w.heap.size, 0, none⟩))) (w.alloc (.cells zeroOp 50)) := by
  unfold zeroOp
  simp [execOp, hp, go_sem]
theorem run_store50 {o : Oper} {a : Act} {w : World} {K : Act → World → Prop} {Q : Exit → Act → World → Prop} {G n1 n2 n3 : Nat} (hp : o.op = .store 50 (.tmp 7) (.tmp 44)) (hd : o.dst = none) (h : Tm a 7 = .pointer (some ⟨G, 0, none⟩)) (hv : Tm a 44 = .agg (newOp n1 n2 n3))
    (hb : w.heap[G]? = some (.cells zeroOp 50 (0, 0))) (hK : ∀ w', w'.heap[G]? = some (.cells (newOp n1 n2 n3) 50 (0, 0)) → (∀ B, B ≤ G → ∀ w0, Below B w0 w → Below B w0 w') → K a w') : Oper.wp Tryd.prog o a w K Q := by
  have h' := tm_get h
  have hv' := tm_get hv
  unfold Oper.wp
  unfold newOp at hv' hK
  have c0 := blk_cell hb 0
  have c1 := blk_cell hb 1
  have c2 := blk_cell hb 2
  have c3 := blk_cell hb 3
  have c4 := blk_cell hb 4
  have c5 := blk_cell hb 5
  have c6 := blk_cell hb 6
  have f0 := blk_frozen hb 0
  have f1 := blk_frozen hb 1
  have f2 := blk_frozen hb 2
  have f3 := blk_frozen hb 3
  have f4 := blk_frozen hb 4
  have f5 := blk_frozen hb 5
  have f6 := blk_frozen hb 6
  unfold zeroOp at hb c0 c1 c2 c3 c4 c5 c6
  generalize sizeOf26 n1 = z at *
  generalize n2 % 20 = y at *
  generalize n3 % 70 = x at *
  have hr : (execOp a.eval o).run Tryd.prog w = .ok .skip (((((((w.setCell ⟨G, 0, none⟩ (.int .i64 1)).setCell ⟨G, 1, none⟩ (.int .i64 z)).setCell ⟨G, 2, none⟩ (.int .i64 (128 * (x : Int)))).setCell ⟨G, 3, none⟩ (.int .i64 0)).setCell ⟨G, 4, none⟩ (.slice none 0 0)).setCell ⟨G, 5, none⟩ (.int .i64 y)).setCell ⟨G, 6, none⟩ (.int .i64 0)) := by
    simp [execOp, hp, h', hv', go_sem, c0, c1, c2, c3, c4, c5, c6, f0, f1, f2, f3, f4, f5, f6]
  rw [hr, Oper.upon_skip, hd]
  refine hK _ ?_ ?_
  · have := blk_set (blk_set (blk_set (blk_set (blk_set (blk_set (blk_set hb 0 (.int .i64 1)) 1 (.int .i64 z)) 2 (.int .i64 (128 * (x : Int)))) 3 (.int .i64 0)) 4 (.slice none 0 0)) 5 (.int .i64 y)) 6 (.int .i64 0)
    simpa using this
  · intro B hB w0 hb
    exact ((((((hb.setCell (p := ⟨G, 0, none⟩) hB _).setCell (p := ⟨G, 1, none⟩) hB _).setCell (p := ⟨G, 2, none⟩) hB _).setCell (p := ⟨G, 3, none⟩) hB _).setCell (p := ⟨G, 4, none⟩) hB _).setCell (p := ⟨G, 5, none⟩) hB _).setCell (p := ⟨G, 6, none⟩) hB _
theorem run_call47 {o : Oper} {a : Act} {w : World} {K : Act → World → Prop} {Q : Exit → Act → World → Prop} {n1 : Nat} (hp : o.op = .call { callee := .value (.func 47), args := #[.tmp 27], argTypes := #[3] }) (h : Tm a 27 = .int .i64 (n1 : Nat)) (b1 : n1 ≤ 255)
    (hK : K (a.put o.dst (.int .i64 (sizeOf26 n1))) (w.alloc sizesO)) : Oper.wp Tryd.prog o a w K Q := by
  have h' := tm_get h
  unfold Oper.wp
  have hr : (execOp a.eval o).run Tryd.prog w = .ok (.enter 47 #[.int .i64 (n1 : Nat)]) w := by
    simp [execOp, hp, h', go_sem]
  rw [hr, Oper.upon_enter]
  refine (size47_any n1 b1 w).mono ?_
  rintro e w' ⟨rfl, rfl⟩
  exact hK

/-- What memory holds: old blocks as they were; the new block, once it is there. -/
def OpsMem (w0 : World) (n1 n2 n3 : Nat) (l : Array Bool) (a : Act) (w : World) : Prop :=
  Below w0.heap.size w0 w ∧ (Lst l 23 → ∃ G, Tm a 7 = .pointer (some ⟨G, 0, none⟩) ∧ w0.heap.size ≤ G ∧ G < w.heap.size ∧ (¬ Lst l 24 → w.heap[G]? = some (.cells zeroOp 50 (0, 0))) ∧ (Lst l 24 → w.heap[G]? = some (.cells (newOp n1 n2 n3) 50 (0, 0))))
theorem OpsMem.other {w0 w w' : World} {n1 n2 n3 : Nat} {l : Array Bool} {a a' : Act} (h : OpsMem w0 n1 n2 n3 l a w) {i : Nat} (hun : l.getD i true = false) (h23 : i ≠ 23) (h24 : i ≠ 24) (ha : Tm a' 7 = Tm a 7) (hb : Below w0.heap.size w0 w')
    (hs : w.heap.size ≤ w'.heap.size) (hw : ∀ g, g < w.heap.size → w'.heap[g]? = w.heap[g]?) : OpsMem w0 n1 n2 n3 (l.setIfInBounds i true) a' w' := by
  refine ⟨hb, fun hL => ?_⟩
  rw [lst_set hun] at hL
  obtain ⟨G, e, hg, hlt, h1, h2⟩ := h.2 (hL.resolve_right (fun e => h23 e.symm))
  refine ⟨G, ha.trans e, hg, Nat.lt_of_lt_of_le hlt hs, fun hn => (hw G hlt).trans (h1 fun hh => hn ((lst_set hun).2 (.inl hh))), fun hL2 => (hw G hlt).trans (h2 ?_)⟩
  rw [lst_set hun] at hL2
  exact hL2.resolve_right (fun e => h24 e.symm)

set_option maxHeartbeats 2000000 in
theorem ops_region {ops : Array Oper} {Q : Exit → Act → World → Prop} {id : Nat} {a0 : Act} {w0 : World} (gn cn n cap i n1 n2 n3 : Nat)
    (hT : (opsSpec gn cn n cap i n1 n2 n3).Text ops) (hn : ops.size = 25)
    (t0 : Tm a0 0 = .slice (some ⟨gn, cn, none⟩) n cap) (t6 : Tm a0 6 = .int .i64 (i : Nat)) (hs : 44 < a0.tmps.size) (hi : i + 5 < n) (hmax : n ≤ 9223372036854775807) (hgn : gn < w0.heap.size)
    (c1 : w0.cell? ⟨gn, cn + (i + 1), none⟩ = some (.int .u8 (n1 : Nat))) (c2 : w0.cell? ⟨gn, cn + (i + 2), none⟩ = some (.int .u8 (n2 : Nat))) (c3 : w0.cell? ⟨gn, cn + (i + 3), none⟩ = some (.int .u8 (n3 : Nat)))
    (b1 : n1 ≤ 255) (b2 : n2 ≤ 255) (b3 : n3 ≤ 255)
    (hQ : ∀ a w G, a.defers = a0.defers → a.tmps.size = a0.tmps.size → (∀ t, ((t < 22 ∨ 44 < t) ∧ t ≠ 7) → Tm a t = Tm a0 t) → Tm a 7 = .pointer (some ⟨G, 0, none⟩) → w0.heap.size ≤ G → w.heap[G]? = some (.cells (newOp n1 n2 n3) 50 (0, 0)) → Below w0.heap.size w0 w → Q .normal a w) :
    (Code.region id ops true).wp Tryd.prog Q a0 w0 := by
  refine table_region (opsSpec gn cn n cap i n1 n2 n3) (OpsMem w0 n1 n2 n3) (by kernel_rfl) hT hn ⟨(Below.refl _ w0).drew, fun hL => absurd hL (lst_none _ _)⟩ ?_ ?_
  · intro l a w h hall hM
    obtain ⟨G, e, hg, _, _, h2⟩ := hM.2 (hall 23 (by show 23 < 25; decide))
    refine hQ a w G h.defers h.size (fun t ht => h.out t ?_) e hg (h2 (hall 24 (by show 24 < 25; decide))) hM.1
    rintro (⟨x, y⟩ | x)
    · have x : 22 ≤ t := x
      have y : t ≤ 44 := y
      omega
    · exact ht.2 (List.mem_singleton.1 x)
  intro l a w i' o d p ds h hM hi' hD hd hp hpre hun
  have hi' : i' < 25 := hi'
  clear hT hQ hn
  rcases (show i' = 0 ∨ i' = 1 ∨ i' = 2 ∨ i' = 3 ∨ i' = 4 ∨ i' = 5 ∨ i' = 6 ∨ i' = 7 ∨ i' = 8 ∨ i' = 9 ∨ i' = 10 ∨ i' = 11 ∨ i' = 12 ∨ i' = 13 ∨ i' = 14 ∨ i' = 15 ∨ i' = 16 ∨ i' = 17 ∨ i' = 18 ∨ i' = 19 ∨ i' = 20 ∨ i' = 21 ∨ i' = 22 ∨ i' = 23 ∨ i' = 24 by omega) with rfl | rfl | rfl | rfl | rfl | rfl | rfl | rfl | rfl | rfl | rfl | rfl | rfl | rfl | rfl | rfl | rfl | rfl | rfl | rfl | rfl | rfl | rfl | rfl | rfl
  · cases hD
    exact op_of hd (run_move hp ((h.out 0 (show ¬ ((22 ≤ 0 ∧ 0 ≤ 44) ∨ 0 ∈ [7]) by decide)).trans t0)) ⟨h.plain hun rfl hpre rfl (fun k c' hk => by simp only [opsSpec] at hk; split at hk <;> first | rfl | (cases hk; done)) (.inl ⟨nle rfl, nle rfl⟩) (by omega), hM.other hun (nne rfl) (nne rfl) (by rw [tm_put (by rw [h.size]; omega), if_neg (by decide)]) hM.1 (Nat.le_refl _) (fun _ _ => rfl)⟩
  · cases hD
    exact op_of hd (run_move hp ((h.out 6 (show ¬ ((22 ≤ 6 ∧ 6 ≤ 44) ∨ 6 ∈ [7]) by decide)).trans t6)) ⟨h.plain hun rfl hpre rfl (fun k c' hk => by simp only [opsSpec] at hk; split at hk <;> first | rfl | (cases hk; done)) (.inl ⟨nle rfl, nle rfl⟩) (by omega), hM.other hun (nne rfl) (nne rfl) (by rw [tm_put (by rw [h.size]; omega), if_neg (by decide)]) hM.1 (Nat.le_refl _) (fun _ _ => rfl)⟩
  · cases hD
    exact op_of hd (run_addc hp (h.tri 1 23 _ rfl (hpre 1 (by simp))) (by rw [IntKind.wrap_i64]; omega)) ⟨h.plain hun rfl hpre rfl (fun k c' hk => by simp only [opsSpec] at hk; split at hk <;> first | rfl | (cases hk; done)) (.inl ⟨nle rfl, nle rfl⟩) (by omega), hM.other hun (nne rfl) (nne rfl) (by rw [tm_put (by rw [h.size]; omega), if_neg (by decide)]) hM.1 (Nat.le_refl _) (fun _ _ => rfl)⟩
  · cases hD
    exact op_of hd (run_index38 hp (h.tri 0 22 _ rfl (hpre 0 (by simp))) (h.tri 2 24 _ rfl (hpre 2 (by simp))) (by omega)) ⟨h.plain hun rfl hpre rfl (fun k c' hk => by simp only [opsSpec] at hk; split at hk <;> first | rfl | (cases hk; done)) (.inl ⟨nle rfl, nle rfl⟩) (by omega), hM.other hun (nne rfl) (nne rfl) (by rw [tm_put (by rw [h.size]; omega), if_neg (by decide)]) hM.1 (Nat.le_refl _) (fun _ _ => rfl)⟩
  · cases hD
    exact op_of hd (run_load5 hp (h.tri 3 25 _ rfl (hpre 3 (by simp))) ((hM.1.cell (p := ⟨gn, cn + (i + 1), none⟩) hgn).trans c1)) ⟨h.plain hun rfl hpre rfl (fun k c' hk => by simp only [opsSpec] at hk; split at hk <;> first | rfl | (cases hk; done)) (.inl ⟨nle rfl, nle rfl⟩) (by omega), hM.other hun (nne rfl) (nne rfl) (by rw [tm_put (by rw [h.size]; omega), if_neg (by decide)]) hM.1 (Nat.le_refl _) (fun _ _ => rfl)⟩
  · cases hD
    exact op_of hd (run_conv hp (h.tri 4 26 _ rfl (hpre 4 (by simp))) b1) ⟨h.plain hun rfl hpre rfl (fun k c' hk => by simp only [opsSpec] at hk; split at hk <;> first | rfl | (cases hk; done)) (.inl ⟨nle rfl, nle rfl⟩) (by omega), hM.other hun (nne rfl) (nne rfl) (by rw [tm_put (by rw [h.size]; omega), if_neg (by decide)]) hM.1 (Nat.le_refl _) (fun _ _ => rfl)⟩
  · cases hD
    refine run_call47 hp (h.tri 5 27 _ rfl (hpre 5 (by simp))) b1 ?_
    rw [hd]
    exact ⟨h.plain hun rfl hpre rfl (fun k c' hk => by simp only [opsSpec] at hk; split at hk <;> first | rfl | (cases hk; done)) (.inl ⟨nle rfl, nle rfl⟩) (by omega), hM.other hun (nne rfl) (nne rfl) (by rw [tm_put (by rw [h.size]; omega), if_neg (by decide)]) (hM.1.alloc hM.1.size _) (by simp) (fun g hg => Below.heap_alloc w _ g hg)⟩
  · cases hD
    exact op_of hd (run_move hp ((h.out 0 (show ¬ ((22 ≤ 0 ∧ 0 ≤ 44) ∨ 0 ∈ [7]) by decide)).trans t0)) ⟨h.plain hun rfl hpre rfl (fun k c' hk => by simp only [opsSpec] at hk; split at hk <;> first | rfl | (cases hk; done)) (.inl ⟨nle rfl, nle rfl⟩) (by omega), hM.other hun (nne rfl) (nne rfl) (by rw [tm_put (by rw [h.size]; omega), if_neg (by decide)]) hM.1 (Nat.le_refl _) (fun _ _ => rfl)⟩
  · cases hD
    exact op_of hd (run_move hp ((h.out 6 (show ¬ ((22 ≤ 6 ∧ 6 ≤ 44) ∨ 6 ∈ [7]) by decide)).trans t6)) ⟨h.plain hun rfl hpre rfl (fun k c' hk => by simp only [opsSpec] at hk; split at hk <;> first | rfl | (cases hk; done)) (.inl ⟨nle rfl, nle rfl⟩) (by omega), hM.other hun (nne rfl) (nne rfl) (by rw [tm_put (by rw [h.size]; omega), if_neg (by decide)]) hM.1 (Nat.le_refl _) (fun _ _ => rfl)⟩
  · cases hD
    exact op_of hd (run_addc hp (h.tri 8 30 _ rfl (hpre 8 (by simp))) (by rw [IntKind.wrap_i64]; omega)) ⟨h.plain hun rfl hpre rfl (fun k c' hk => by simp only [opsSpec] at hk; split at hk <;> first | rfl | (cases hk; done)) (.inl ⟨nle rfl, nle rfl⟩) (by omega), hM.other hun (nne rfl) (nne rfl) (by rw [tm_put (by rw [h.size]; omega), if_neg (by decide)]) hM.1 (Nat.le_refl _) (fun _ _ => rfl)⟩
  · cases hD
    exact op_of hd (run_index38 hp (h.tri 7 29 _ rfl (hpre 7 (by simp))) (h.tri 9 31 _ rfl (hpre 9 (by simp))) (by omega)) ⟨h.plain hun rfl hpre rfl (fun k c' hk => by simp only [opsSpec] at hk; split at hk <;> first | rfl | (cases hk; done)) (.inl ⟨nle rfl, nle rfl⟩) (by omega), hM.other hun (nne rfl) (nne rfl) (by rw [tm_put (by rw [h.size]; omega), if_neg (by decide)]) hM.1 (Nat.le_refl _) (fun _ _ => rfl)⟩
  · cases hD
    exact op_of hd (run_load5 hp (h.tri 10 32 _ rfl (hpre 10 (by simp))) ((hM.1.cell (p := ⟨gn, cn + (i + 2), none⟩) hgn).trans c2)) ⟨h.plain hun rfl hpre rfl (fun k c' hk => by simp only [opsSpec] at hk; split at hk <;> first | rfl | (cases hk; done)) (.inl ⟨nle rfl, nle rfl⟩) (by omega), hM.other hun (nne rfl) (nne rfl) (by rw [tm_put (by rw [h.size]; omega), if_neg (by decide)]) hM.1 (Nat.le_refl _) (fun _ _ => rfl)⟩
  · cases hD
    exact op_of hd (run_conv hp (h.tri 11 33 _ rfl (hpre 11 (by simp))) b2) ⟨h.plain hun rfl hpre rfl (fun k c' hk => by simp only [opsSpec] at hk; split at hk <;> first | rfl | (cases hk; done)) (.inl ⟨nle rfl, nle rfl⟩) (by omega), hM.other hun (nne rfl) (nne rfl) (by rw [tm_put (by rw [h.size]; omega), if_neg (by decide)]) hM.1 (Nat.le_refl _) (fun _ _ => rfl)⟩
  · cases hD
    exact op_of hd (run_rem20 hp (h.tri 12 34 _ rfl (hpre 12 (by simp))) rfl b2) ⟨h.plain hun rfl hpre rfl (fun k c' hk => by simp only [opsSpec] at hk; split at hk <;> first | rfl | (cases hk; done)) (.inl ⟨nle rfl, nle rfl⟩) (by omega), hM.other hun (nne rfl) (nne rfl) (by rw [tm_put (by rw [h.size]; omega), if_neg (by decide)]) hM.1 (Nat.le_refl _) (fun _ _ => rfl)⟩
  · cases hD
    exact op_of hd (run_move hp ((h.out 0 (show ¬ ((22 ≤ 0 ∧ 0 ≤ 44) ∨ 0 ∈ [7]) by decide)).trans t0)) ⟨h.plain hun rfl hpre rfl (fun k c' hk => by simp only [opsSpec] at hk; split at hk <;> first | rfl | (cases hk; done)) (.inl ⟨nle rfl, nle rfl⟩) (by omega), hM.other hun (nne rfl) (nne rfl) (by rw [tm_put (by rw [h.size]; omega), if_neg (by decide)]) hM.1 (Nat.le_refl _) (fun _ _ => rfl)⟩
  · cases hD
    exact op_of hd (run_move hp ((h.out 6 (show ¬ ((22 ≤ 6 ∧ 6 ≤ 44) ∨ 6 ∈ [7]) by decide)).trans t6)) ⟨h.plain hun rfl hpre rfl (fun k c' hk => by simp only [opsSpec] at hk; split at hk <;> first | rfl | (cases hk; done)) (.inl ⟨nle rfl, nle rfl⟩) (by omega), hM.other hun (nne rfl) (nne rfl) (by rw [tm_put (by rw [h.size]; omega), if_neg (by decide)]) hM.1 (Nat.le_refl _) (fun _ _ => rfl)⟩
  · cases hD
    exact op_of hd (run_addc hp (h.tri 15 37 _ rfl (hpre 15 (by simp))) (by rw [IntKind.wrap_i64]; omega)) ⟨h.plain hun rfl hpre rfl (fun k c' hk => by simp only [opsSpec] at hk; split at hk <;> first | rfl | (cases hk; done)) (.inl ⟨nle rfl, nle rfl⟩) (by omega), hM.other hun (nne rfl) (nne rfl) (by rw [tm_put (by rw [h.size]; omega), if_neg (by decide)]) hM.1 (Nat.le_refl _) (fun _ _ => rfl)⟩
  · cases hD
    exact op_of hd (run_index38 hp (h.tri 14 36 _ rfl (hpre 14 (by simp))) (h.tri 16 38 _ rfl (hpre 16 (by simp))) (by omega)) ⟨h.plain hun rfl hpre rfl (fun k c' hk => by simp only [opsSpec] at hk; split at hk <;> first | rfl | (cases hk; done)) (.inl ⟨nle rfl, nle rfl⟩) (by omega), hM.other hun (nne rfl) (nne rfl) (by rw [tm_put (by rw [h.size]; omega), if_neg (by decide)]) hM.1 (Nat.le_refl _) (fun _ _ => rfl)⟩
  · cases hD
    exact op_of hd (run_load5 hp (h.tri 17 39 _ rfl (hpre 17 (by simp))) ((hM.1.cell (p := ⟨gn, cn + (i + 3), none⟩) hgn).trans c3)) ⟨h.plain hun rfl hpre rfl (fun k c' hk => by simp only [opsSpec] at hk; split at hk <;> first | rfl | (cases hk; done)) (.inl ⟨nle rfl, nle rfl⟩) (by omega), hM.other hun (nne rfl) (nne rfl) (by rw [tm_put (by rw [h.size]; omega), if_neg (by decide)]) hM.1 (Nat.le_refl _) (fun _ _ => rfl)⟩
  · cases hD
    exact op_of hd (run_conv hp (h.tri 18 40 _ rfl (hpre 18 (by simp))) b3) ⟨h.plain hun rfl hpre rfl (fun k c' hk => by simp only [opsSpec] at hk; split at hk <;> first | rfl | (cases hk; done)) (.inl ⟨nle rfl, nle rfl⟩) (by omega), hM.other hun (nne rfl) (nne rfl) (by rw [tm_put (by rw [h.size]; omega), if_neg (by decide)]) hM.1 (Nat.le_refl _) (fun _ _ => rfl)⟩
  · cases hD
    exact op_of hd (run_rem70 hp (h.tri 19 41 _ rfl (hpre 19 (by simp))) rfl b3) ⟨h.plain hun rfl hpre rfl (fun k c' hk => by simp only [opsSpec] at hk; split at hk <;> first | rfl | (cases hk; done)) (.inl ⟨nle rfl, nle rfl⟩) (by omega), hM.other hun (nne rfl) (nne rfl) (by rw [tm_put (by rw [h.size]; omega), if_neg (by decide)]) hM.1 (Nat.le_refl _) (fun _ _ => rfl)⟩
  · cases hD
    exact op_of hd (run_mulc hp (h.tri 20 42 _ rfl (hpre 20 (by simp))) (by rw [IntKind.wrap_i64]; omega)) ⟨h.plain hun rfl hpre rfl (fun k c' hk => by simp only [opsSpec] at hk; split at hk <;> first | rfl | (cases hk; done)) (.inl ⟨nle rfl, nle rfl⟩) (by omega), hM.other hun (nne rfl) (nne rfl) (by rw [tm_put (by rw [h.size]; omega), if_neg (by decide)]) hM.1 (Nat.le_refl _) (fun _ _ => rfl)⟩
  · cases hD
    exact op_of hd (run_build50 hp (h.tri 6 28 _ rfl (hpre 6 (by simp))) (h.tri 13 35 _ rfl (hpre 13 (by simp))) (h.tri 21 43 _ rfl (hpre 21 (by simp)))) ⟨h.plain hun rfl hpre rfl (fun k c' hk => by simp only [opsSpec] at hk; split at hk <;> first | rfl | (cases hk; done)) (.inl ⟨nle rfl, nle rfl⟩) (by omega), hM.other hun (nne rfl) (nne rfl) (by rw [tm_put (by rw [h.size]; omega), if_neg (by decide)]) hM.1 (Nat.le_refl _) (fun _ _ => rfl)⟩
  · cases hD
    refine op_ofW hd (run_alloc50 hp) ⟨h.some hun rfl hpre rfl (fun k c' hk => by simp only [opsSpec] at hk; split at hk <;> (cases hk; done)) (.inr (List.mem_singleton.2 rfl)) (by omega), hM.1.alloc hM.1.size _, fun _ => ⟨w.heap.size, by rw [tm_put (by rw [h.size]; omega), if_pos rfl], hM.1.size, by simp, fun _ => World.alloc_heap_new w _, fun hL => ?_⟩⟩
    rw [lst_set hun] at hL
    exact absurd (h.clo 24 _ _ _ rfl (hL.resolve_right (by decide)) 23 (by simp)) (lst_not hun)
  · cases hD
    obtain ⟨G, e, hg, hlt, h1, _⟩ := hM.2 (hpre 23 (by simp))
    refine run_store50 hp hd e (h.tri 22 44 _ rfl (hpre 22 (by simp))) (h1 (lst_not hun)) ?_
    intro w' hw' hbw
    refine ⟨h.none hun rfl hpre rfl, hbw _ hg _ hM.1, fun _ => ⟨G, e, hg, ?_, fun hn => absurd ((lst_set hun).2 (.inr rfl)) hn, fun _ => hw'⟩⟩
    exact (Array.getElem?_eq_some_iff.1 hw').1
end Go.Proofs.YtomheapokfphiaaDoor
