/-
  The statements 's.f = append(s.f, x)' of Decode and of the document's Decode: each draws its order.
-/
import Derived.Test.YtkdigojjeiidmaaDoorField
namespace Go.Proofs.YtkdigojjeiidmaaDoor
open Go Go.RowKit Go.Shelf

def drawsSpec (S R : Nat) (dd : Option Addr) (n dcap : Nat) (ns : List Nat) (p : Nat) : TSpec where
  D := fun
    | 0 => some (some 22, .fieldAddr 29 (.tmp 2) 0, [])
    | 1 => some (some 23, .fieldAddr 25 (.tmp 22) 2, [0])
    | 2 => some (some 24, .load 23 (.tmp 23), [1])
    | 3 => some (some 25, .move (.tmp 3), [])
    | 4 => some (some 26, .call { callee := .value (.func 24), args := #[.tmp 25], argTypes := #[52] }, [3])
    | 5 => some (some 27, .convert 3 56 (.tmp 26), [4])
    | 6 => some (some 28, .buildSlice 23 1 #[(0, .tmp 27)], [5])
    | 7 => some (some 29, .call { callee := .builtin .append, args := #[.tmp 24, .tmp 28], argTypes := #[23, 23] }, [2, 6])
    | 8 => some (some 30, .fieldAddr 29 (.tmp 2) 0, [])
    | 9 => some (some 31, .fieldAddr 25 (.tmp 30) 2, [8])
    | 10 => some (none, .store 23 (.tmp 31) (.tmp 29), [9, 7])
    | _ => none
  triv := fun
    | 0 => some (22, .pointer (some ⟨S, 0, none⟩))
    | 1 => some (23, .pointer (some ⟨S, 2, none⟩))
    | 2 => some (24, .slice dd n dcap)
    | 3 => some (25, .pointer (some ⟨R, 0, none⟩))
    | 4 => some (26, .int .i64 (bt ns p : Nat))
    | 5 => some (27, .int .u32 (bt ns p : Nat))
    | 8 => some (30, .pointer (some ⟨S, 0, none⟩))
    | 9 => some (31, .pointer (some ⟨S, 2, none⟩))
    | _ => none
  lo := 22
  hi := 31
  odd := []
  N := 11

set_option maxHeartbeats 2000000 in
theorem draws_region {ops : Array Oper} {Q : Exit → Act → World → Prop} {id : Nat} {a0 : Act} {w0 : World} (S R base : Nat) (sc : Array Value) (dd : Option Addr) (n dcap : Nat) (xs : List Value) (ns : List Nat) (p : Nat)
    (hT : (drawsSpec S R dd n dcap ns p).Text ops) (hn : ops.size = 11)
    (t2 : Tm a0 2 = .pointer (some ⟨S, 0, none⟩)) (t3 : Tm a0 3 = .pointer (some ⟨R, 0, none⟩)) (hR : RdAt w0 R ns p) (hle : bt ns p ≤ 255)
    (hs : a0.tmps.size = 74) (hS : w0.heap[S]? = some (.cells sc 29 (0, 0))) (hsc : sc[2]? = some (.slice dd n dcap)) (hown : w0.ownsRow base 56 1 (.slice dd n dcap) n xs) (hb : base ≤ w0.heap.size) (hSb : S < base) (hRb : R < base) (hSR : R = S + 1) (hroom : n + 1 ≤ 4398046511104)
    (hQ : ∀ a w v, a.defers = a0.defers → a.tmps.size = 74 → (∀ t, (t < 22 ∨ 31 < t) → Tm a t = Tm a0 t) → Kept (fun g => base ≤ g ∨ g = S ∨ g = R) w0 w → w.heap[S]? = some (.cells (sc.setIfInBounds 2 v) 29 (0, 0)) → w.ownsRow base 56 1 v (n + 1) (xs ++ [uV (bt ns p : Nat)]) → RdAt w R ns (p + 1) → Q .normal a w) :
    (Code.region id ops true).wp Tryd.prog Q a0 w0 := by
  obtain ⟨i0, hi0, hz0, hz1, hz2⟩ := info_parts' info56
  have hf : FOk (⟨S, sc, 2, base, 56, .slice dd n dcap, n, xs, uV (bt ns p : Nat), 28, 29, 6, 7, 10⟩ : FData) (fun g => base ≤ g ∨ g = S ∨ g = R) w0 := ⟨hSb, hb, .inr (.inl rfl), fun _ h => .inl h, nne rfl, nne rfl, nne rfl, nne rfl⟩
  refine table_region (drawsSpec S R dd n dcap ns p) (fun l a w => FMem (⟨S, sc, 2, base, 56, .slice dd n dcap, n, xs, uV (bt ns p : Nat), 28, 29, 6, 7, 10⟩ : FData) (fun g => base ≤ g ∨ g = S ∨ g = R) w0 l a w ∧ RMem R ns p 4 l w) (by kernel_rfl) hT hn ⟨FMem.start hS hown _ _, fun _ => hR.kept ((Kept.refl (fun _ => False) w0).drew) (fun _ _ h => h), fun h => absurd h (lst_none _ _)⟩ ?_ ?_
  · intro l a w h hall hM
    refine hQ a w (Tm a 29) h.defers (h.size.trans hs) (fun t ht => h.out t ?_) hM.1.kept (hM.1.done (hall 10 (by show 10 < 11; decide))) (hM.1.rowE (hall 7 (by show 7 < 11; decide))) (hM.2.2 (hall 4 (by show 4 < 11; decide)))
    rintro (⟨x, y⟩ | x)
    · have x : 22 ≤ t := x
      have y : t ≤ 31 := y
      omega
    · cases x
  intro l a w i' o d p' ds h hM hi' hD hd hp hpre hun
  have hi' : i' < 11 := hi'
  clear hT hQ hn
  rcases (show i' = 0 ∨ i' = 1 ∨ i' = 2 ∨ i' = 3 ∨ i' = 4 ∨ i' = 5 ∨ i' = 6 ∨ i' = 7 ∨ i' = 8 ∨ i' = 9 ∨ i' = 10 by omega) with rfl | rfl | rfl | rfl | rfl | rfl | rfl | rfl | rfl | rfl | rfl
  · cases hD
    exact op_of hd (run_field hp ((h.out 2 (show ¬ ((22 ≤ 2 ∧ 2 ≤ 31) ∨ 2 ∈ ([] : List Nat)) by decide)).trans t2) (.inl ⟨rfl, .inl ⟨rfl, rfl⟩⟩)) ⟨h.plain hun rfl hpre rfl (fun k c' hk => by simp only [drawsSpec] at hk; split at hk <;> first | rfl | (cases hk; done)) (.inl ⟨nle rfl, nle rfl⟩) (by omega), hM.1.plain hun (nne rfl) (nne rfl) (nne rfl) (put_other (by rw [h.size]; omega) (nne rfl)) (put_other (by rw [h.size]; omega) (nne rfl)), hM.2.other hun (nne rfl) (kept_self w) (fun _ _ h => h)⟩
  · cases hD
    exact op_of hd (run_field hp (h.tri 0 22 _ rfl (hpre 0 (by simp))) (.inr ⟨rfl, rfl, by decide⟩)) ⟨h.plain hun rfl hpre rfl (fun k c' hk => by simp only [drawsSpec] at hk; split at hk <;> first | rfl | (cases hk; done)) (.inl ⟨nle rfl, nle rfl⟩) (by omega), hM.1.plain hun (nne rfl) (nne rfl) (nne rfl) (put_other (by rw [h.size]; omega) (nne rfl)) (put_other (by rw [h.size]; omega) (nne rfl)), hM.2.other hun (nne rfl) (kept_self w) (fun _ _ h => h)⟩
  · cases hD
    have hns : ¬ Lst l 10 := fun q => lst_not hun (h.clo 7 _ _ _ rfl (h.clo 10 _ _ _ rfl q 7 (by simp)) 2 (by simp))
    exact op_of hd (run_loadS (.inl rfl) hp (h.tri 1 23 _ rfl (hpre 1 (by simp))) ((blk_cell (hM.1.fresh hns) 2).trans hsc)) ⟨h.plain hun rfl hpre rfl (fun k c' hk => by simp only [drawsSpec] at hk; split at hk <;> first | rfl | (cases hk; done)) (.inl ⟨nle rfl, nle rfl⟩) (by omega), hM.1.plain hun (nne rfl) (nne rfl) (nne rfl) (put_other (by rw [h.size]; omega) (nne rfl)) (put_other (by rw [h.size]; omega) (nne rfl)), hM.2.other hun (nne rfl) (kept_self w) (fun _ _ h => h)⟩
  · cases hD
    exact op_of hd (run_move hp ((h.out 3 (show ¬ ((22 ≤ 3 ∧ 3 ≤ 31) ∨ 3 ∈ ([] : List Nat)) by decide)).trans t3)) ⟨h.plain hun rfl hpre rfl (fun k c' hk => by simp only [drawsSpec] at hk; split at hk <;> first | rfl | (cases hk; done)) (.inl ⟨nle rfl, nle rfl⟩) (by omega), hM.1.plain hun (nne rfl) (nne rfl) (nne rfl) (put_other (by rw [h.size]; omega) (nne rfl)) (put_other (by rw [h.size]; omega) (nne rfl)), hM.2.other hun (nne rfl) (kept_self w) (fun _ _ h => h)⟩
  · cases hD
    refine run_next hp (h.tri 3 25 _ rfl (hpre 3 (by simp))) (hM.2.1 (lst_not hun)) ?_
    intro w' hr' hk'
    rw [hd]
    exact ⟨h.plain hun rfl hpre rfl (fun k c' hk => by simp only [drawsSpec] at hk; split at hk <;> first | rfl | (cases hk; done)) (.inl ⟨nle rfl, nle rfl⟩) (by omega), hM.1.other (R := R) hf hun (nne rfl) (nne rfl) (nne rfl) (put_other (by rw [h.size]; omega) (nne rfl)) (put_other (by rw [h.size]; omega) (nne rfl)) hk' hRb (show S ≠ R by omega) (.inr (.inr rfl)), RMem.call hun hr'⟩
  · cases hD
    exact op_of hd (run_u32 hp (h.tri 4 26 _ rfl (hpre 4 (by simp))) hle) ⟨h.plain hun rfl hpre rfl (fun k c' hk => by simp only [drawsSpec] at hk; split at hk <;> first | rfl | (cases hk; done)) (.inl ⟨nle rfl, nle rfl⟩) (by omega), hM.1.plain hun (nne rfl) (nne rfl) (nne rfl) (put_other (by rw [h.size]; omega) (nne rfl)) (put_other (by rw [h.size]; omega) (nne rfl)), hM.2.other hun (nne rfl) (kept_self w) (fun _ _ h => h)⟩
  · cases hD
    have hna : ¬ Lst l 7 := fun q => lst_not hun (h.clo 7 _ _ _ rfl q 6 (by simp))
    have hns : ¬ Lst l 10 := fun q => hna (h.clo 10 _ _ _ rfl q 7 (by simp))
    exact op_ofW hd (run_lit (.inl ⟨rfl, rfl, _, rfl⟩) hp (h.tri 5 27 _ rfl (hpre 5 (by simp)))) ⟨h.some hun rfl hpre rfl (fun k c' hk => by simp only [drawsSpec] at hk; split at hk <;> (cases hk; done)) (.inl ⟨nle rfl, nle rfl⟩) (by omega), hM.1.build hf hun hna hns (show 28 < a.tmps.size by rw [h.size]; omega), hM.2.other hun (nne rfl) (kept_alloc w _) (fun _ _ h => h)⟩
  · cases hD
    have hns : ¬ Lst l 10 := fun q => lst_not hun (h.clo 10 _ _ _ rfl q 7 (by simp))
    obtain ⟨gb, eb, hgb, hbl⟩ := hM.1.lit (hpre 6 (by simp)) (lst_not hun)
    have oa : w.ownsRow base 56 1 (.slice dd n dcap) n xs := hM.1.row (lst_not hun)
    refine wp_append_lies w (.tmp 24) (.tmp 28) 23 hp base 56 i0 (.int .u32 0) 1 4 Tryd.underlying23 hi0 hz0 hz1 hz2 rfl (by decide) _ _ _ (h.tri 2 24 _ rfl (hpre 2 (by simp))) oa ⟨gb, 0, none⟩ 1 1 [uV (bt ns p : Nat)] eb rfl (World.news_of_block hbl) (by simp [Value.oneCell', uV]) (by omega) (by unfold maxLen; omega) (by omega) (Nat.le_trans hb hM.1.kept.size) _ rfl ?_
    intro g' cap' w' hown' hgrow _ _
    rw [hd]
    exact ⟨h.some hun rfl hpre rfl (fun k c' hk => by simp only [drawsSpec] at hk; split at hk <;> (cases hk; done)) (.inl ⟨nle rfl, nle rfl⟩) (by omega), hM.1.app hf hun hns (show 29 < a.tmps.size by rw [h.size]; omega) hgrow hown', hM.2.other hun (nne rfl) (kept_grown hgrow (own_later oa)) (by omega)⟩
  · cases hD
    exact op_of hd (run_field hp ((h.out 2 (show ¬ ((22 ≤ 2 ∧ 2 ≤ 31) ∨ 2 ∈ ([] : List Nat)) by decide)).trans t2) (.inl ⟨rfl, .inl ⟨rfl, rfl⟩⟩)) ⟨h.plain hun rfl hpre rfl (fun k c' hk => by simp only [drawsSpec] at hk; split at hk <;> first | rfl | (cases hk; done)) (.inl ⟨nle rfl, nle rfl⟩) (by omega), hM.1.plain hun (nne rfl) (nne rfl) (nne rfl) (put_other (by rw [h.size]; omega) (nne rfl)) (put_other (by rw [h.size]; omega) (nne rfl)), hM.2.other hun (nne rfl) (kept_self w) (fun _ _ h => h)⟩
  · cases hD
    exact op_of hd (run_field hp (h.tri 8 30 _ rfl (hpre 8 (by simp))) (.inr ⟨rfl, rfl, by decide⟩)) ⟨h.plain hun rfl hpre rfl (fun k c' hk => by simp only [drawsSpec] at hk; split at hk <;> first | rfl | (cases hk; done)) (.inl ⟨nle rfl, nle rfl⟩) (by omega), hM.1.plain hun (nne rfl) (nne rfl) (nne rfl) (put_other (by rw [h.size]; omega) (nne rfl)) (put_other (by rw [h.size]; omega) (nne rfl)), hM.2.other hun (nne rfl) (kept_self w) (fun _ _ h => h)⟩
  · cases hD
    have ov := hM.1.rowE (hpre 7 (by simp))
    obtain ⟨vd, vc, ev⟩ := own_shape ov
    have ev : Tm a 29 = _ := ev
    refine run_storeS (.inl rfl) hp hd (h.tri 9 31 _ rfl (hpre 9 (by simp))) ev ((blk_cell (hM.1.fresh (lst_not hun)) 2).trans hsc) (blk_frozen (hM.1.fresh (lst_not hun)) 2) ?_
    rw [← ev]
    exact ⟨h.none hun rfl hpre rfl, hM.1.store hf hun (hpre 7 (by simp)), hM.2.other hun (nne rfl) (kept_set w ⟨S, 2, none⟩ _) (show ∀ g, (g + 1 < R ∨ g = R) → ¬ g = S by omega)⟩
def picksSpec (S R : Nat) (dd : Option Addr) (n dcap : Nat) (ns : List Nat) (p T : Nat) : TSpec where
  D := fun
    | 0 => some (some 62, .fieldAddr 29 (.tmp 2) 2, [])
    | 1 => some (some 63, .load 27 (.tmp 62), [0])
    | 2 => some (some 64, .move (.tmp 3), [])
    | 3 => some (some 65, .call { callee := .value (.func 24), args := #[.tmp 64], argTypes := #[52] }, [2])
    | 4 => some (some 66, .fieldAddr 29 (.tmp 2) 0, [])
    | 5 => some (some 67, .fieldAddr 25 (.tmp 66) 1, [4])
    | 6 => some (some 68, .load 3 (.tmp 67), [5])
    | 7 => some (some 69, .binOp .rem 3 (.tmp 65) (.tmp 68) 3, [3, 6])
    | 8 => some (some 70, .buildSlice 27 1 #[(0, .tmp 69)], [7])
    | 9 => some (some 71, .call { callee := .builtin .append, args := #[.tmp 63, .tmp 70], argTypes := #[27, 27] }, [1, 8])
    | 10 => some (some 72, .fieldAddr 29 (.tmp 2) 2, [])
    | 11 => some (none, .store 27 (.tmp 72) (.tmp 71), [10, 9])
    | _ => none
  triv := fun
    | 0 => some (62, .pointer (some ⟨S, 4, none⟩))
    | 1 => some (63, .slice dd n dcap)
    | 2 => some (64, .pointer (some ⟨R, 0, none⟩))
    | 3 => some (65, .int .i64 (bt ns p : Nat))
    | 4 => some (66, .pointer (some ⟨S, 0, none⟩))
    | 5 => some (67, .pointer (some ⟨S, 1, none⟩))
    | 6 => some (68, .int .i64 (T : Nat))
    | 7 => some (69, .int .i64 ((bt ns p % T : Nat) : Int))
    | 10 => some (72, .pointer (some ⟨S, 4, none⟩))
    | _ => none
  lo := 62
  hi := 72
  odd := []
  N := 12

set_option maxHeartbeats 2000000 in
theorem picks_region {ops : Array Oper} {Q : Exit → Act → World → Prop} {id : Nat} {a0 : Act} {w0 : World} (S R base : Nat) (sc : Array Value) (dd : Option Addr) (n dcap : Nat) (xs : List Value) (ns : List Nat) (p T : Nat)
    (hT : (picksSpec S R dd n dcap ns p T).Text ops) (hn : ops.size = 12)
    (t2 : Tm a0 2 = .pointer (some ⟨S, 0, none⟩)) (t3 : Tm a0 3 = .pointer (some ⟨R, 0, none⟩)) (hR : RdAt w0 R ns p) (hT0 : 0 < T) (hT6 : T ≤ 6) (hsc1 : sc[1]? = some (.int .i64 (T : Nat)))
    (hs : a0.tmps.size = 74) (hS : w0.heap[S]? = some (.cells sc 29 (0, 0))) (hsc : sc[4]? = some (.slice dd n dcap)) (hown : w0.ownsRow base 3 1 (.slice dd n dcap) n xs) (hb : base ≤ w0.heap.size) (hSb : S < base) (hRb : R < base) (hSR : R = S + 1) (hroom : n + 1 ≤ 4398046511104)
    (hQ : ∀ a w v, a.defers = a0.defers → a.tmps.size = 74 → (∀ t, (t < 62 ∨ 72 < t) → Tm a t = Tm a0 t) → Kept (fun g => base ≤ g ∨ g = S ∨ g = R) w0 w → w.heap[S]? = some (.cells (sc.setIfInBounds 4 v) 29 (0, 0)) → w.ownsRow base 3 1 v (n + 1) (xs ++ [iV ((bt ns p % T : Nat) : Int)]) → RdAt w R ns (p + 1) → Q .normal a w) :
    (Code.region id ops true).wp Tryd.prog Q a0 w0 := by
  obtain ⟨i0, hi0, hz0, hz1, hz2⟩ := info_parts' info3
  have hf : FOk (⟨S, sc, 4, base, 3, .slice dd n dcap, n, xs, iV ((bt ns p % T : Nat) : Int), 70, 71, 8, 9, 11⟩ : FData) (fun g => base ≤ g ∨ g = S ∨ g = R) w0 := ⟨hSb, hb, .inr (.inl rfl), fun _ h => .inl h, nne rfl, nne rfl, nne rfl, nne rfl⟩
  refine table_region (picksSpec S R dd n dcap ns p T) (fun l a w => FMem (⟨S, sc, 4, base, 3, .slice dd n dcap, n, xs, iV ((bt ns p % T : Nat) : Int), 70, 71, 8, 9, 11⟩ : FData) (fun g => base ≤ g ∨ g = S ∨ g = R) w0 l a w ∧ RMem R ns p 3 l w) (by kernel_rfl) hT hn ⟨FMem.start hS hown _ _, fun _ => hR.kept ((Kept.refl (fun _ => False) w0).drew) (fun _ _ h => h), fun h => absurd h (lst_none _ _)⟩ ?_ ?_
  · intro l a w h hall hM
    refine hQ a w (Tm a 71) h.defers (h.size.trans hs) (fun t ht => h.out t ?_) hM.1.kept (hM.1.done (hall 11 (by show 11 < 12; decide))) (hM.1.rowE (hall 9 (by show 9 < 12; decide))) (hM.2.2 (hall 3 (by show 3 < 12; decide)))
    rintro (⟨x, y⟩ | x)
    · have x : 62 ≤ t := x
      have y : t ≤ 72 := y
      omega
    · cases x
  intro l a w i' o d p' ds h hM hi' hD hd hp hpre hun
  have hi' : i' < 12 := hi'
  clear hT hQ hn
  rcases (show i' = 0 ∨ i' = 1 ∨ i' = 2 ∨ i' = 3 ∨ i' = 4 ∨ i' = 5 ∨ i' = 6 ∨ i' = 7 ∨ i' = 8 ∨ i' = 9 ∨ i' = 10 ∨ i' = 11 by omega) with rfl | rfl | rfl | rfl | rfl | rfl | rfl | rfl | rfl | rfl | rfl | rfl
  · cases hD
    exact op_of hd (run_field hp ((h.out 2 (show ¬ ((62 ≤ 2 ∧ 2 ≤ 72) ∨ 2 ∈ ([] : List Nat)) by decide)).trans t2) (.inl ⟨rfl, .inr (.inr ⟨rfl, rfl⟩)⟩)) ⟨h.plain hun rfl hpre rfl (fun k c' hk => by simp only [picksSpec] at hk; split at hk <;> first | rfl | (cases hk; done)) (.inl ⟨nle rfl, nle rfl⟩) (by omega), hM.1.plain hun (nne rfl) (nne rfl) (nne rfl) (put_other (by rw [h.size]; omega) (nne rfl)) (put_other (by rw [h.size]; omega) (nne rfl)), hM.2.other hun (nne rfl) (kept_self w) (fun _ _ h => h)⟩
  · cases hD
    have hns : ¬ Lst l 11 := fun q => lst_not hun (h.clo 9 _ _ _ rfl (h.clo 11 _ _ _ rfl q 9 (by simp)) 1 (by simp))
    exact op_of hd (run_loadS (.inr (.inl rfl)) hp (h.tri 0 62 _ rfl (hpre 0 (by simp))) ((blk_cell (hM.1.fresh hns) 4).trans hsc)) ⟨h.plain hun rfl hpre rfl (fun k c' hk => by simp only [picksSpec] at hk; split at hk <;> first | rfl | (cases hk; done)) (.inl ⟨nle rfl, nle rfl⟩) (by omega), hM.1.plain hun (nne rfl) (nne rfl) (nne rfl) (put_other (by rw [h.size]; omega) (nne rfl)) (put_other (by rw [h.size]; omega) (nne rfl)), hM.2.other hun (nne rfl) (kept_self w) (fun _ _ h => h)⟩
  · cases hD
    exact op_of hd (run_move hp ((h.out 3 (show ¬ ((62 ≤ 3 ∧ 3 ≤ 72) ∨ 3 ∈ ([] : List Nat)) by decide)).trans t3)) ⟨h.plain hun rfl hpre rfl (fun k c' hk => by simp only [picksSpec] at hk; split at hk <;> first | rfl | (cases hk; done)) (.inl ⟨nle rfl, nle rfl⟩) (by omega), hM.1.plain hun (nne rfl) (nne rfl) (nne rfl) (put_other (by rw [h.size]; omega) (nne rfl)) (put_other (by rw [h.size]; omega) (nne rfl)), hM.2.other hun (nne rfl) (kept_self w) (fun _ _ h => h)⟩
  · cases hD
    refine run_next hp (h.tri 2 64 _ rfl (hpre 2 (by simp))) (hM.2.1 (lst_not hun)) ?_
    intro w' hr' hk'
    rw [hd]
    exact ⟨h.plain hun rfl hpre rfl (fun k c' hk => by simp only [picksSpec] at hk; split at hk <;> first | rfl | (cases hk; done)) (.inl ⟨nle rfl, nle rfl⟩) (by omega), hM.1.other (R := R) hf hun (nne rfl) (nne rfl) (nne rfl) (put_other (by rw [h.size]; omega) (nne rfl)) (put_other (by rw [h.size]; omega) (nne rfl)) hk' hRb (show S ≠ R by omega) (.inr (.inr rfl)), RMem.call hun hr'⟩
  · cases hD
    exact op_of hd (run_field hp ((h.out 2 (show ¬ ((62 ≤ 2 ∧ 2 ≤ 72) ∨ 2 ∈ ([] : List Nat)) by decide)).trans t2) (.inl ⟨rfl, .inl ⟨rfl, rfl⟩⟩)) ⟨h.plain hun rfl hpre rfl (fun k c' hk => by simp only [picksSpec] at hk; split at hk <;> first | rfl | (cases hk; done)) (.inl ⟨nle rfl, nle rfl⟩) (by omega), hM.1.plain hun (nne rfl) (nne rfl) (nne rfl) (put_other (by rw [h.size]; omega) (nne rfl)) (put_other (by rw [h.size]; omega) (nne rfl)), hM.2.other hun (nne rfl) (kept_self w) (fun _ _ h => h)⟩
  · cases hD
    exact op_of hd (run_field hp (h.tri 4 66 _ rfl (hpre 4 (by simp))) (.inr ⟨rfl, rfl, by decide⟩)) ⟨h.plain hun rfl hpre rfl (fun k c' hk => by simp only [picksSpec] at hk; split at hk <;> first | rfl | (cases hk; done)) (.inl ⟨nle rfl, nle rfl⟩) (by omega), hM.1.plain hun (nne rfl) (nne rfl) (nne rfl) (put_other (by rw [h.size]; omega) (nne rfl)) (put_other (by rw [h.size]; omega) (nne rfl)), hM.2.other hun (nne rfl) (kept_self w) (fun _ _ h => h)⟩
  · cases hD
    have hns : w.cell? ⟨S, 1, none⟩ = some (.int .i64 (T : Nat)) := by
      by_cases q : Lst l 11
      · have := blk_cell (hM.1.done q) 1
        rw [this, Array.getElem?_setIfInBounds_ne (nne rfl)]; exact hsc1
      · exact (blk_cell (hM.1.fresh q) 1).trans hsc1
    exact op_of hd (run_load3 hp (h.tri 5 67 _ rfl (hpre 5 (by simp))) hns) ⟨h.plain hun rfl hpre rfl (fun k c' hk => by simp only [picksSpec] at hk; split at hk <;> first | rfl | (cases hk; done)) (.inl ⟨nle rfl, nle rfl⟩) (by omega), hM.1.plain hun (nne rfl) (nne rfl) (nne rfl) (put_other (by rw [h.size]; omega) (nne rfl)) (put_other (by rw [h.size]; omega) (nne rfl)), hM.2.other hun (nne rfl) (kept_self w) (fun _ _ h => h)⟩
  · cases hD
    exact op_of hd (run_rem hp (h.tri 3 65 _ rfl (hpre 3 (by simp))) (h.tri 6 68 _ rfl (hpre 6 (by simp))) hT0 hT6) ⟨h.plain hun rfl hpre rfl (fun k c' hk => by simp only [picksSpec] at hk; split at hk <;> first | rfl | (cases hk; done)) (.inl ⟨nle rfl, nle rfl⟩) (by omega), hM.1.plain hun (nne rfl) (nne rfl) (nne rfl) (put_other (by rw [h.size]; omega) (nne rfl)) (put_other (by rw [h.size]; omega) (nne rfl)), hM.2.other hun (nne rfl) (kept_self w) (fun _ _ h => h)⟩
  · cases hD
    have hna : ¬ Lst l 9 := fun q => lst_not hun (h.clo 9 _ _ _ rfl q 8 (by simp))
    have hns : ¬ Lst l 11 := fun q => hna (h.clo 11 _ _ _ rfl q 9 (by simp))
    exact op_ofW hd (run_lit (.inr ⟨rfl, rfl, _, rfl⟩) hp (h.tri 7 69 _ rfl (hpre 7 (by simp)))) ⟨h.some hun rfl hpre rfl (fun k c' hk => by simp only [picksSpec] at hk; split at hk <;> (cases hk; done)) (.inl ⟨nle rfl, nle rfl⟩) (by omega), hM.1.build hf hun hna hns (show 70 < a.tmps.size by rw [h.size]; omega), hM.2.other hun (nne rfl) (kept_alloc w _) (fun _ _ h => h)⟩
  · cases hD
    have hns : ¬ Lst l 11 := fun q => lst_not hun (h.clo 11 _ _ _ rfl q 9 (by simp))
    obtain ⟨gb, eb, hgb, hbl⟩ := hM.1.lit (hpre 8 (by simp)) (lst_not hun)
    have oa : w.ownsRow base 3 1 (.slice dd n dcap) n xs := hM.1.row (lst_not hun)
    refine wp_append_lies w (.tmp 63) (.tmp 70) 27 hp base 3 i0 (.int .i64 0) 1 8 Tryd.underlying27 hi0 hz0 hz1 hz2 rfl (by decide) _ _ _ (h.tri 1 63 _ rfl (hpre 1 (by simp))) oa ⟨gb, 0, none⟩ 1 1 [iV ((bt ns p % T : Nat) : Int)] eb rfl (World.news_of_block hbl) (by simp [Value.oneCell', iV]) (by omega) (by unfold maxLen; omega) (by omega) (Nat.le_trans hb hM.1.kept.size) _ rfl ?_
    intro g' cap' w' hown' hgrow _ _
    rw [hd]
    exact ⟨h.some hun rfl hpre rfl (fun k c' hk => by simp only [picksSpec] at hk; split at hk <;> (cases hk; done)) (.inl ⟨nle rfl, nle rfl⟩) (by omega), hM.1.app hf hun hns (show 71 < a.tmps.size by rw [h.size]; omega) hgrow hown', hM.2.other hun (nne rfl) (kept_grown hgrow (own_later oa)) (by omega)⟩
  · cases hD
    exact op_of hd (run_field hp ((h.out 2 (show ¬ ((62 ≤ 2 ∧ 2 ≤ 72) ∨ 2 ∈ ([] : List Nat)) by decide)).trans t2) (.inl ⟨rfl, .inr (.inr ⟨rfl, rfl⟩)⟩)) ⟨h.plain hun rfl hpre rfl (fun k c' hk => by simp only [picksSpec] at hk; split at hk <;> first | rfl | (cases hk; done)) (.inl ⟨nle rfl, nle rfl⟩) (by omega), hM.1.plain hun (nne rfl) (nne rfl) (nne rfl) (put_other (by rw [h.size]; omega) (nne rfl)) (put_other (by rw [h.size]; omega) (nne rfl)), hM.2.other hun (nne rfl) (kept_self w) (fun _ _ h => h)⟩
  · cases hD
    have ov := hM.1.rowE (hpre 9 (by simp))
    obtain ⟨vd, vc, ev⟩ := own_shape ov
    have ev : Tm a 71 = _ := ev
    refine run_storeS (.inr rfl) hp hd (h.tri 10 72 _ rfl (hpre 10 (by simp))) ev ((blk_cell (hM.1.fresh (lst_not hun)) 4).trans hsc) (blk_frozen (hM.1.fresh (lst_not hun)) 4) ?_
    rw [← ev]
    exact ⟨h.none hun rfl hpre rfl, hM.1.store hf hun (hpre 9 (by simp)), hM.2.other hun (nne rfl) (kept_set w ⟨S, 4, none⟩ _) (show ∀ g, (g + 1 < R ∨ g = R) → ¬ g = S by omega)⟩
end Go.Proofs.YtkdigojjeiidmaaDoor
