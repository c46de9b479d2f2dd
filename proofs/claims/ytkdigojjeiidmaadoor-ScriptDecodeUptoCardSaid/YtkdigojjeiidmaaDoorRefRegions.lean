/-
  The statements 's.f = append(s.f, x)' of the document's Decode: each draws its order.
-/
import Derived.Test.YtkdigojjeiidmaaDoorRefCall
namespace Go.Proofs.YtkdigojjeiidmaaDoor
open Go Go.RowKit Go.Shelf

theorem run_at {o : Oper} {a : Act} {w : World} {K : Act → World → Prop} {Q : Exit → Act → World → Prop} {t u B cap i : Nat} {ad : Option Addr} {ns : List Nat} (hp : o.op = .call { callee := .value (.func 26), args := #[.tmp t, .tmp u], argTypes := #[22, 3] }) (h : Tm a t = .slice ad ns.length cap) (h2 : Tm a u = .int .i64 (i : Nat))
    (hmax : ns.length ≤ 9223372036854775807) (hb : BytesIn B w ad ns) (hK : K (a.put o.dst (.int .i64 (bt ns i : Nat))) w) : Oper.wp Tryd.prog o a w K Q := by
  have h' := tm_get h
  have h2' := tm_get h2
  unfold Oper.wp
  have hr' : (execOp a.eval o).run Tryd.prog w = .ok (.enter 26 #[.slice ad ns.length cap, .int .i64 (i : Nat)]) w := by
    simp [execOp, hp, h', h2', go_sem]
  rw [hr', Oper.upon_enter]
  refine (at_any B ad cap ns i w hb hmax).mono ?_
  rintro e w' ⟨rfl, rfl⟩
  exact hK
theorem run_index22 {o : Oper} {a : Act} {w : World} {s t g c n cap k : Nat} (hp : o.op = .indexAddr 22 (.tmp s) (.tmp t)) (h : Tm a s = .slice (some ⟨g, c, none⟩) n cap) (h2 : Tm a t = .int .i64 (k : Nat)) (hk : k < n) : (execOp a.eval o).run Tryd.prog w = .ok (.value (.pointer (some ⟨g, c + k, none⟩))) w := by
  have h' := tm_get h
  have h2' := tm_get h2
  have hk' : (k : Int) < n := by omega
  simp [execOp, hp, h', h2', go_sem, hk']

def rdrawsSpec (S : Nat) (dd : Option Addr) (n dcap : Nat) (ad : Option Addr) (cap : Nat) (ns : List Nat) (p : Nat) : TSpec where
  D := fun
    | 0 => some (some 24, .fieldAddr 29 (.tmp 3) 0, [])
    | 1 => some (some 25, .fieldAddr 25 (.tmp 24) 2, [0])
    | 2 => some (some 26, .load 23 (.tmp 25), [1])
    | 3 => some (some 27, .move (.tmp 0), [])
    | 4 => some (some 28, .move (.tmp 4), [])
    | 5 => some (some 29, .call { callee := .value (.func 26), args := #[.tmp 27, .tmp 28], argTypes := #[22, 3] }, [3, 4])
    | 6 => some (some 30, .convert 3 56 (.tmp 29), [5])
    | 7 => some (some 31, .buildSlice 23 1 #[(0, .tmp 30)], [6])
    | 8 => some (some 32, .call { callee := .builtin .append, args := #[.tmp 26, .tmp 31], argTypes := #[23, 23] }, [2, 7])
    | 9 => some (some 33, .fieldAddr 29 (.tmp 3) 0, [])
    | 10 => some (some 34, .fieldAddr 25 (.tmp 33) 2, [9])
    | 11 => some (none, .store 23 (.tmp 34) (.tmp 32), [10, 8])
    | _ => none
  triv := fun
    | 0 => some (24, .pointer (some ⟨S, 0, none⟩))
    | 1 => some (25, .pointer (some ⟨S, 2, none⟩))
    | 2 => some (26, .slice dd n dcap)
    | 3 => some (27, .slice ad ns.length cap)
    | 4 => some (28, .int .i64 (p : Nat))
    | 5 => some (29, .int .i64 (bt ns p : Nat))
    | 6 => some (30, .int .u32 (bt ns p : Nat))
    | 9 => some (33, .pointer (some ⟨S, 0, none⟩))
    | 10 => some (34, .pointer (some ⟨S, 2, none⟩))
    | _ => none
  lo := 24
  hi := 34
  odd := []
  N := 12

set_option maxHeartbeats 2000000 in
theorem rdraws_region {ops : Array Oper} {Q : Exit → Act → World → Prop} {id : Nat} {a0 : Act} {w0 : World} (S base : Nat) (sc : Array Value) (dd : Option Addr) (n dcap : Nat) (xs : List Value) (ad : Option Addr) (cap : Nat) (ns : List Nat) (p : Nat)
    (hT : (rdrawsSpec S dd n dcap ad cap ns p).Text ops) (hn : ops.size = 12)
    (t0 : Tm a0 0 = .slice ad ns.length cap) (t3 : Tm a0 3 = .pointer (some ⟨S, 0, none⟩)) (t4 : Tm a0 4 = .int .i64 (p : Nat)) (hbytes : BytesIn S w0 ad ns) (hcap64 : ns.length ≤ 9223372036854775807)
    (hs : a0.tmps.size = 97) (hS : w0.heap[S]? = some (.cells sc 29 (0, 0))) (hsc : sc[2]? = some (.slice dd n dcap)) (hown : w0.ownsRow base 56 1 (.slice dd n dcap) n xs) (hb : base ≤ w0.heap.size) (hSb : S < base)  (hroom : n + 1 ≤ 4398046511104)
    (hQ : ∀ a w v, a.defers = a0.defers → a.tmps.size = 97 → (∀ t, (t < 24 ∨ 34 < t) → Tm a t = Tm a0 t) → Kept (fun g => base ≤ g ∨ g = S) w0 w → w.heap[S]? = some (.cells (sc.setIfInBounds 2 v) 29 (0, 0)) → w.ownsRow base 56 1 v (n + 1) (xs ++ [uV (bt ns p : Nat)]) → Q .normal a w) :
    (Code.region id ops true).wp Tryd.prog Q a0 w0 := by
  obtain ⟨i0, hi0, hz0, hz1, hz2⟩ := info_parts' info56
  have hf : FOk (⟨S, sc, 2, base, 56, .slice dd n dcap, n, xs, uV (bt ns p : Nat), 31, 32, 7, 8, 11⟩ : FData) (fun g => base ≤ g ∨ g = S) w0 := ⟨hSb, hb, .inr rfl, fun _ h => .inl h, nne rfl, nne rfl, nne rfl, nne rfl⟩
  refine table_region (rdrawsSpec S dd n dcap ad cap ns p) (fun l a w => FMem (⟨S, sc, 2, base, 56, .slice dd n dcap, n, xs, uV (bt ns p : Nat), 31, 32, 7, 8, 11⟩ : FData) (fun g => base ≤ g ∨ g = S) w0 l a w) (by kernel_rfl) hT hn (FMem.start hS hown _ _) ?_ ?_
  · intro l a w h hall hM
    refine hQ a w (Tm a 32) h.defers (h.size.trans hs) (fun t ht => h.out t ?_) hM.kept (hM.done (hall 11 (by show 11 < 12; decide))) (hM.rowE (hall 8 (by show 8 < 12; decide)))
    rintro (⟨x, y⟩ | x)
    · have x : 24 ≤ t := x
      have y : t ≤ 34 := y
      omega
    · cases x
  intro l a w i' o d p' ds h hM hi' hD hd hp hpre hun
  have hi' : i' < 12 := hi'
  clear hT hQ hn
  rcases (show i' = 0 ∨ i' = 1 ∨ i' = 2 ∨ i' = 3 ∨ i' = 4 ∨ i' = 5 ∨ i' = 6 ∨ i' = 7 ∨ i' = 8 ∨ i' = 9 ∨ i' = 10 ∨ i' = 11 by omega) with rfl | rfl | rfl | rfl | rfl | rfl | rfl | rfl | rfl | rfl | rfl | rfl
  · cases hD
    exact op_of hd (run_field hp ((h.out 3 (show ¬ ((24 ≤ 3 ∧ 3 ≤ 34) ∨ 3 ∈ ([] : List Nat)) by decide)).trans t3) (.inl ⟨rfl, .inl ⟨rfl, rfl⟩⟩)) ⟨h.plain hun rfl hpre rfl (fun k c' hk => by simp only [rdrawsSpec] at hk; split at hk <;> first | rfl | (cases hk; done)) (.inl ⟨nle rfl, nle rfl⟩) (by omega), hM.plain hun (nne rfl) (nne rfl) (nne rfl) (put_other (by rw [h.size]; omega) (nne rfl)) (put_other (by rw [h.size]; omega) (nne rfl))⟩
  · cases hD
    exact op_of hd (run_field hp (h.tri 0 24 _ rfl (hpre 0 (by simp))) (.inr ⟨rfl, rfl, by decide⟩)) ⟨h.plain hun rfl hpre rfl (fun k c' hk => by simp only [rdrawsSpec] at hk; split at hk <;> first | rfl | (cases hk; done)) (.inl ⟨nle rfl, nle rfl⟩) (by omega), hM.plain hun (nne rfl) (nne rfl) (nne rfl) (put_other (by rw [h.size]; omega) (nne rfl)) (put_other (by rw [h.size]; omega) (nne rfl))⟩
  · cases hD
    have hns : ¬ Lst l 11 := fun q => lst_not hun (h.clo 8 _ _ _ rfl (h.clo 11 _ _ _ rfl q 8 (by simp)) 2 (by simp))
    exact op_of hd (run_loadS (.inl rfl) hp (h.tri 1 25 _ rfl (hpre 1 (by simp))) ((blk_cell (hM.fresh hns) 2).trans hsc)) ⟨h.plain hun rfl hpre rfl (fun k c' hk => by simp only [rdrawsSpec] at hk; split at hk <;> first | rfl | (cases hk; done)) (.inl ⟨nle rfl, nle rfl⟩) (by omega), hM.plain hun (nne rfl) (nne rfl) (nne rfl) (put_other (by rw [h.size]; omega) (nne rfl)) (put_other (by rw [h.size]; omega) (nne rfl))⟩
  · cases hD
    exact op_of hd (run_move hp ((h.out 0 (show ¬ ((24 ≤ 0 ∧ 0 ≤ 34) ∨ 0 ∈ ([] : List Nat)) by decide)).trans t0)) ⟨h.plain hun rfl hpre rfl (fun k c' hk => by simp only [rdrawsSpec] at hk; split at hk <;> first | rfl | (cases hk; done)) (.inl ⟨nle rfl, nle rfl⟩) (by omega), hM.plain hun (nne rfl) (nne rfl) (nne rfl) (put_other (by rw [h.size]; omega) (nne rfl)) (put_other (by rw [h.size]; omega) (nne rfl))⟩
  · cases hD
    exact op_of hd (run_move hp ((h.out 4 (show ¬ ((24 ≤ 4 ∧ 4 ≤ 34) ∨ 4 ∈ ([] : List Nat)) by decide)).trans t4)) ⟨h.plain hun rfl hpre rfl (fun k c' hk => by simp only [rdrawsSpec] at hk; split at hk <;> first | rfl | (cases hk; done)) (.inl ⟨nle rfl, nle rfl⟩) (by omega), hM.plain hun (nne rfl) (nne rfl) (nne rfl) (put_other (by rw [h.size]; omega) (nne rfl)) (put_other (by rw [h.size]; omega) (nne rfl))⟩
  · cases hD
    refine run_at hp (h.tri 3 27 _ rfl (hpre 3 (by simp))) (h.tri 4 28 _ rfl (hpre 4 (by simp))) hcap64 (hbytes.kept hM.kept (fun g hg => (show ¬ (base ≤ g ∨ g = S) by omega))) ?_
    rw [hd]
    exact ⟨h.plain hun rfl hpre rfl (fun k c' hk => by simp only [rdrawsSpec] at hk; split at hk <;> first | rfl | (cases hk; done)) (.inl ⟨nle rfl, nle rfl⟩) (by omega), hM.plain hun (nne rfl) (nne rfl) (nne rfl) (put_other (by rw [h.size]; omega) (nne rfl)) (put_other (by rw [h.size]; omega) (nne rfl))⟩
  · cases hD
    exact op_of hd (run_u32 hp (h.tri 5 29 _ rfl (hpre 5 (by simp))) (bt_le hbytes.1 p)) ⟨h.plain hun rfl hpre rfl (fun k c' hk => by simp only [rdrawsSpec] at hk; split at hk <;> first | rfl | (cases hk; done)) (.inl ⟨nle rfl, nle rfl⟩) (by omega), hM.plain hun (nne rfl) (nne rfl) (nne rfl) (put_other (by rw [h.size]; omega) (nne rfl)) (put_other (by rw [h.size]; omega) (nne rfl))⟩
  · cases hD
    have hna : ¬ Lst l 8 := fun q => lst_not hun (h.clo 8 _ _ _ rfl q 7 (by simp))
    have hns : ¬ Lst l 11 := fun q => hna (h.clo 11 _ _ _ rfl q 8 (by simp))
    exact op_ofW hd (run_lit (.inl ⟨rfl, rfl, _, rfl⟩) hp (h.tri 6 30 _ rfl (hpre 6 (by simp)))) ⟨h.some hun rfl hpre rfl (fun k c' hk => by simp only [rdrawsSpec] at hk; split at hk <;> (cases hk; done)) (.inl ⟨nle rfl, nle rfl⟩) (by omega), hM.build hf hun hna hns (show 31 < a.tmps.size by rw [h.size]; omega)⟩
  · cases hD
    have hns : ¬ Lst l 11 := fun q => lst_not hun (h.clo 11 _ _ _ rfl q 8 (by simp))
    obtain ⟨gb, eb, hgb, hbl⟩ := hM.lit (hpre 7 (by simp)) (lst_not hun)
    have oa : w.ownsRow base 56 1 (.slice dd n dcap) n xs := hM.row (lst_not hun)
    refine wp_append_lies w (.tmp 26) (.tmp 31) 23 hp base 56 i0 (.int .u32 0) 1 4 Tryd.underlying23 hi0 hz0 hz1 hz2 rfl (by decide) _ _ _ (h.tri 2 26 _ rfl (hpre 2 (by simp))) oa ⟨gb, 0, none⟩ 1 1 [uV (bt ns p : Nat)] eb rfl (World.news_of_block hbl) (by simp [Value.oneCell', uV]) (by omega) (by unfold maxLen; omega) (by omega) (Nat.le_trans hb hM.kept.size) _ rfl ?_
    intro g' cap' w' hown' hgrow _ _
    rw [hd]
    exact ⟨h.some hun rfl hpre rfl (fun k c' hk => by simp only [rdrawsSpec] at hk; split at hk <;> (cases hk; done)) (.inl ⟨nle rfl, nle rfl⟩) (by omega), hM.app hf hun hns (show 32 < a.tmps.size by rw [h.size]; omega) hgrow hown'⟩
  · cases hD
    exact op_of hd (run_field hp ((h.out 3 (show ¬ ((24 ≤ 3 ∧ 3 ≤ 34) ∨ 3 ∈ ([] : List Nat)) by decide)).trans t3) (.inl ⟨rfl, .inl ⟨rfl, rfl⟩⟩)) ⟨h.plain hun rfl hpre rfl (fun k c' hk => by simp only [rdrawsSpec] at hk; split at hk <;> first | rfl | (cases hk; done)) (.inl ⟨nle rfl, nle rfl⟩) (by omega), hM.plain hun (nne rfl) (nne rfl) (nne rfl) (put_other (by rw [h.size]; omega) (nne rfl)) (put_other (by rw [h.size]; omega) (nne rfl))⟩
  · cases hD
    exact op_of hd (run_field hp (h.tri 9 33 _ rfl (hpre 9 (by simp))) (.inr ⟨rfl, rfl, by decide⟩)) ⟨h.plain hun rfl hpre rfl (fun k c' hk => by simp only [rdrawsSpec] at hk; split at hk <;> first | rfl | (cases hk; done)) (.inl ⟨nle rfl, nle rfl⟩) (by omega), hM.plain hun (nne rfl) (nne rfl) (nne rfl) (put_other (by rw [h.size]; omega) (nne rfl)) (put_other (by rw [h.size]; omega) (nne rfl))⟩
  · cases hD
    have ov := hM.rowE (hpre 8 (by simp))
    obtain ⟨vd, vc, ev⟩ := own_shape ov
    have ev : Tm a 32 = _ := ev
    refine run_storeS (.inl rfl) hp hd (h.tri 10 34 _ rfl (hpre 10 (by simp))) ev ((blk_cell (hM.fresh (lst_not hun)) 2).trans hsc) (blk_frozen (hM.fresh (lst_not hun)) 2) ?_
    rw [← ev]
    exact ⟨h.none hun rfl hpre rfl, hM.store hf hun (hpre 8 (by simp))⟩
def rpicksSpec (S : Nat) (dd : Option Addr) (n dcap : Nat) (gn c0 N cap p x T : Nat) : TSpec where
  D := fun
    | 0 => some (some 82, .fieldAddr 29 (.tmp 3) 2, [])
    | 1 => some (some 83, .load 27 (.tmp 82), [0])
    | 2 => some (some 84, .move (.tmp 0), [])
    | 3 => some (some 85, .move (.tmp 5), [])
    | 4 => some (some 86, .indexAddr 22 (.tmp 84) (.tmp 85), [2, 3])
    | 5 => some (some 87, .load 5 (.tmp 86), [4])
    | 6 => some (some 88, .convert 5 3 (.tmp 87), [5])
    | 7 => some (some 89, .fieldAddr 29 (.tmp 3) 0, [])
    | 8 => some (some 90, .fieldAddr 25 (.tmp 89) 1, [7])
    | 9 => some (some 91, .load 3 (.tmp 90), [8])
    | 10 => some (some 92, .binOp .rem 3 (.tmp 88) (.tmp 91) 3, [6, 9])
    | 11 => some (some 93, .buildSlice 27 1 #[(0, .tmp 92)], [10])
    | 12 => some (some 94, .call { callee := .builtin .append, args := #[.tmp 83, .tmp 93], argTypes := #[27, 27] }, [1, 11])
    | 13 => some (some 95, .fieldAddr 29 (.tmp 3) 2, [])
    | 14 => some (none, .store 27 (.tmp 95) (.tmp 94), [13, 12])
    | _ => none
  triv := fun
    | 0 => some (82, .pointer (some ⟨S, 4, none⟩))
    | 1 => some (83, .slice dd n dcap)
    | 2 => some (84, .slice (some ⟨gn, c0, none⟩) N cap)
    | 3 => some (85, .int .i64 (p : Nat))
    | 4 => some (86, .pointer (some ⟨gn, c0 + p, none⟩))
    | 5 => some (87, .int .u8 (x : Nat))
    | 6 => some (88, .int .i64 (x : Nat))
    | 7 => some (89, .pointer (some ⟨S, 0, none⟩))
    | 8 => some (90, .pointer (some ⟨S, 1, none⟩))
    | 9 => some (91, .int .i64 (T : Nat))
    | 10 => some (92, .int .i64 ((x % T : Nat) : Int))
    | 13 => some (95, .pointer (some ⟨S, 4, none⟩))
    | _ => none
  lo := 82
  hi := 95
  odd := []
  N := 15

set_option maxHeartbeats 2000000 in
theorem rpicks_region {ops : Array Oper} {Q : Exit → Act → World → Prop} {id : Nat} {a0 : Act} {w0 : World} (S base : Nat) (sc : Array Value) (dd : Option Addr) (n dcap : Nat) (xs : List Value) (gn c0 N cap p x T : Nat)
    (hT : (rpicksSpec S dd n dcap gn c0 N cap p x T).Text ops) (hn : ops.size = 15)
    (t0 : Tm a0 0 = .slice (some ⟨gn, c0, none⟩) N cap) (t3 : Tm a0 3 = .pointer (some ⟨S, 0, none⟩)) (t5 : Tm a0 5 = .int .i64 (p : Nat)) (hgn : gn < S) (hpN : p < N) (hbyte : w0.cell? ⟨gn, c0 + p, none⟩ = some (.int .u8 (x : Nat))) (hx : x ≤ 255) (hT0 : 0 < T) (hT6 : T ≤ 6) (hsc1 : sc[1]? = some (.int .i64 (T : Nat)))
    (hs : a0.tmps.size = 97) (hS : w0.heap[S]? = some (.cells sc 29 (0, 0))) (hsc : sc[4]? = some (.slice dd n dcap)) (hown : w0.ownsRow base 3 1 (.slice dd n dcap) n xs) (hb : base ≤ w0.heap.size) (hSb : S < base)  (hroom : n + 1 ≤ 4398046511104)
    (hQ : ∀ a w v, a.defers = a0.defers → a.tmps.size = 97 → (∀ t, (t < 82 ∨ 95 < t) → Tm a t = Tm a0 t) → Kept (fun g => base ≤ g ∨ g = S) w0 w → w.heap[S]? = some (.cells (sc.setIfInBounds 4 v) 29 (0, 0)) → w.ownsRow base 3 1 v (n + 1) (xs ++ [iV ((x % T : Nat) : Int)]) → Q .normal a w) :
    (Code.region id ops true).wp Tryd.prog Q a0 w0 := by
  obtain ⟨i0, hi0, hz0, hz1, hz2⟩ := info_parts' info3
  have hf : FOk (⟨S, sc, 4, base, 3, .slice dd n dcap, n, xs, iV ((x % T : Nat) : Int), 93, 94, 11, 12, 14⟩ : FData) (fun g => base ≤ g ∨ g = S) w0 := ⟨hSb, hb, .inr rfl, fun _ h => .inl h, nne rfl, nne rfl, nne rfl, nne rfl⟩
  refine table_region (rpicksSpec S dd n dcap gn c0 N cap p x T) (fun l a w => FMem (⟨S, sc, 4, base, 3, .slice dd n dcap, n, xs, iV ((x % T : Nat) : Int), 93, 94, 11, 12, 14⟩ : FData) (fun g => base ≤ g ∨ g = S) w0 l a w) (by kernel_rfl) hT hn (FMem.start hS hown _ _) ?_ ?_
  · intro l a w h hall hM
    refine hQ a w (Tm a 94) h.defers (h.size.trans hs) (fun t ht => h.out t ?_) hM.kept (hM.done (hall 14 (by show 14 < 15; decide))) (hM.rowE (hall 12 (by show 12 < 15; decide)))
    rintro (⟨x, y⟩ | x)
    · have x : 82 ≤ t := x
      have y : t ≤ 95 := y
      omega
    · cases x
  intro l a w i' o d p' ds h hM hi' hD hd hp hpre hun
  have hi' : i' < 15 := hi'
  clear hT hQ hn
  rcases (show i' = 0 ∨ i' = 1 ∨ i' = 2 ∨ i' = 3 ∨ i' = 4 ∨ i' = 5 ∨ i' = 6 ∨ i' = 7 ∨ i' = 8 ∨ i' = 9 ∨ i' = 10 ∨ i' = 11 ∨ i' = 12 ∨ i' = 13 ∨ i' = 14 by omega) with rfl | rfl | rfl | rfl | rfl | rfl | rfl | rfl | rfl | rfl | rfl | rfl | rfl | rfl | rfl
  · cases hD
    exact op_of hd (run_field hp ((h.out 3 (show ¬ ((82 ≤ 3 ∧ 3 ≤ 95) ∨ 3 ∈ ([] : List Nat)) by decide)).trans t3) (.inl ⟨rfl, .inr (.inr ⟨rfl, rfl⟩)⟩)) ⟨h.plain hun rfl hpre rfl (fun k c' hk => by simp only [rpicksSpec] at hk; split at hk <;> first | rfl | (cases hk; done)) (.inl ⟨nle rfl, nle rfl⟩) (by omega), hM.plain hun (nne rfl) (nne rfl) (nne rfl) (put_other (by rw [h.size]; omega) (nne rfl)) (put_other (by rw [h.size]; omega) (nne rfl))⟩
  · cases hD
    have hns : ¬ Lst l 14 := fun q => lst_not hun (h.clo 12 _ _ _ rfl (h.clo 14 _ _ _ rfl q 12 (by simp)) 1 (by simp))
    exact op_of hd (run_loadS (.inr (.inl rfl)) hp (h.tri 0 82 _ rfl (hpre 0 (by simp))) ((blk_cell (hM.fresh hns) 4).trans hsc)) ⟨h.plain hun rfl hpre rfl (fun k c' hk => by simp only [rpicksSpec] at hk; split at hk <;> first | rfl | (cases hk; done)) (.inl ⟨nle rfl, nle rfl⟩) (by omega), hM.plain hun (nne rfl) (nne rfl) (nne rfl) (put_other (by rw [h.size]; omega) (nne rfl)) (put_other (by rw [h.size]; omega) (nne rfl))⟩
  · cases hD
    exact op_of hd (run_move hp ((h.out 0 (show ¬ ((82 ≤ 0 ∧ 0 ≤ 95) ∨ 0 ∈ ([] : List Nat)) by decide)).trans t0)) ⟨h.plain hun rfl hpre rfl (fun k c' hk => by simp only [rpicksSpec] at hk; split at hk <;> first | rfl | (cases hk; done)) (.inl ⟨nle rfl, nle rfl⟩) (by omega), hM.plain hun (nne rfl) (nne rfl) (nne rfl) (put_other (by rw [h.size]; omega) (nne rfl)) (put_other (by rw [h.size]; omega) (nne rfl))⟩
  · cases hD
    exact op_of hd (run_move hp ((h.out 5 (show ¬ ((82 ≤ 5 ∧ 5 ≤ 95) ∨ 5 ∈ ([] : List Nat)) by decide)).trans t5)) ⟨h.plain hun rfl hpre rfl (fun k c' hk => by simp only [rpicksSpec] at hk; split at hk <;> first | rfl | (cases hk; done)) (.inl ⟨nle rfl, nle rfl⟩) (by omega), hM.plain hun (nne rfl) (nne rfl) (nne rfl) (put_other (by rw [h.size]; omega) (nne rfl)) (put_other (by rw [h.size]; omega) (nne rfl))⟩
  · cases hD
    exact op_of hd (run_index22 hp (h.tri 2 84 _ rfl (hpre 2 (by simp))) (h.tri 3 85 _ rfl (hpre 3 (by simp))) hpN) ⟨h.plain hun rfl hpre rfl (fun k c' hk => by simp only [rpicksSpec] at hk; split at hk <;> first | rfl | (cases hk; done)) (.inl ⟨nle rfl, nle rfl⟩) (by omega), hM.plain hun (nne rfl) (nne rfl) (nne rfl) (put_other (by rw [h.size]; omega) (nne rfl)) (put_other (by rw [h.size]; omega) (nne rfl))⟩
  · cases hD
    have hcb : w.cell? ⟨gn, c0 + p, none⟩ = some (.int .u8 (x : Nat)) := hM.kept.cell hbyte (show ¬ (base ≤ gn ∨ gn = S) by omega)
    exact op_of hd (run_load5 hp (h.tri 4 86 _ rfl (hpre 4 (by simp))) hcb) ⟨h.plain hun rfl hpre rfl (fun k c' hk => by simp only [rpicksSpec] at hk; split at hk <;> first | rfl | (cases hk; done)) (.inl ⟨nle rfl, nle rfl⟩) (by omega), hM.plain hun (nne rfl) (nne rfl) (nne rfl) (put_other (by rw [h.size]; omega) (nne rfl)) (put_other (by rw [h.size]; omega) (nne rfl))⟩
  · cases hD
    exact op_of hd (run_i64of8 hp (h.tri 5 87 _ rfl (hpre 5 (by simp))) hx) ⟨h.plain hun rfl hpre rfl (fun k c' hk => by simp only [rpicksSpec] at hk; split at hk <;> first | rfl | (cases hk; done)) (.inl ⟨nle rfl, nle rfl⟩) (by omega), hM.plain hun (nne rfl) (nne rfl) (nne rfl) (put_other (by rw [h.size]; omega) (nne rfl)) (put_other (by rw [h.size]; omega) (nne rfl))⟩
  · cases hD
    exact op_of hd (run_field hp ((h.out 3 (show ¬ ((82 ≤ 3 ∧ 3 ≤ 95) ∨ 3 ∈ ([] : List Nat)) by decide)).trans t3) (.inl ⟨rfl, .inl ⟨rfl, rfl⟩⟩)) ⟨h.plain hun rfl hpre rfl (fun k c' hk => by simp only [rpicksSpec] at hk; split at hk <;> first | rfl | (cases hk; done)) (.inl ⟨nle rfl, nle rfl⟩) (by omega), hM.plain hun (nne rfl) (nne rfl) (nne rfl) (put_other (by rw [h.size]; omega) (nne rfl)) (put_other (by rw [h.size]; omega) (nne rfl))⟩
  · cases hD
    exact op_of hd (run_field hp (h.tri 7 89 _ rfl (hpre 7 (by simp))) (.inr ⟨rfl, rfl, by decide⟩)) ⟨h.plain hun rfl hpre rfl (fun k c' hk => by simp only [rpicksSpec] at hk; split at hk <;> first | rfl | (cases hk; done)) (.inl ⟨nle rfl, nle rfl⟩) (by omega), hM.plain hun (nne rfl) (nne rfl) (nne rfl) (put_other (by rw [h.size]; omega) (nne rfl)) (put_other (by rw [h.size]; omega) (nne rfl))⟩
  · cases hD
    have hns : w.cell? ⟨S, 1, none⟩ = some (.int .i64 (T : Nat)) := by
      by_cases q : Lst l 14
      · have := blk_cell (hM.done q) 1
        rw [this, Array.getElem?_setIfInBounds_ne (nne rfl)]; exact hsc1
      · exact (blk_cell (hM.fresh q) 1).trans hsc1
    exact op_of hd (run_load3 hp (h.tri 8 90 _ rfl (hpre 8 (by simp))) hns) ⟨h.plain hun rfl hpre rfl (fun k c' hk => by simp only [rpicksSpec] at hk; split at hk <;> first | rfl | (cases hk; done)) (.inl ⟨nle rfl, nle rfl⟩) (by omega), hM.plain hun (nne rfl) (nne rfl) (nne rfl) (put_other (by rw [h.size]; omega) (nne rfl)) (put_other (by rw [h.size]; omega) (nne rfl))⟩
  · cases hD
    exact op_of hd (run_rem hp (h.tri 6 88 _ rfl (hpre 6 (by simp))) (h.tri 9 91 _ rfl (hpre 9 (by simp))) hT0 hT6) ⟨h.plain hun rfl hpre rfl (fun k c' hk => by simp only [rpicksSpec] at hk; split at hk <;> first | rfl | (cases hk; done)) (.inl ⟨nle rfl, nle rfl⟩) (by omega), hM.plain hun (nne rfl) (nne rfl) (nne rfl) (put_other (by rw [h.size]; omega) (nne rfl)) (put_other (by rw [h.size]; omega) (nne rfl))⟩
  · cases hD
    have hna : ¬ Lst l 12 := fun q => lst_not hun (h.clo 12 _ _ _ rfl q 11 (by simp))
    have hns : ¬ Lst l 14 := fun q => hna (h.clo 14 _ _ _ rfl q 12 (by simp))
    exact op_ofW hd (run_lit (.inr ⟨rfl, rfl, _, rfl⟩) hp (h.tri 10 92 _ rfl (hpre 10 (by simp)))) ⟨h.some hun rfl hpre rfl (fun k c' hk => by simp only [rpicksSpec] at hk; split at hk <;> (cases hk; done)) (.inl ⟨nle rfl, nle rfl⟩) (by omega), hM.build hf hun hna hns (show 93 < a.tmps.size by rw [h.size]; omega)⟩
  · cases hD
    have hns : ¬ Lst l 14 := fun q => lst_not hun (h.clo 14 _ _ _ rfl q 12 (by simp))
    obtain ⟨gb, eb, hgb, hbl⟩ := hM.lit (hpre 11 (by simp)) (lst_not hun)
    have oa : w.ownsRow base 3 1 (.slice dd n dcap) n xs := hM.row (lst_not hun)
    refine wp_append_lies w (.tmp 83) (.tmp 93) 27 hp base 3 i0 (.int .i64 0) 1 8 Tryd.underlying27 hi0 hz0 hz1 hz2 rfl (by decide) _ _ _ (h.tri 1 83 _ rfl (hpre 1 (by simp))) oa ⟨gb, 0, none⟩ 1 1 [iV ((x % T : Nat) : Int)] eb rfl (World.news_of_block hbl) (by simp [Value.oneCell', iV]) (by omega) (by unfold maxLen; omega) (by omega) (Nat.le_trans hb hM.kept.size) _ rfl ?_
    intro g' cap' w' hown' hgrow _ _
    rw [hd]
    exact ⟨h.some hun rfl hpre rfl (fun k c' hk => by simp only [rpicksSpec] at hk; split at hk <;> (cases hk; done)) (.inl ⟨nle rfl, nle rfl⟩) (by omega), hM.app hf hun hns (show 94 < a.tmps.size by rw [h.size]; omega) hgrow hown'⟩
  · cases hD
    exact op_of hd (run_field hp ((h.out 3 (show ¬ ((82 ≤ 3 ∧ 3 ≤ 95) ∨ 3 ∈ ([] : List Nat)) by decide)).trans t3) (.inl ⟨rfl, .inr (.inr ⟨rfl, rfl⟩)⟩)) ⟨h.plain hun rfl hpre rfl (fun k c' hk => by simp only [rpicksSpec] at hk; split at hk <;> first | rfl | (cases hk; done)) (.inl ⟨nle rfl, nle rfl⟩) (by omega), hM.plain hun (nne rfl) (nne rfl) (nne rfl) (put_other (by rw [h.size]; omega) (nne rfl)) (put_other (by rw [h.size]; omega) (nne rfl))⟩
  · cases hD
    have ov := hM.rowE (hpre 12 (by simp))
    obtain ⟨vd, vc, ev⟩ := own_shape ov
    have ev : Tm a 94 = _ := ev
    refine run_storeS (.inr rfl) hp hd (h.tri 13 95 _ rfl (hpre 13 (by simp))) ev ((blk_cell (hM.fresh (lst_not hun)) 4).trans hsc) (blk_frozen (hM.fresh (lst_not hun)) 4) ?_
    rw [← ev]
    exact ⟨h.none hun rfl hpre rfl, hM.store hf hun (hpre 12 (by simp))⟩
end Go.Proofs.YtkdigojjeiidmaaDoor
