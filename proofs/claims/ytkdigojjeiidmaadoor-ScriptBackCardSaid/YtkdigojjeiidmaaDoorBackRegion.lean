/-
  ScriptBack's two statements that draw their order: a text with one byte more is read, and is no call.
-/
import Derived.Test.YtkdigojjeiidmaaDoorRead
import Derived.Test.YtkdigojjeiidmaaDoorGuard
namespace Go.Proofs.YtkdigojjeiidmaaDoor
open Go Go.RowKit Go.Shelf

/-- The table's text, where an edge that does not bind may come of a later operation. -/
def TSpec.TextB (S : TSpec) (ops : Array Oper) : Prop := ∀ i o, ops[i]? = some o → ∃ d p ds, S.D i = some (d, p, ds) ∧ o.dst = d ∧ o.op = p ∧ o.guard = none ∧ (ds.all fun j => o.after.toList.any fun e => Region.binds .any e && e.on == j) = true ∧ (o.after.toList.any fun e => Region.binds .any e && !Nat.ble (e.on + 1) i) = false
theorem lateB_of {o : Oper} {i : Nat} (h : (o.after.toList.any fun e => Region.binds .any e && !Nat.ble (e.on + 1) i) = false) : ∀ e ∈ o.after, Region.binds .any e = true → e.on < i := fun e he hb => by
  rw [List.any_eq_false] at h
  have := h e (by simpa using he)
  rw [hb] at this
  exact Nat.le_of_ble_eq_true (by simpa using this)
theorem TInv.allB {S : TSpec} {a0 : Act} {l : Array Bool} {a : Act} (h : TInv S a0 l a) {ops : Array Oper} (hn : ops.size = S.N) (hT : S.TextB ops) (hr : Region.ready .any ops l = []) : ∀ i, i < S.N → Lst l i := by
  intro i
  induction i using Nat.strongRecOn with
  | ind i ih =>
    intro hi
    obtain ⟨o, ho⟩ : ∃ o, ops[i]? = Option.some o := ⟨_, Array.getElem?_eq_getElem (by omega)⟩
    obtain ⟨d, p, ds, _, _, _, _, _, hlt'⟩ := hT i o ho
    have hlt := lateB_of hlt'
    cases hb : l.getD i true with
    | true =>
      unfold Lst
      have hs := h.lsz
      simp only [Array.getD_eq_getD_getElem?, Array.getElem?_eq_getElem (show i < l.size by omega), Option.getD_some] at hb ⊢
      exact hb
    | false =>
      have hm : i ∈ Region.ready .any ops l := mem_ready.2 ⟨hb, o, ho, fun e he hbd => ih e.on (hlt e he hbd) (by have := hlt e he hbd; omega)⟩
      rw [hr] at hm; cases hm
/-- The law. -/
theorem table_region_b {P : Program} {ops : Array Oper} {Q : Exit → Act → World → Prop} {id : Nat} {a0 : Act} {w0 : World} (S : TSpec) (M : Array Bool → Act → World → Prop) (hm : P.follows .mixedOrders = true)
    (hT : S.TextB ops) (hn : ops.size = S.N) (h0 : M (Array.replicate ops.size false) a0 w0.drew)
    (hQ : ∀ l a w, TInv S a0 l a → (∀ i, i < S.N → Lst l i) → M l a w → Q .normal a w)
    (hstep : ∀ l a w i o d p ds, TInv S a0 l a → M l a w → i < S.N → S.D i = Option.some (d, p, ds) → o.dst = d → o.op = p → (∀ j ∈ ds, Lst l j) → l.getD i true = false →
      Oper.wp P o a w (fun a' w' => TInv S a0 (l.setIfInBounds i true) a' ∧ M (l.setIfInBounds i true) a' w') Q) :
    (Code.region id ops true).wp P Q a0 w0 := by
  refine wp_region_inv hm (fun l a w => TInv S a0 l a ∧ M l a w) ⟨TInv.start hn, h0⟩ (fun l a w h hr => hQ l a w h.1 (h.1.allB hn hT hr) h.2) ?_
  intro l a w i o h ho hun hall
  obtain ⟨d, p, ds, hD, hd, hp, hg', hdeps', _⟩ := hT i o ho
  have hdeps := deps_of hdeps'
  refine wpOp_plain ho hg' (hstep l a w i o d p ds h.1 h.2 (by have := (Array.getElem?_eq_some_iff.1 ho).1; omega) hD hd hp (fun j hj => ?_) hun)
  obtain ⟨e, he, hb, rfl⟩ := hdeps j hj
  exact hall e he hb
/-- What memory holds in between. -/
structure BMem (st : Nat) (w0 : World) (l : Array Bool) (a : Act) (w : World) : Prop where
  below : Below w0.heap.size w0 w
  made : Lst l 12 → ∃ g cs, Tm a st = .pointer (some ⟨g, 0, none⟩) ∧ w0.heap.size ≤ g ∧ cs.size = 3 ∧ w.heap[g]? = some (.cells cs 36 (0, 0))
theorem BMem.start (st : Nat) (w0 : World) (n : Nat) (a : Act) : BMem st w0 (Array.replicate n false) a w0.drew := ⟨draw_below (Below.refl _ _) 1, fun h => absurd h (lst_none _ _)⟩
theorem BMem.step {st : Nat} {w0 : World} {l : Array Bool} {a a' : Act} {w w' : World} (h : BMem st w0 l a w) {i : Nat} (hun : l.getD i true = false) (hi : 12 ≠ i) (hb : Below w.heap.size w w') (ht : Tm a' st = Tm a st) : BMem st w0 (l.setIfInBounds i true) a' w' := by
  refine ⟨below_more h.below hb, fun hl => ?_⟩
  rw [lst_set hun] at hl
  obtain ⟨g, cs, h1, h2, h3, h4⟩ := h.made (hl.resolve_right hi)
  rw [ht]
  exact ⟨g, cs, h1, h2, h3, (hb.block g (Array.getElem?_eq_some_iff.1 h4).1).trans h4⟩
theorem BMem.alloc {st : Nat} {w0 : World} {l : Array Bool} {a : Act} {w : World} (h : BMem st w0 l a w) (hsz : st < a.tmps.size) : BMem st w0 (l.setIfInBounds 12 true) (a.put (some st) (.pointer (some ⟨w.heap.size, 0, none⟩))) (w.alloc (.cells #[.int .i64 0, .int .i64 0, .slice none 0 0] 36)) :=
  ⟨below_more h.below (new_below _), fun _ => ⟨w.heap.size, _, by rw [tm_put hsz, if_pos rfl], h.below.size, rfl, World.alloc_heap_new _ _⟩⟩
theorem BMem.store {st : Nat} {w0 : World} {l : Array Bool} {a : Act} {w : World} (h : BMem st w0 l a w) {g : Nat} (hg : w0.heap.size ≤ g) {cs : Array Value} (hs : cs.size = 3) (hcs : w.heap[g]? = some (.cells cs 36 (0, 0))) (ht : Tm a st = .pointer (some ⟨g, 0, none⟩)) (x y z : Value) {i : Nat} :
    BMem st w0 (l.setIfInBounds i true) a (((w.setCell ⟨g, 0, none⟩ x).setCell ⟨g, 1, none⟩ y).setCell ⟨g, 2, none⟩ z) :=
  ⟨((h.below.setCell (p := ⟨g, 0, none⟩) hg _).setCell (p := ⟨g, 1, none⟩) hg _).setCell (p := ⟨g, 2, none⟩) hg _, fun _ => ⟨g, _, ht, hg, by simp [hs], blk_set (blk_set (blk_set hcs 0 x) 1 y) 2 z⟩⟩
theorem run_alloc36 {o : Oper} {a : Act} {w : World} (hp : o.op = .alloc 36) : (execOp a.eval o).run Tryd.prog w = .ok (.value (.pointer (some ⟨w.heap.size, 0, none⟩))) (w.alloc (.cells #[.int .i64 0, .int .i64 0, .slice none 0 0] 36)) := by
  simp [execOp, hp, go_sem]
theorem run_store36 {o : Oper} {a : Act} {w : World} {t u g : Nat} {cs : Array Value} (hp : o.op = .store 36 (.tmp t) (.tmp u)) (h : Tm a t = .pointer (some ⟨g, 0, none⟩)) (h2 : Tm a u = .agg #[.int .i64 0, .int .i64 0, .slice none 0 0]) (hs : cs.size = 3) (hcs : w.heap[g]? = some (.cells cs 36 (0, 0))) :
    (execOp a.eval o).run Tryd.prog w = .ok .skip (((w.setCell ⟨g, 0, none⟩ (.int .i64 0)).setCell ⟨g, 1, none⟩ (.int .i64 0)).setCell ⟨g, 2, none⟩ (.slice none 0 0)) := by
  have h' := tm_get h
  have h2' := tm_get h2
  have c : ∀ j, j < 3 → ∃ v, w.cell? ⟨g, j, none⟩ = some v := fun j hj => ⟨_, (blk_cell hcs j).trans (Array.getElem?_eq_getElem (by omega))⟩
  obtain ⟨v0, c0⟩ := c 0 (by omega)
  obtain ⟨v1, c1⟩ := c 1 (by omega)
  obtain ⟨v2, c2⟩ := c 2 (by omega)
  have f0 := blk_frozen hcs 0
  have f1 := blk_frozen hcs 1
  have f2 := blk_frozen hcs 2
  simp [execOp, hp, h', h2', go_sem, c0, c1, c2, f0, f1, f2]
theorem run_cut_to {o : Oper} {a : Act} {w : World} {t u p : Nat} {s : ByteArray} (hp : o.op = .slice 9 (.tmp t) none (some (.tmp u)) none) (h : Tm a t = .string s) (h2 : Tm a u = .int .i64 (p : Nat)) (hle : p ≤ s.size) :
    (execOp a.eval o).run Tryd.prog w = .ok (.value (.string (s.extract 0 p))) w := by
  have h' := tm_get h
  have h2' := tm_get h2
  have a1 : (p : Int) ≤ s.size := by omega
  simp [execOp, hp, h', h2', go_sem, a1]
theorem run_cut_from {o : Oper} {a : Act} {w : World} {t u p : Nat} {s : ByteArray} (hp : o.op = .slice 9 (.tmp t) (some (.tmp u)) none none) (h : Tm a t = .string s) (h2 : Tm a u = .int .i64 (p : Nat)) (hle : p ≤ s.size) :
    (execOp a.eval o).run Tryd.prog w = .ok (.value (.string (s.extract p s.size))) w := by
  have h' := tm_get h
  have h2' := tm_get h2
  have a1 : (p : Int) ≤ s.size := by omega
  simp [execOp, hp, h', h2', go_sem, a1]
theorem run_addC {o : Oper} {a : Act} {w : World} {t : Nat} {s c : ByteArray} (hp : o.op = .binOp .add 9 (.tmp t) (.const (.string c)) 9) (h : Tm a t = .string s) (hs : s.size + c.size ≤ 9223372036854775807) : (execOp a.eval o).run Tryd.prog w = .ok (.value (.string (s ++ c))) w := by
  have h' := tm_get h
  simp [execOp, hp, h', go_sem, hs]
theorem run_addT {o : Oper} {a : Act} {w : World} {t u : Nat} {s c : ByteArray} (hp : o.op = .binOp .add 9 (.tmp t) (.tmp u) 9) (h : Tm a t = .string s) (h2 : Tm a u = .string c) (hs : s.size + c.size ≤ 9223372036854775807) : (execOp a.eval o).run Tryd.prog w = .ok (.value (.string (s ++ c))) w := by
  have h' := tm_get h
  have h2' := tm_get h2
  simp [execOp, hp, h', h2', go_sem, hs]
theorem ext_small (s : ByteArray) (x y : Nat) : (s.extract x y).size ≤ s.size := by
  rw [ByteArray.size_extract]
  omega
theorem run_extract {o : Oper} {a : Act} {w : World} {t j : Nat} {x y : Value} (hp : o.op = .extract (.tmp t) j) (h : Tm a t = .tuple #[x, y]) {v : Value} (hj : (j = 0 ∧ v = x) ∨ (j = 1 ∧ v = y)) : (execOp a.eval o).run Tryd.prog w = .ok (.value v) w := by
  have h' := tm_get h
  rcases hj with ⟨rfl, rfl⟩ | ⟨rfl, rfl⟩ <;> simp [execOp, hp, h', go_sem]
theorem run_assign {o : Oper} {a : Act} {w : World} {t : Nat} {v : Value} (hp : o.op = .assign (.tmp t)) (h : Tm a t = v) : (execOp a.eval o).run Tryd.prog w = .ok (.value v) w := by
  have h' := tm_get h
  simp [execOp, hp, h', go_sem]
/-- The text with a byte more. -/
def moreB (s : ByteArray) (p : Nat) (c : ByteArray) : ByteArray := (s.extract 0 p ++ c) ++ s.extract p s.size
theorem moreB_eq (l : List UInt8) (p : Nat) (b : UInt8) : moreB ⟨l.toArray⟩ p ⟨#[b]⟩ = ⟨(l.take p ++ b :: l.drop p).toArray⟩ := by
  unfold moreB
  rw [size_of_list]
  have e1 : (⟨l.toArray⟩ : ByteArray).extract 0 p = ⟨(l.take p).toArray⟩ := by rw [ByteArray.extract_mk]; congr 1
  have e2 : (⟨l.toArray⟩ : ByteArray).extract p l.length = ⟨(l.drop p).toArray⟩ := by
    rw [ByteArray.extract_mk]
    congr 1
    have : (l.drop p).take (l.length - p) = l.drop p := List.take_of_length_le (by rw [List.length_drop]; exact Nat.le_refl _)
    simp [this]
  rw [e1, e2]
  have app : ∀ x y : List UInt8, (⟨x.toArray⟩ : ByteArray) ++ ⟨y.toArray⟩ = ⟨(x ++ y).toArray⟩ := fun x y => by
    apply ByteArray.ext
    rw [ByteArray.data_append]
    simp
  have e3 := app (l.take p) [b]
  rw [show (⟨[b].toArray⟩ : ByteArray) = ⟨#[b]⟩ from rfl] at e3
  rw [e3, app]
  congr 1
  simp

def blankSpec (s : ByteArray) (p : Nat) : TSpec where
  D := fun
    | 0 => some (some 78, .move (.tmp 12), [])
    | 1 => some (some 79, .move (.tmp 17), [])
    | 2 => some (some 80, .slice 9 (.tmp 78) none (some (.tmp 79)) none, [0, 1])
    | 3 => some (some 81, .binOp .add 9 (.tmp 80) (.const (.string ⟨#[32]⟩)) 9, [2])
    | 4 => some (some 82, .move (.tmp 12), [])
    | 5 => some (some 83, .move (.tmp 17), [])
    | 6 => some (some 84, .slice 9 (.tmp 82) (some (.tmp 83)) none none, [4, 5])
    | 7 => some (some 85, .binOp .add 9 (.tmp 81) (.tmp 84) 9, [3, 6])
    | 8 => some (some 86, .call { callee := .value (.func 20), args := #[.tmp 85], argTypes := #[9] }, [7])
    | 9 => some (some 77, .move (.tmp 86), [8])
    | 10 => some (some 87, .extract (.tmp 77) 0, [9])
    | 11 => some (some 88, .extract (.tmp 77) 1, [9])
    | 12 => some (some 18, .alloc 36, [])
    | 13 => some (none, .store 36 (.tmp 18) (.tmp 87), [12, 10])
    | 14 => some (some 19, .assign (.tmp 88), [11])
    | _ => none
  triv := fun
    | 0 => some (78, .string s)
    | 1 => some (79, .int .i64 (p : Nat))
    | 2 => some (80, .string (s.extract 0 p))
    | 3 => some (81, .string (s.extract 0 p ++ ⟨#[32]⟩))
    | 4 => some (82, .string s)
    | 5 => some (83, .int .i64 (p : Nat))
    | 6 => some (84, .string (s.extract p s.size))
    | 7 => some (85, .string (moreB s p ⟨#[32]⟩))
    | 8 => some (86, .tuple #[.agg #[.int .i64 0, .int .i64 0, .slice none 0 0], .bool false])
    | 9 => some (77, .tuple #[.agg #[.int .i64 0, .int .i64 0, .slice none 0 0], .bool false])
    | 10 => some (87, .agg #[.int .i64 0, .int .i64 0, .slice none 0 0])
    | 11 => some (88, .bool false)
    | 14 => some (19, .bool false)
    | _ => none
  lo := 77
  hi := 88
  odd := [18, 19]
  N := 15
set_option maxHeartbeats 4000000 in
theorem blank_region {ops : Array Oper} {Q : Exit → Act → World → Prop} {id : Nat} {a0 : Act} {w0 : World} (s : ByteArray) (p : Nat) (hle : p ≤ s.size) (hsm : s.size ≤ 1000000)
    (hT : (blankSpec s p).TextB ops) (hn : ops.size = 15) (hs : a0.tmps.size = 132) (t12 : Tm a0 12 = .string s) (tix : Tm a0 17 = .int .i64 (p : Nat))
    (hC : ∀ wx, Below w0.heap.size w0 wx → Calls Tryd.prog 20 #[.string (moreB s p ⟨#[32]⟩)] wx fun e w' => e = .returned (.tuple #[.agg #[.int .i64 0, .int .i64 0, .slice none 0 0], .bool false]) ∧ Below wx.heap.size wx w')
    (hQ : ∀ a w, a.defers = a0.defers → a.tmps.size = 132 → (∀ t, (t < 77 ∨ 88 < t) → t ≠ 18 → t ≠ 19 → Tm a t = Tm a0 t) → Tm a 19 = .bool false → Below w0.heap.size w0 w → Q .normal a w) :
    (Code.region id ops true).wp Tryd.prog Q a0 w0 := by
  refine table_region_b (blankSpec s p) (fun l a w => BMem 18 w0 l a w) (by kernel_rfl) hT hn (BMem.start _ _ _ _) ?_ ?_
  · intro l a w h hall hM
    refine hQ a w h.defers (h.size.trans hs) (fun t ht h1 h2 => h.out t ?_) (h.tri 14 19 _ rfl (hall 14 (by show 14 < 15; decide))) hM.below
    rintro (⟨x, y⟩ | x)
    · have x : 77 ≤ t := x
      have y : t ≤ 88 := y
      omega
    · have x : t ∈ [18, 19] := x
      simp at x
      omega
  intro l a w i' o d p' ds h hM hi' hD hd hp hpre hun
  have hi' : i' < 15 := hi'
  clear hT hQ hn
  rcases (show i' = 0 ∨ i' = 1 ∨ i' = 2 ∨ i' = 3 ∨ i' = 4 ∨ i' = 5 ∨ i' = 6 ∨ i' = 7 ∨ i' = 8 ∨ i' = 9 ∨ i' = 10 ∨ i' = 11 ∨ i' = 12 ∨ i' = 13 ∨ i' = 14 by omega) with rfl | rfl | rfl | rfl | rfl | rfl | rfl | rfl | rfl | rfl | rfl | rfl | rfl | rfl | rfl
  · cases hD
    exact op_of hd (run_move hp ((h.out 12 (show ¬ ((77 ≤ 12 ∧ 12 ≤ 88) ∨ 12 ∈ ([18, 19] : List Nat)) by decide)).trans t12)) ⟨h.plain hun rfl hpre rfl (fun k c' hk => by simp only [blankSpec] at hk; split at hk <;> first | rfl | (cases hk; done)) (.inl ⟨nle rfl, nle rfl⟩) (by omega), hM.step hun (nne rfl) (Below.refl _ _) (put_other (by rw [h.size]; omega) (nne rfl))⟩
  · cases hD
    exact op_of hd (run_move hp ((h.out 17 (show ¬ ((77 ≤ 17 ∧ 17 ≤ 88) ∨ 17 ∈ ([18, 19] : List Nat)) by decide)).trans tix)) ⟨h.plain hun rfl hpre rfl (fun k c' hk => by simp only [blankSpec] at hk; split at hk <;> first | rfl | (cases hk; done)) (.inl ⟨nle rfl, nle rfl⟩) (by omega), hM.step hun (nne rfl) (Below.refl _ _) (put_other (by rw [h.size]; omega) (nne rfl))⟩
  · cases hD
    exact op_of hd (run_cut_to hp (h.tri 0 78 _ rfl (hpre 0 (by simp))) (h.tri 1 79 _ rfl (hpre 1 (by simp))) hle) ⟨h.plain hun rfl hpre rfl (fun k c' hk => by simp only [blankSpec] at hk; split at hk <;> first | rfl | (cases hk; done)) (.inl ⟨nle rfl, nle rfl⟩) (by omega), hM.step hun (nne rfl) (Below.refl _ _) (put_other (by rw [h.size]; omega) (nne rfl))⟩
  · cases hD
    exact op_of hd (run_addC hp (h.tri 2 80 _ rfl (hpre 2 (by simp))) (by have := ext_small s 0 p; have : (⟨#[32]⟩ : ByteArray).size = 1 := rfl; omega)) ⟨h.plain hun rfl hpre rfl (fun k c' hk => by simp only [blankSpec] at hk; split at hk <;> first | rfl | (cases hk; done)) (.inl ⟨nle rfl, nle rfl⟩) (by omega), hM.step hun (nne rfl) (Below.refl _ _) (put_other (by rw [h.size]; omega) (nne rfl))⟩
  · cases hD
    exact op_of hd (run_move hp ((h.out 12 (show ¬ ((77 ≤ 12 ∧ 12 ≤ 88) ∨ 12 ∈ ([18, 19] : List Nat)) by decide)).trans t12)) ⟨h.plain hun rfl hpre rfl (fun k c' hk => by simp only [blankSpec] at hk; split at hk <;> first | rfl | (cases hk; done)) (.inl ⟨nle rfl, nle rfl⟩) (by omega), hM.step hun (nne rfl) (Below.refl _ _) (put_other (by rw [h.size]; omega) (nne rfl))⟩
  · cases hD
    exact op_of hd (run_move hp ((h.out 17 (show ¬ ((77 ≤ 17 ∧ 17 ≤ 88) ∨ 17 ∈ ([18, 19] : List Nat)) by decide)).trans tix)) ⟨h.plain hun rfl hpre rfl (fun k c' hk => by simp only [blankSpec] at hk; split at hk <;> first | rfl | (cases hk; done)) (.inl ⟨nle rfl, nle rfl⟩) (by omega), hM.step hun (nne rfl) (Below.refl _ _) (put_other (by rw [h.size]; omega) (nne rfl))⟩
  · cases hD
    exact op_of hd (run_cut_from hp (h.tri 4 82 _ rfl (hpre 4 (by simp))) (h.tri 5 83 _ rfl (hpre 5 (by simp))) hle) ⟨h.plain hun rfl hpre rfl (fun k c' hk => by simp only [blankSpec] at hk; split at hk <;> first | rfl | (cases hk; done)) (.inl ⟨nle rfl, nle rfl⟩) (by omega), hM.step hun (nne rfl) (Below.refl _ _) (put_other (by rw [h.size]; omega) (nne rfl))⟩
  · cases hD
    exact op_of hd (run_addT hp (h.tri 3 81 _ rfl (hpre 3 (by simp))) (h.tri 6 84 _ rfl (hpre 6 (by simp))) (by have := ext_small s 0 p; have := ext_small s p s.size; have : (⟨#[32]⟩ : ByteArray).size = 1 := rfl; rw [ByteArray.size_append]; omega)) ⟨h.plain hun rfl hpre rfl (fun k c' hk => by simp only [blankSpec] at hk; split at hk <;> first | rfl | (cases hk; done)) (.inl ⟨nle rfl, nle rfl⟩) (by omega), hM.step hun (nne rfl) (Below.refl _ _) (put_other (by rw [h.size]; omega) (nne rfl))⟩
  · cases hD
    have h' := tm_get (h.tri 7 85 _ rfl (hpre 7 (by simp)))
    unfold Oper.wp
    have hr' : (execOp a.eval o).run Tryd.prog w = .ok (.enter 20 #[.string (moreB s p ⟨#[32]⟩)]) w := by
      simp [execOp, hp, h', go_sem]
    rw [hr', Oper.upon_enter]
    refine (hC w hM.below).mono ?_
    rintro e w' ⟨rfl, hb⟩
    show _ ∧ _
    rw [hd]
    exact ⟨h.plain hun rfl hpre rfl (fun k c' hk => by simp only [blankSpec] at hk; split at hk <;> first | rfl | (cases hk; done)) (.inl ⟨nle rfl, nle rfl⟩) (by omega), hM.step hun (nne rfl) hb (put_other (by rw [h.size]; omega) (nne rfl))⟩
  · cases hD
    exact op_of hd (run_move hp (h.tri 8 86 _ rfl (hpre 8 (by simp)))) ⟨h.plain hun rfl hpre rfl (fun k c' hk => by simp only [blankSpec] at hk; split at hk <;> first | rfl | (cases hk; done)) (.inl ⟨nle rfl, nle rfl⟩) (by omega), hM.step hun (nne rfl) (Below.refl _ _) (put_other (by rw [h.size]; omega) (nne rfl))⟩
  · cases hD
    exact op_of hd (run_extract hp (h.tri 9 77 _ rfl (hpre 9 (by simp))) (.inl ⟨rfl, rfl⟩)) ⟨h.plain hun rfl hpre rfl (fun k c' hk => by simp only [blankSpec] at hk; split at hk <;> first | rfl | (cases hk; done)) (.inl ⟨nle rfl, nle rfl⟩) (by omega), hM.step hun (nne rfl) (Below.refl _ _) (put_other (by rw [h.size]; omega) (nne rfl))⟩
  · cases hD
    exact op_of hd (run_extract hp (h.tri 9 77 _ rfl (hpre 9 (by simp))) (.inr ⟨rfl, rfl⟩)) ⟨h.plain hun rfl hpre rfl (fun k c' hk => by simp only [blankSpec] at hk; split at hk <;> first | rfl | (cases hk; done)) (.inl ⟨nle rfl, nle rfl⟩) (by omega), hM.step hun (nne rfl) (Below.refl _ _) (put_other (by rw [h.size]; omega) (nne rfl))⟩
  · cases hD
    exact op_ofW hd (run_alloc36 hp) ⟨h.some hun rfl hpre rfl (fun k c' hk => by simp only [blankSpec] at hk; split at hk <;> (cases hk; done)) (.inr (show 18 ∈ ([18, 19] : List Nat) by decide)) (by omega), hM.alloc (by rw [h.size]; omega)⟩
  · cases hD
    obtain ⟨g, cs, e1, e2, e3, e4⟩ := hM.made (hpre 12 (by simp))
    unfold Oper.wp
    rw [run_store36 hp e1 (h.tri 10 87 _ rfl (hpre 10 (by simp))) e3 e4, Oper.upon_skip, hd]
    exact ⟨h.none hun rfl hpre rfl, hM.store e2 e3 e4 e1 _ _ _⟩
  · cases hD
    exact op_of hd (run_assign hp (h.tri 11 88 _ rfl (hpre 11 (by simp)))) ⟨h.plain hun rfl hpre rfl (fun k c' hk => by simp only [blankSpec] at hk; split at hk <;> first | rfl | (cases hk; done)) (.inr (show 19 ∈ ([18, 19] : List Nat) by decide)) (by omega), hM.step hun (nne rfl) (Below.refl _ _) (put_other (by rw [h.size]; omega) (nne rfl))⟩
def noughtSpec (s : ByteArray) (p : Nat) : TSpec where
  D := fun
    | 0 => some (some 119, .move (.tmp 12), [])
    | 1 => some (some 120, .move (.tmp 20), [])
    | 2 => some (some 121, .slice 9 (.tmp 119) none (some (.tmp 120)) none, [0, 1])
    | 3 => some (some 122, .binOp .add 9 (.tmp 121) (.const (.string ⟨#[48]⟩)) 9, [2])
    | 4 => some (some 123, .move (.tmp 12), [])
    | 5 => some (some 124, .move (.tmp 20), [])
    | 6 => some (some 125, .slice 9 (.tmp 123) (some (.tmp 124)) none none, [4, 5])
    | 7 => some (some 126, .binOp .add 9 (.tmp 122) (.tmp 125) 9, [3, 6])
    | 8 => some (some 127, .call { callee := .value (.func 20), args := #[.tmp 126], argTypes := #[9] }, [7])
    | 9 => some (some 118, .move (.tmp 127), [8])
    | 10 => some (some 128, .extract (.tmp 118) 0, [9])
    | 11 => some (some 129, .extract (.tmp 118) 1, [9])
    | 12 => some (some 21, .alloc 36, [])
    | 13 => some (none, .store 36 (.tmp 21) (.tmp 128), [12, 10])
    | 14 => some (some 22, .assign (.tmp 129), [11])
    | _ => none
  triv := fun
    | 0 => some (119, .string s)
    | 1 => some (120, .int .i64 (p : Nat))
    | 2 => some (121, .string (s.extract 0 p))
    | 3 => some (122, .string (s.extract 0 p ++ ⟨#[48]⟩))
    | 4 => some (123, .string s)
    | 5 => some (124, .int .i64 (p : Nat))
    | 6 => some (125, .string (s.extract p s.size))
    | 7 => some (126, .string (moreB s p ⟨#[48]⟩))
    | 8 => some (127, .tuple #[.agg #[.int .i64 0, .int .i64 0, .slice none 0 0], .bool false])
    | 9 => some (118, .tuple #[.agg #[.int .i64 0, .int .i64 0, .slice none 0 0], .bool false])
    | 10 => some (128, .agg #[.int .i64 0, .int .i64 0, .slice none 0 0])
    | 11 => some (129, .bool false)
    | 14 => some (22, .bool false)
    | _ => none
  lo := 118
  hi := 129
  odd := [21, 22]
  N := 15
set_option maxHeartbeats 4000000 in
theorem nought_region {ops : Array Oper} {Q : Exit → Act → World → Prop} {id : Nat} {a0 : Act} {w0 : World} (s : ByteArray) (p : Nat) (hle : p ≤ s.size) (hsm : s.size ≤ 1000000)
    (hT : (noughtSpec s p).TextB ops) (hn : ops.size = 15) (hs : a0.tmps.size = 132) (t12 : Tm a0 12 = .string s) (tix : Tm a0 20 = .int .i64 (p : Nat))
    (hC : ∀ wx, Below w0.heap.size w0 wx → Calls Tryd.prog 20 #[.string (moreB s p ⟨#[48]⟩)] wx fun e w' => e = .returned (.tuple #[.agg #[.int .i64 0, .int .i64 0, .slice none 0 0], .bool false]) ∧ Below wx.heap.size wx w')
    (hQ : ∀ a w, a.defers = a0.defers → a.tmps.size = 132 → (∀ t, (t < 118 ∨ 129 < t) → t ≠ 21 → t ≠ 22 → Tm a t = Tm a0 t) → Tm a 22 = .bool false → Below w0.heap.size w0 w → Q .normal a w) :
    (Code.region id ops true).wp Tryd.prog Q a0 w0 := by
  refine table_region_b (noughtSpec s p) (fun l a w => BMem 21 w0 l a w) (by kernel_rfl) hT hn (BMem.start _ _ _ _) ?_ ?_
  · intro l a w h hall hM
    refine hQ a w h.defers (h.size.trans hs) (fun t ht h1 h2 => h.out t ?_) (h.tri 14 22 _ rfl (hall 14 (by show 14 < 15; decide))) hM.below
    rintro (⟨x, y⟩ | x)
    · have x : 118 ≤ t := x
      have y : t ≤ 129 := y
      omega
    · have x : t ∈ [21, 22] := x
      simp at x
      omega
  intro l a w i' o d p' ds h hM hi' hD hd hp hpre hun
  have hi' : i' < 15 := hi'
  clear hT hQ hn
  rcases (show i' = 0 ∨ i' = 1 ∨ i' = 2 ∨ i' = 3 ∨ i' = 4 ∨ i' = 5 ∨ i' = 6 ∨ i' = 7 ∨ i' = 8 ∨ i' = 9 ∨ i' = 10 ∨ i' = 11 ∨ i' = 12 ∨ i' = 13 ∨ i' = 14 by omega) with rfl | rfl | rfl | rfl | rfl | rfl | rfl | rfl | rfl | rfl | rfl | rfl | rfl | rfl | rfl
  · cases hD
    exact op_of hd (run_move hp ((h.out 12 (show ¬ ((118 ≤ 12 ∧ 12 ≤ 129) ∨ 12 ∈ ([21, 22] : List Nat)) by decide)).trans t12)) ⟨h.plain hun rfl hpre rfl (fun k c' hk => by simp only [noughtSpec] at hk; split at hk <;> first | rfl | (cases hk; done)) (.inl ⟨nle rfl, nle rfl⟩) (by omega), hM.step hun (nne rfl) (Below.refl _ _) (put_other (by rw [h.size]; omega) (nne rfl))⟩
  · cases hD
    exact op_of hd (run_move hp ((h.out 20 (show ¬ ((118 ≤ 20 ∧ 20 ≤ 129) ∨ 20 ∈ ([21, 22] : List Nat)) by decide)).trans tix)) ⟨h.plain hun rfl hpre rfl (fun k c' hk => by simp only [noughtSpec] at hk; split at hk <;> first | rfl | (cases hk; done)) (.inl ⟨nle rfl, nle rfl⟩) (by omega), hM.step hun (nne rfl) (Below.refl _ _) (put_other (by rw [h.size]; omega) (nne rfl))⟩
  · cases hD
    exact op_of hd (run_cut_to hp (h.tri 0 119 _ rfl (hpre 0 (by simp))) (h.tri 1 120 _ rfl (hpre 1 (by simp))) hle) ⟨h.plain hun rfl hpre rfl (fun k c' hk => by simp only [noughtSpec] at hk; split at hk <;> first | rfl | (cases hk; done)) (.inl ⟨nle rfl, nle rfl⟩) (by omega), hM.step hun (nne rfl) (Below.refl _ _) (put_other (by rw [h.size]; omega) (nne rfl))⟩
  · cases hD
    exact op_of hd (run_addC hp (h.tri 2 121 _ rfl (hpre 2 (by simp))) (by have := ext_small s 0 p; have : (⟨#[48]⟩ : ByteArray).size = 1 := rfl; omega)) ⟨h.plain hun rfl hpre rfl (fun k c' hk => by simp only [noughtSpec] at hk; split at hk <;> first | rfl | (cases hk; done)) (.inl ⟨nle rfl, nle rfl⟩) (by omega), hM.step hun (nne rfl) (Below.refl _ _) (put_other (by rw [h.size]; omega) (nne rfl))⟩
  · cases hD
    exact op_of hd (run_move hp ((h.out 12 (show ¬ ((118 ≤ 12 ∧ 12 ≤ 129) ∨ 12 ∈ ([21, 22] : List Nat)) by decide)).trans t12)) ⟨h.plain hun rfl hpre rfl (fun k c' hk => by simp only [noughtSpec] at hk; split at hk <;> first | rfl | (cases hk; done)) (.inl ⟨nle rfl, nle rfl⟩) (by omega), hM.step hun (nne rfl) (Below.refl _ _) (put_other (by rw [h.size]; omega) (nne rfl))⟩
  · cases hD
    exact op_of hd (run_move hp ((h.out 20 (show ¬ ((118 ≤ 20 ∧ 20 ≤ 129) ∨ 20 ∈ ([21, 22] : List Nat)) by decide)).trans tix)) ⟨h.plain hun rfl hpre rfl (fun k c' hk => by simp only [noughtSpec] at hk; split at hk <;> first | rfl | (cases hk; done)) (.inl ⟨nle rfl, nle rfl⟩) (by omega), hM.step hun (nne rfl) (Below.refl _ _) (put_other (by rw [h.size]; omega) (nne rfl))⟩
  · cases hD
    exact op_of hd (run_cut_from hp (h.tri 4 123 _ rfl (hpre 4 (by simp))) (h.tri 5 124 _ rfl (hpre 5 (by simp))) hle) ⟨h.plain hun rfl hpre rfl (fun k c' hk => by simp only [noughtSpec] at hk; split at hk <;> first | rfl | (cases hk; done)) (.inl ⟨nle rfl, nle rfl⟩) (by omega), hM.step hun (nne rfl) (Below.refl _ _) (put_other (by rw [h.size]; omega) (nne rfl))⟩
  · cases hD
    exact op_of hd (run_addT hp (h.tri 3 122 _ rfl (hpre 3 (by simp))) (h.tri 6 125 _ rfl (hpre 6 (by simp))) (by have := ext_small s 0 p; have := ext_small s p s.size; have : (⟨#[48]⟩ : ByteArray).size = 1 := rfl; rw [ByteArray.size_append]; omega)) ⟨h.plain hun rfl hpre rfl (fun k c' hk => by simp only [noughtSpec] at hk; split at hk <;> first | rfl | (cases hk; done)) (.inl ⟨nle rfl, nle rfl⟩) (by omega), hM.step hun (nne rfl) (Below.refl _ _) (put_other (by rw [h.size]; omega) (nne rfl))⟩
  · cases hD
    have h' := tm_get (h.tri 7 126 _ rfl (hpre 7 (by simp)))
    unfold Oper.wp
    have hr' : (execOp a.eval o).run Tryd.prog w = .ok (.enter 20 #[.string (moreB s p ⟨#[48]⟩)]) w := by
      simp [execOp, hp, h', go_sem]
    rw [hr', Oper.upon_enter]
    refine (hC w hM.below).mono ?_
    rintro e w' ⟨rfl, hb⟩
    show _ ∧ _
    rw [hd]
    exact ⟨h.plain hun rfl hpre rfl (fun k c' hk => by simp only [noughtSpec] at hk; split at hk <;> first | rfl | (cases hk; done)) (.inl ⟨nle rfl, nle rfl⟩) (by omega), hM.step hun (nne rfl) hb (put_other (by rw [h.size]; omega) (nne rfl))⟩
  · cases hD
    exact op_of hd (run_move hp (h.tri 8 127 _ rfl (hpre 8 (by simp)))) ⟨h.plain hun rfl hpre rfl (fun k c' hk => by simp only [noughtSpec] at hk; split at hk <;> first | rfl | (cases hk; done)) (.inl ⟨nle rfl, nle rfl⟩) (by omega), hM.step hun (nne rfl) (Below.refl _ _) (put_other (by rw [h.size]; omega) (nne rfl))⟩
  · cases hD
    exact op_of hd (run_extract hp (h.tri 9 118 _ rfl (hpre 9 (by simp))) (.inl ⟨rfl, rfl⟩)) ⟨h.plain hun rfl hpre rfl (fun k c' hk => by simp only [noughtSpec] at hk; split at hk <;> first | rfl | (cases hk; done)) (.inl ⟨nle rfl, nle rfl⟩) (by omega), hM.step hun (nne rfl) (Below.refl _ _) (put_other (by rw [h.size]; omega) (nne rfl))⟩
  · cases hD
    exact op_of hd (run_extract hp (h.tri 9 118 _ rfl (hpre 9 (by simp))) (.inr ⟨rfl, rfl⟩)) ⟨h.plain hun rfl hpre rfl (fun k c' hk => by simp only [noughtSpec] at hk; split at hk <;> first | rfl | (cases hk; done)) (.inl ⟨nle rfl, nle rfl⟩) (by omega), hM.step hun (nne rfl) (Below.refl _ _) (put_other (by rw [h.size]; omega) (nne rfl))⟩
  · cases hD
    exact op_ofW hd (run_alloc36 hp) ⟨h.some hun rfl hpre rfl (fun k c' hk => by simp only [noughtSpec] at hk; split at hk <;> (cases hk; done)) (.inr (show 21 ∈ ([21, 22] : List Nat) by decide)) (by omega), hM.alloc (by rw [h.size]; omega)⟩
  · cases hD
    obtain ⟨g, cs, e1, e2, e3, e4⟩ := hM.made (hpre 12 (by simp))
    unfold Oper.wp
    rw [run_store36 hp e1 (h.tri 10 128 _ rfl (hpre 10 (by simp))) e3 e4, Oper.upon_skip, hd]
    exact ⟨h.none hun rfl hpre rfl, hM.store e2 e3 e4 e1 _ _ _⟩
  · cases hD
    exact op_of hd (run_assign hp (h.tri 11 129 _ rfl (hpre 11 (by simp)))) ⟨h.plain hun rfl hpre rfl (fun k c' hk => by simp only [noughtSpec] at hk; split at hk <;> first | rfl | (cases hk; done)) (.inr (show 22 ∈ ([21, 22] : List Nat) by decide)) (by omega), hM.step hun (nne rfl) (Below.refl _ _) (put_other (by rw [h.size]; omega) (nne rfl))⟩
end Go.Proofs.YtkdigojjeiidmaaDoor
