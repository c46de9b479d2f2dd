/-
  A statement 's.f = append(s.f, x)' on a struct of one's own: it draws its order. What memory holds in between, whichever operations have come up.
-/
import Derived.Test.YtkdigojjeiidmaaDoorCall
namespace Go.Proofs.YtkdigojjeiidmaaDoor
open Go Go.RowKit Go.Shelf

/-- The statement's data: the struct's block S, its cells, the field, the row that grows, the value, the slots of the new block and of the result, the three operations that touch memory. -/
structure FData where
  S : Nat
  sc : Array Value
  off : Nat
  base : Nat
  E : TypeId
  dv : Value
  n : Nat
  xs : List Value
  ev : Value
  tb : Nat
  ta : Nat
  ib : Nat
  ia : Nat
  is : Nat
structure FMem (F : FData) (X : Nat → Prop) (w0 : World) (l : Array Bool) (a : Act) (w : World) : Prop where
  kept : Kept X w0 w
  fresh : ¬ Lst l F.is → w.heap[F.S]? = some (.cells F.sc 29 (0, 0))
  done : Lst l F.is → w.heap[F.S]? = some (.cells (F.sc.setIfInBounds F.off (Tm a F.ta)) 29 (0, 0))
  lit : Lst l F.ib → ¬ Lst l F.ia → ∃ g, Tm a F.tb = .slice (some ⟨g, 0, none⟩) 1 1 ∧ w0.heap.size ≤ g ∧ w.heap[g]? = some (.cells #[F.ev] F.E (0, 0))
  row : ¬ Lst l F.ia → w.ownsRow F.base F.E 1 F.dv F.n F.xs
  rowE : Lst l F.ia → w.ownsRow F.base F.E 1 (Tm a F.ta) (F.n + 1) (F.xs ++ [F.ev])
/-- What holds of X and the numbers. -/
structure FOk (F : FData) (X : Nat → Prop) (w0 : World) : Prop where
  S_lt : F.S < F.base
  base_le : F.base ≤ w0.heap.size
  X_S : X F.S
  X_base : ∀ g, F.base ≤ g → X g
  ab : F.tb ≠ F.ta
  b_a : F.ib ≠ F.ia
  a_s : F.ia ≠ F.is
  b_s : F.ib ≠ F.is
variable {F : FData} {X : Nat → Prop} {w0 w w' : World} {l : Array Bool} {a a' : Act}
theorem FMem.start (h1 : w0.heap[F.S]? = some (.cells F.sc 29 (0, 0))) (h2 : w0.ownsRow F.base F.E 1 F.dv F.n F.xs) (m : Nat) (a : Act) : FMem F X w0 (Array.replicate m false) a w0.drew :=
  ⟨(Kept.refl _ _).drew, fun _ => h1, fun h => absurd h (lst_none _ _), fun h => absurd h (lst_none _ _), fun _ => own_kept h2 (fun _ _ => rfl), fun h => absurd h (lst_none _ _)⟩
/-- An operation that touches none of it; a call that turns one other block. -/
theorem FMem.other {R : Nat} (h : FMem F X w0 l a w) (ho : FOk F X w0) {i : Nat} (hun : l.getD i true = false) (hb : F.ib ≠ i) (ha : F.ia ≠ i) (hs : F.is ≠ i) (htb : Tm a' F.tb = Tm a F.tb) (hta : Tm a' F.ta = Tm a F.ta)
    (hk : Kept (fun g => g = R) w w') (hR : R < F.base) (hRS : F.S ≠ R) (hXR : X R) : FMem F X w0 (l.setIfInBounds i true) a' w' := by
  have e : ∀ j, j ≠ i → (Lst (l.setIfInBounds i true) j ↔ Lst l j) := fun j hj => by rw [lst_set hun]; exact ⟨fun h => h.resolve_right hj, .inl⟩
  have hlt := ho.S_lt
  have hbl := ho.base_le
  refine ⟨h.kept.trans hk (fun g _ e => by subst e; exact hXR), fun hn => hk.blk (h.fresh (fun q => hn ((e _ hs).2 q))) hRS, fun hl => ?_, fun hl hn => ?_, fun hn => hk.own (h.row (fun q => hn ((e _ ha).2 q))) (fun g hg => ?_), fun hl => ?_⟩
  · rw [hta]; exact hk.blk (h.done ((e _ hs).1 hl)) hRS
  · obtain ⟨g, e1, e2, e3⟩ := h.lit ((e _ hb).1 hl) (fun q => hn ((e _ ha).2 q))
    exact ⟨g, htb.trans e1, e2, hk.blk e3 (by omega)⟩
  · have := own_later (h.row (fun q => hn ((e _ ha).2 q))) g hg
    omega
  · rw [hta]
    have hr := h.rowE ((e _ ha).1 hl)
    exact hk.own hr (fun g hg => by have := own_later hr g hg; omega)
theorem FMem.plain (h : FMem F X w0 l a w) {i : Nat} (hun : l.getD i true = false) (hb : F.ib ≠ i) (ha : F.ia ≠ i) (hs : F.is ≠ i) (htb : Tm a' F.tb = Tm a F.tb) (hta : Tm a' F.ta = Tm a F.ta) : FMem F X w0 (l.setIfInBounds i true) a' w := by
  have e : ∀ j, j ≠ i → (Lst (l.setIfInBounds i true) j ↔ Lst l j) := fun j hj => by rw [lst_set hun]; exact ⟨fun h => h.resolve_right hj, .inl⟩
  refine ⟨h.kept, fun hn => h.fresh (fun q => hn ((e _ hs).2 q)), fun hl => ?_, fun hl hn => ?_, fun hn => h.row (fun q => hn ((e _ ha).2 q)), fun hl => ?_⟩
  · rw [hta]; exact h.done ((e _ hs).1 hl)
  · rw [htb]; exact h.lit ((e _ hb).1 hl) (fun q => hn ((e _ ha).2 q))
  · rw [hta]; exact h.rowE ((e _ ha).1 hl)
theorem FMem.build (h : FMem F X w0 l a w) (ho : FOk F X w0) (hun : l.getD F.ib true = false) (hna : ¬ Lst l F.ia) (hns : ¬ Lst l F.is) (hsz : F.tb < a.tmps.size) :
    FMem F X w0 (l.setIfInBounds F.ib true) (a.put (some F.tb) (.slice (some ⟨w.heap.size, 0, none⟩) 1 1)) (w.alloc (.cells #[F.ev] F.E)) := by
  have na : ¬ Lst (l.setIfInBounds F.ib true) F.ia := fun q => ((lst_set hun).1 q).elim hna (fun e => ho.b_a e.symm)
  have ns : ¬ Lst (l.setIfInBounds F.ib true) F.is := fun q => ((lst_set hun).1 q).elim hns (fun e => ho.b_s e.symm)
  refine ⟨h.kept.alloc _, fun _ => ?_, fun hl => absurd hl ns, fun _ _ => ⟨w.heap.size, by rw [tm_put hsz, if_pos rfl], h.kept.size, World.alloc_heap_new _ _⟩, fun _ => (h.row hna).alloc _, fun hl => absurd hl na⟩
  have hb := h.fresh hns
  exact (Below.heap_alloc _ _ _ (Array.getElem?_eq_some_iff.1 hb).1).trans hb
theorem FMem.app (h : FMem F X w0 l a w) (ho : FOk F X w0) (hun : l.getD F.ia true = false) (hns : ¬ Lst l F.is) (hsz : F.ta < a.tmps.size) {v : Value}
    (hg : w.grownBy w' F.dv.ownBlock) (hv : w'.ownsRow F.base F.E 1 v (F.n + 1) (F.xs ++ [F.ev])) : FMem F X w0 (l.setIfInBounds F.ia true) (a.put (some F.ta) v) w' := by
  have hna := lst_not hun
  have ya : Lst (l.setIfInBounds F.ia true) F.ia := by rw [lst_set hun]; exact .inr rfl
  have ns : ¬ Lst (l.setIfInBounds F.ia true) F.is := fun q => ((lst_set hun).1 q).elim hns (fun e => ho.a_s e.symm)
  have hr := h.row hna
  have hlt := ho.S_lt
  refine ⟨h.kept.grown hg (fun k e _ => ho.X_base _ (own_later hr k e)), fun _ => blk_grown hg (h.fresh hns) (fun e => by have := own_later hr _ e; omega), fun hl => absurd hl ns, fun _ hn => absurd ya hn, fun hn => absurd ya hn, fun _ => ?_⟩
  rw [tm_put hsz, if_pos rfl]; exact hv
theorem FMem.store (h : FMem F X w0 l a w) (ho : FOk F X w0) (hun : l.getD F.is true = false) (hya : Lst l F.ia) : FMem F X w0 (l.setIfInBounds F.is true) a (w.setCell ⟨F.S, F.off, none⟩ (Tm a F.ta)) := by
  have ya : Lst (l.setIfInBounds F.is true) F.ia := by rw [lst_set hun]; exact .inl hya
  have ys : Lst (l.setIfInBounds F.is true) F.is := by rw [lst_set hun]; exact .inr rfl
  have hlt := ho.S_lt
  refine ⟨h.kept.setCell (fun _ => ho.X_S) _, fun hn => absurd ys hn, fun _ => blk_set (h.fresh (lst_not hun)) _ _, fun _ hn => absurd ya hn, fun hn => absurd ya hn, fun _ => ?_⟩
  have hr := h.rowE hya
  exact own_kept hr (fun g hg => Below.heap_setCell _ _ _ _ (show g ≠ F.S by have := own_later hr g hg; omega))

/-- The reader's place, as a call of next has come up or not. -/
def RMem (R : Nat) (ns : List Nat) (p ic : Nat) (l : Array Bool) (w : World) : Prop := (¬ Lst l ic → RdAt w R ns p) ∧ (Lst l ic → RdAt w R ns (p + 1))
theorem RMem.other {R p ic i : Nat} {ns : List Nat} {Y : Nat → Prop} (h : RMem R ns p ic l w) (hun : l.getD i true = false) (hi : ic ≠ i) (hk : Kept Y w w') (hY : ∀ g, (g + 1 < R ∨ g = R) → ¬ Y g) : RMem R ns p ic (l.setIfInBounds i true) w' := by
  have e : Lst (l.setIfInBounds i true) ic ↔ Lst l ic := by rw [lst_set hun]; exact ⟨fun h => h.resolve_right hi, .inl⟩
  exact ⟨fun hn => (h.1 (fun q => hn (e.2 q))).kept hk hY, fun hl => (h.2 (e.1 hl)).kept hk hY⟩
theorem RMem.call {R p ic : Nat} {ns : List Nat} (hun : l.getD ic true = false) (h : RdAt w' R ns (p + 1)) : RMem R ns p ic (l.setIfInBounds ic true) w' :=
  ⟨fun hn => absurd (by rw [lst_set hun]; exact .inr rfl) hn, fun _ => h⟩
theorem put_other {d t : Nat} {v : Value} (hd : d < a.tmps.size) (ht : t ≠ d) : Tm (a.put (some d) v) t = Tm a t := by rw [tm_put hd, if_neg ht]
theorem kept_self (w : World) : Kept (fun _ => False) w w := Kept.refl _ _
theorem kept_alloc (w : World) (o : Obj) : Kept (fun _ => False) w (w.alloc o) := (Kept.refl _ _).alloc o
theorem kept_grown {row : Option Nat} {B : Nat} (hg : w.grownBy w' row) (h : ∀ k, row = some k → B ≤ k) : Kept (fun g => B ≤ g) w w' := (Kept.refl _ _).grown hg (fun k e _ => h k e)

/-- Single operations. -/
theorem run_u32 {o : Oper} {a : Act} {w : World} {t x : Nat} (hp : o.op = .convert 3 56 (.tmp t)) (h : Tm a t = .int .i64 (x : Nat)) (hx : x ≤ 255) : (execOp a.eval o).run Tryd.prog w = .ok (.value (.int .u32 (x : Nat))) w := by
  have h' := tm_get h
  have hw : IntKind.u32.wrap (x : Int) = x := by rw [IntKind.wrap_u32']; omega
  simp [execOp, hp, h', go_sem, hw]
theorem run_i64of8 {o : Oper} {a : Act} {w : World} {t x : Nat} (hp : o.op = .convert 5 3 (.tmp t)) (h : Tm a t = .int .u8 (x : Nat)) (hx : x ≤ 255) : (execOp a.eval o).run Tryd.prog w = .ok (.value (.int .i64 (x : Nat))) w := by
  have h' := tm_get h
  have hw : IntKind.i64.wrap (x : Int) = x := by rw [IntKind.wrap_i64]; omega
  simp [execOp, hp, h', go_sem, hw]
theorem run_rem {o : Oper} {a : Act} {w : World} {t u x y : Nat} (hp : o.op = .binOp .rem 3 (.tmp t) (.tmp u) 3) (h : Tm a t = .int .i64 (x : Nat)) (h2 : Tm a u = .int .i64 (y : Nat)) (hy : 0 < y) (hy6 : y ≤ 6) : (execOp a.eval o).run Tryd.prog w = .ok (.value (.int .i64 ((x % y : Nat) : Int))) w := by
  have h' := tm_get h
  have h2' := tm_get h2
  have hne : (y : Int) ≠ 0 := by omega
  have hne' : y ≠ 0 := by omega
  have hw : (x : Int).tmod y = ((x % y : Nat) : Int) := tmod_nat x y
  have hlt : x % y < y := Nat.mod_lt _ hy
  have hi : IntKind.i64.wrap ((x % y : Nat) : Int) = ((x % y : Nat) : Int) := by rw [IntKind.wrap_i64]; omega
  rcases (show y = 1 ∨ y = 2 ∨ y = 3 ∨ y = 4 ∨ y = 5 ∨ y = 6 by omega) with rfl | rfl | rfl | rfl | rfl | rfl <;> simp [execOp, hp, h', h2', go_sem] <;> simpa using hw
theorem run_field {o : Oper} {a : Act} {w : World} {t S T c j k : Nat} (hp : o.op = .fieldAddr T (.tmp t) j) (h : Tm a t = .pointer (some ⟨S, c, none⟩)) (hT : (T = 29 ∧ ((j = 0 ∧ k = c) ∨ (j = 1 ∧ k = c + 3) ∨ (j = 2 ∧ k = c + 4))) ∨ (T = 25 ∧ k = c + j ∧ j < 3)) : (execOp a.eval o).run Tryd.prog w = .ok (.value (.pointer (some ⟨S, k, none⟩))) w := by
  have h' := tm_get h
  rcases hT with ⟨rfl, ⟨rfl, rfl⟩ | ⟨rfl, rfl⟩ | ⟨rfl, rfl⟩⟩ | ⟨rfl, rfl, hj⟩
  · simp [execOp, hp, h', go_sem]
  · simp [execOp, hp, h', go_sem]
  · simp [execOp, hp, h', go_sem]
  · rcases (show j = 0 ∨ j = 1 ∨ j = 2 by omega) with rfl | rfl | rfl <;> simp [execOp, hp, h', go_sem]
theorem run_load3 {o : Oper} {a : Act} {w : World} {t : Nat} {A : Addr} {x : Int} (hp : o.op = .load 3 (.tmp t)) (h : Tm a t = .pointer (some A)) (hc : w.cell? A = some (.int .i64 x)) : (execOp a.eval o).run Tryd.prog w = .ok (.value (.int .i64 x)) w := by
  have h' := tm_get h
  simp [execOp, hp, h', go_sem, hc]
theorem run_load5 {o : Oper} {a : Act} {w : World} {t : Nat} {A : Addr} {x : Int} (hp : o.op = .load 5 (.tmp t)) (h : Tm a t = .pointer (some A)) (hc : w.cell? A = some (.int .u8 x)) : (execOp a.eval o).run Tryd.prog w = .ok (.value (.int .u8 x)) w := by
  have h' := tm_get h
  simp [execOp, hp, h', go_sem, hc]
theorem run_loadS {o : Oper} {a : Act} {w : World} {t T : Nat} {A : Addr} {ad : Option Addr} {n c : Nat} (hT : T = 23 ∨ T = 27 ∨ T = 26) (hp : o.op = .load T (.tmp t)) (h : Tm a t = .pointer (some A)) (hc : w.cell? A = some (.slice ad n c)) : (execOp a.eval o).run Tryd.prog w = .ok (.value (.slice ad n c)) w := by
  have h' := tm_get h
  rcases hT with rfl | rfl | rfl <;> simp [execOp, hp, h', go_sem, hc]
theorem run_lit {o : Oper} {a : Act} {w : World} {t T E : Nat} {v : Value} (hT : (T = 23 ∧ E = 56 ∧ ∃ x, v = .int .u32 x) ∨ (T = 27 ∧ E = 3 ∧ ∃ x, v = .int .i64 x)) (hp : o.op = .buildSlice T 1 #[(0, .tmp t)]) (h : Tm a t = v) : (execOp a.eval o).run Tryd.prog w = .ok (.value (.slice (some ⟨w.heap.size, 0, none⟩) 1 1)) (w.alloc (.cells #[v] E)) := by
  have h' := tm_get h
  rcases hT with ⟨rfl, rfl, x, rfl⟩ | ⟨rfl, rfl, x, rfl⟩ <;> simp [execOp, hp, h', go_sem]
theorem run_storeS {o : Oper} {a : Act} {w : World} {K : Act → World → Prop} {Q : Exit → Act → World → Prop} {t u T : Nat} {A : Addr} {ad old : Option Addr} {n c n' c' : Nat} (hT : T = 23 ∨ T = 27) (hp : o.op = .store T (.tmp t) (.tmp u)) (hd : o.dst = none) (h : Tm a t = .pointer (some A)) (hu : Tm a u = .slice ad n c) (hc : w.cell? A = some (.slice old n' c')) (hf : w.frozen? A = false)
    (hK : K a (w.setCell A (.slice ad n c))) : Oper.wp Tryd.prog o a w K Q := by
  have h' := tm_get h
  have hu' := tm_get hu
  unfold Oper.wp
  have hr : (execOp a.eval o).run Tryd.prog w = .ok .skip (w.setCell A (.slice ad n c)) := by
    rcases hT with rfl | rfl <;> simp [execOp, hp, h', hu', go_sem, hc, hf]
  rw [hr, Oper.upon_skip, hd]
  exact hK
theorem run_next {o : Oper} {a : Act} {w : World} {K : Act → World → Prop} {Q : Exit → Act → World → Prop} {t R p : Nat} {ns : List Nat} (hp : o.op = .call { callee := .value (.func 24), args := #[.tmp t], argTypes := #[52] }) (h : Tm a t = .pointer (some ⟨R, 0, none⟩)) (hr : RdAt w R ns p)
    (hK : ∀ w', RdAt w' R ns (p + 1) → Kept (fun g => g = R) w w' → K (a.put o.dst (.int .i64 (bt ns p : Nat))) w') : Oper.wp Tryd.prog o a w K Q := by
  have h' := tm_get h
  unfold Oper.wp
  have hr' : (execOp a.eval o).run Tryd.prog w = .ok (.enter 24 #[.pointer (some ⟨R, 0, none⟩)]) w := by
    simp [execOp, hp, h', go_sem]
  rw [hr', Oper.upon_enter]
  refine (next_any R ns p w hr).mono ?_
  rintro e w' ⟨rfl, h1, h2⟩
  exact hK w' h1 h2
theorem info56 : (Tryd.prog.info? 56).map (fun i => (i.zero, i.size, i.bytes)) = some (some (.int .u32 0), 1, 4) := by kernel_rfl
theorem own_shape {w : World} {B e s n : Nat} {v : Value} {xs : List Value} (h : w.ownsRow B e s v n xs) : ∃ ad cap, v = .slice ad n cap := own_slice h
end Go.Proofs.YtkdigojjeiidmaaDoor
