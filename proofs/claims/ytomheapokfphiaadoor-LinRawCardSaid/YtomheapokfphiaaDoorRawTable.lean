/-
  A region that draws its order, told by a table: which slot each operation gives which value; what it does to memory is the caller's. No program in sight but for single operations.
-/
import Derived.Test.YtomheapokfphiaaDoorRawAllocRegion
namespace Go.Proofs.YtomheapokfphiaaDoor
open Go Go.RowKit Go.Shelf

structure TSpec where
  D : Nat → Option (Option Nat × Op × List Nat)
  triv : Nat → Option (Nat × Value)
  lo : Nat
  hi : Nat
  odd : List Nat
  N : Nat
def TSpec.Text (S : TSpec) (ops : Array Oper) : Prop := ∀ i o, ops[i]? = some o → ∃ d p ds, S.D i = some (d, p, ds) ∧ o.dst = d ∧ o.op = p ∧ o.guard = none ∧ (ds.all fun j => o.after.toList.any fun e => Region.binds .any e && e.on == j) = true ∧ (o.after.toList.any fun e => !Nat.ble (e.on + 1) i) = false
/-- A slot that the region gives a value. -/
def TSpec.turns (S : TSpec) (t : Nat) : Prop := (S.lo ≤ t ∧ t ≤ S.hi) ∨ t ∈ S.odd

structure TInv (S : TSpec) (a0 : Act) (l : Array Bool) (a : Act) : Prop where
  defers : a.defers = a0.defers
  size : a.tmps.size = a0.tmps.size
  lsz : l.size = S.N
  out : ∀ t, ¬ S.turns t → Tm a t = Tm a0 t
  clo : ∀ i d p ds, S.D i = some (d, p, ds) → Lst l i → ∀ j ∈ ds, Lst l j
  dom : ∀ i, Lst l i → S.D i ≠ none
  tri : ∀ i t c, S.triv i = some (t, c) → Lst l i → Tm a t = c

variable {S : TSpec} {a0 : Act} {l : Array Bool} {a : Act}

theorem TInv.start {ops : Array Oper} (hn : ops.size = S.N) : TInv S a0 (Array.replicate ops.size false) a0 :=
  ⟨rfl, rfl, by rw [Array.size_replicate]; exact hn, fun _ _ => rfl, fun i _ _ _ _ hL => absurd hL (lst_none _ i), fun i hL => absurd hL (lst_none _ i), fun i _ _ _ hL => absurd hL (lst_none _ i)⟩
theorem TInv.clo' (h : TInv S a0 l a) {i : Nat} (hun : l.getD i true = false) {d p ds} (hD : S.D i = some (d, p, ds)) (hpre : ∀ j ∈ ds, Lst l j) :
    ∀ k d p ds, S.D k = some (d, p, ds) → Lst (l.setIfInBounds i true) k → ∀ j ∈ ds, Lst (l.setIfInBounds i true) j := fun k d' p' ds' hk hL j hj => by
  rw [lst_set hun] at hL ⊢
  rcases hL with hL | rfl
  · exact .inl (h.clo k d' p' ds' hk hL j hj)
  · rw [hD] at hk; cases hk
    exact .inl (hpre j hj)
theorem TInv.dom' (h : TInv S a0 l a) {i : Nat} (hun : l.getD i true = false) {d p ds} (hD : S.D i = some (d, p, ds)) : ∀ k, Lst (l.setIfInBounds i true) k → S.D k ≠ none := fun k hL => by
  rw [lst_set hun] at hL
  rcases hL with hL | rfl
  · exact h.dom k hL
  · rw [hD]; exact fun h => by cases h
/-- An operation that gives slot t its value. -/
theorem TInv.plain (h : TInv S a0 l a) {i t : Nat} {c : Value} {p ds} (hun : l.getD i true = false) (hD : S.D i = some (some t, p, ds)) (hpre : ∀ j ∈ ds, Lst l j) (ht : S.triv i = some (t, c))
    (hin : ∀ k c', S.triv k = some (t, c') → k = i) (htu : S.turns t) (hsz : t < a0.tmps.size) : TInv S a0 (l.setIfInBounds i true) (a.put (some t) c) := by
  have hsz' : t < a.tmps.size := by rw [h.size]; exact hsz
  refine ⟨h.defers, by simpa [Act.put] using h.size, by simpa using h.lsz, fun u hu => ?_, h.clo' hun hD hpre, h.dom' hun hD, fun k u c' hk hL => ?_⟩
  · rw [tm_put hsz', if_neg (fun e => hu (by rw [e]; exact htu))]; exact h.out u hu
  · rw [tm_put hsz']
    by_cases e : u = t
    · subst e
      obtain rfl := hin k c' hk
      rw [ht] at hk; cases hk
      rw [if_pos rfl]
    · rw [if_neg e]
      rw [lst_set hun] at hL
      rcases hL with hL | rfl
      · exact h.tri k u c' hk hL
      · rw [ht] at hk; cases hk; exact absurd rfl e
/-- An operation that gives slot t some value. -/
theorem TInv.some (h : TInv S a0 l a) {i t : Nat} {v : Value} {p ds} (hun : l.getD i true = false) (hD : S.D i = Option.some (Option.some t, p, ds)) (hpre : ∀ j ∈ ds, Lst l j) (ht : S.triv i = none)
    (hin : ∀ k c', S.triv k ≠ Option.some (t, c')) (htu : S.turns t) (hsz : t < a0.tmps.size) : TInv S a0 (l.setIfInBounds i true) (a.put (Option.some t) v) := by
  have hsz' : t < a.tmps.size := by rw [h.size]; exact hsz
  refine ⟨h.defers, by simpa [Act.put] using h.size, by simpa using h.lsz, fun u hu => ?_, h.clo' hun hD hpre, h.dom' hun hD, fun k u c' hk hL => ?_⟩
  · rw [tm_put hsz', if_neg (fun e => hu (by rw [e]; exact htu))]; exact h.out u hu
  · rw [tm_put hsz']
    by_cases e : u = t
    · subst e
      exact absurd hk (hin k c')
    · rw [if_neg e]
      rw [lst_set hun] at hL
      rcases hL with hL | rfl
      · exact h.tri k u c' hk hL
      · rw [ht] at hk; cases hk
/-- An operation that gives no slot a value. -/
theorem TInv.none (h : TInv S a0 l a) {i : Nat} {d p ds} (hun : l.getD i true = false) (hD : S.D i = Option.some (d, p, ds)) (hpre : ∀ j ∈ ds, Lst l j) (ht : S.triv i = Option.none) : TInv S a0 (l.setIfInBounds i true) a := by
  refine ⟨h.defers, h.size, by simpa using h.lsz, h.out, h.clo' hun hD hpre, h.dom' hun hD, fun k u c' hk hL => ?_⟩
  rw [lst_set hun] at hL
  rcases hL with hL | rfl
  · exact h.tri k u c' hk hL
  · rw [ht] at hk; cases hk
theorem TInv.all (h : TInv S a0 l a) {ops : Array Oper} (hn : ops.size = S.N) (hT : S.Text ops) (hr : Region.ready .any ops l = []) : ∀ i, i < S.N → Lst l i := by
  intro i
  induction i using Nat.strongRecOn with
  | ind i ih =>
    intro hi
    obtain ⟨o, ho⟩ : ∃ o, ops[i]? = Option.some o := ⟨_, Array.getElem?_eq_getElem (by omega)⟩
    obtain ⟨d, p, ds, _, _, _, _, _, hlt'⟩ := hT i o ho
    have hlt := late_of hlt'
    cases hb : l.getD i true with
    | true =>
      unfold Lst
      have hs := h.lsz
      simp only [Array.getD_eq_getD_getElem?, Array.getElem?_eq_getElem (show i < l.size by omega), Option.getD_some] at hb ⊢
      exact hb
    | false =>
      have hm : i ∈ Region.ready .any ops l := mem_ready.2 ⟨hb, o, ho, fun e he _ => ih e.on (hlt e he) (by have := hlt e he; omega)⟩
      rw [hr] at hm; cases hm
/-- The law. -/
theorem table_region {P : Program} {ops : Array Oper} {Q : Exit → Act → World → Prop} {id : Nat} {w0 : World} (S : TSpec) (M : Array Bool → Act → World → Prop) (hm : P.follows .mixedOrders = true)
    (hT : S.Text ops) (hn : ops.size = S.N) (h0 : M (Array.replicate ops.size false) a0 w0.drew)
    (hQ : ∀ l a w, TInv S a0 l a → (∀ i, i < S.N → Lst l i) → M l a w → Q .normal a w)
    (hstep : ∀ l a w i o d p ds, TInv S a0 l a → M l a w → i < S.N → S.D i = Option.some (d, p, ds) → o.dst = d → o.op = p → (∀ j ∈ ds, Lst l j) → l.getD i true = false →
      Oper.wp P o a w (fun a' w' => TInv S a0 (l.setIfInBounds i true) a' ∧ M (l.setIfInBounds i true) a' w') Q) :
    (Code.region id ops true).wp P Q a0 w0 := by
  refine wp_region_inv hm (fun l a w => TInv S a0 l a ∧ M l a w) ⟨TInv.start hn, h0⟩ (fun l a w h hr => hQ l a w h.1 (h.1.all hn hT hr) h.2) ?_
  intro l a w i o h ho hun hall
  obtain ⟨d, p, ds, hD, hd, hp, hg', hdeps', _⟩ := hT i o ho
  have hdeps := deps_of hdeps'
  refine wpOp_plain ho hg' (hstep l a w i o d p ds h.1 h.2 (by have := (Array.getElem?_eq_some_iff.1 ho).1; omega) hD hd hp (fun j hj => ?_) hun)
  obtain ⟨e, he, hb, rfl⟩ := hdeps j hj
  exact hall e he hb

theorem run_addc {o : Oper} {a : Act} {w : World} {t : Nat} {c x y : Int} (hp : o.op = .binOp .add 3 (.tmp t) (.const (.int .i64 c)) 3) (h : Tm a t = .int .i64 x) (hw : IntKind.i64.wrap (x + c) = y) : (execOp a.eval o).run Tryd.prog w = .ok (.value (.int .i64 y)) w := by
  have h' := tm_get h
  subst hw
  simp [execOp, hp, h', go_sem]
theorem run_add2 {o : Oper} {a : Act} {w : World} {t u : Nat} {c x y : Int} (hp : o.op = .binOp .add 3 (.tmp t) (.tmp u) 3) (h : Tm a t = .int .i64 x) (h2 : Tm a u = .int .i64 c) (hw : IntKind.i64.wrap (x + c) = y) : (execOp a.eval o).run Tryd.prog w = .ok (.value (.int .i64 y)) w := by
  have h' := tm_get h
  have h2' := tm_get h2
  subst hw
  simp [execOp, hp, h', h2', go_sem]
theorem run_mul2 {o : Oper} {a : Act} {w : World} {t u : Nat} {c x y : Int} (hp : o.op = .binOp .mul 3 (.tmp t) (.tmp u) 3) (h : Tm a t = .int .i64 x) (h2 : Tm a u = .int .i64 c) (hw : IntKind.i64.wrap (x * c) = y) : (execOp a.eval o).run Tryd.prog w = .ok (.value (.int .i64 y)) w := by
  have h' := tm_get h
  have h2' := tm_get h2
  subst hw
  simp [execOp, hp, h', h2', go_sem]
theorem run_mulc {o : Oper} {a : Act} {w : World} {t : Nat} {c x y : Int} (hp : o.op = .binOp .mul 3 (.const (.int .i64 c)) (.tmp t) 3) (h : Tm a t = .int .i64 x) (hw : IntKind.i64.wrap (c * x) = y) : (execOp a.eval o).run Tryd.prog w = .ok (.value (.int .i64 y)) w := by
  have h' := tm_get h
  subst hw
  simp [execOp, hp, h', go_sem]
theorem run_rem9 {o : Oper} {a : Act} {w : World} {t : Nat} {x y : Nat} (hp : o.op = .binOp .rem 3 (.tmp t) (.const (.int .i64 9)) 3) (h : Tm a t = .int .i64 x) (hw : x % 9 = y) (hx : x ≤ 255) : (execOp a.eval o).run Tryd.prog w = .ok (.value (.int .i64 y)) w := by
  have h' := tm_get h
  have hw' : (x : Int).tmod 9 = y := by rw [Int.tmod_eq_emod_of_nonneg (by omega)]; omega
  simp [execOp, hp, h', go_sem, hw']
theorem run_rem20 {o : Oper} {a : Act} {w : World} {t : Nat} {x y : Nat} (hp : o.op = .binOp .rem 3 (.tmp t) (.const (.int .i64 20)) 3) (h : Tm a t = .int .i64 x) (hw : x % 20 = y) (hx : x ≤ 255) : (execOp a.eval o).run Tryd.prog w = .ok (.value (.int .i64 y)) w := by
  have h' := tm_get h
  have hw' : (x : Int).tmod 20 = y := by rw [Int.tmod_eq_emod_of_nonneg (by omega)]; omega
  simp [execOp, hp, h', go_sem, hw']
theorem run_rem70 {o : Oper} {a : Act} {w : World} {t : Nat} {x y : Nat} (hp : o.op = .binOp .rem 3 (.tmp t) (.const (.int .i64 70)) 3) (h : Tm a t = .int .i64 x) (hw : x % 70 = y) (hx : x ≤ 255) : (execOp a.eval o).run Tryd.prog w = .ok (.value (.int .i64 y)) w := by
  have h' := tm_get h
  have hw' : (x : Int).tmod 70 = y := by rw [Int.tmod_eq_emod_of_nonneg (by omega)]; omega
  simp [execOp, hp, h', go_sem, hw']
theorem run_index38 {o : Oper} {a : Act} {w : World} {s t g c n cap k : Nat} (hp : o.op = .indexAddr 38 (.tmp s) (.tmp t)) (h : Tm a s = .slice (some ⟨g, c, none⟩) n cap) (h2 : Tm a t = .int .i64 (k : Nat)) (hk : k < n) : (execOp a.eval o).run Tryd.prog w = .ok (.value (.pointer (some ⟨g, c + k, none⟩))) w := by
  have h' := tm_get h
  have h2' := tm_get h2
  have hk' : (k : Int) < n := by omega
  simp [execOp, hp, h', h2', go_sem, hk']
theorem run_load5 {o : Oper} {a : Act} {w : World} {t : Nat} {A : Addr} {x : Int} (hp : o.op = .load 5 (.tmp t)) (h : Tm a t = .pointer (some A)) (hc : w.cell? A = some (.int .u8 x)) : (execOp a.eval o).run Tryd.prog w = .ok (.value (.int .u8 x)) w := by
  have h' := tm_get h
  simp [execOp, hp, h', go_sem, hc]
theorem run_conv {o : Oper} {a : Act} {w : World} {t x : Nat} (hp : o.op = .convert 5 3 (.tmp t)) (h : Tm a t = .int .u8 (x : Nat)) (hx : x ≤ 255) : (execOp a.eval o).run Tryd.prog w = .ok (.value (.int .i64 (x : Nat))) w := by
  have h' := tm_get h
  have hw : IntKind.i64.wrap (x : Int) = x := by rw [IntKind.wrap_i64]; omega
  simp [execOp, hp, h', go_sem, hw]
theorem run_field50 {o : Oper} {a : Act} {w : World} {t G j : Nat} (hp : o.op = .fieldAddr 50 (.tmp t) j) (h : Tm a t = .pointer (some ⟨G, 0, none⟩)) (hj : j = 4 ∨ j = 5 ∨ j = 6 := by omega) : (execOp a.eval o).run Tryd.prog w = .ok (.value (.pointer (some ⟨G, j, none⟩))) w := by
  have h' := tm_get h
  rcases hj with rfl | rfl | rfl <;> simp [execOp, hp, h', go_sem]
theorem blk_set {w : World} {g : Nat} {c : Array Value} {t : TypeId} (h : w.heap[g]? = some (.cells c t (0, 0))) (j : Nat) (v : Value) : (w.setCell ⟨g, j, none⟩ v).heap[g]? = some (.cells (c.setIfInBounds j v) t (0, 0)) := by
  simp [World.setCell, Array.getElem?_modify, h]
end Go.Proofs.YtomheapokfphiaaDoor
