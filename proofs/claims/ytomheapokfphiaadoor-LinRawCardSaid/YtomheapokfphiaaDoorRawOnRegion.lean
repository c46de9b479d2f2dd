/-
  The statement of lin.on that draws its order: the order so far is copied, one number more behind it, and it is gone on from there.
-/
import Derived.Test.YtomheapokfphiaaDoorRawAllocRegion
namespace Go.Proofs.YtomheapokfphiaaDoor
open Go Go.RowKit Go.Shelf

def onRows (order : List Int) (i : Nat) : Rows where
  row := fun
    | 5 => some (.tmp 44, order.map iV)
    | 7 => some (.tmp 46, [iV (i : Int)])
    | 8 => some (.tmp 47, order.map iV ++ [iV (i : Int)])
    | _ => none
  con := fun
    | 5 => 8
    | 7 => 8
    | _ => 13
  inj := fun j k d xs ys hj hk => by
    split at hj <;> split at hk <;> first | rfl | (cases hj; done) | (cases hk; done) | (cases hj; cases hk; done)
  pre := fun _ => false
def onSpec (bs : Nat) (lv nx ov yv : Value) (order : List Int) (i : Nat) : RSpec where
  D := fun
    | 0 => some (some 39, .move (.tmp 12), [])
    | 1 => some (some 40, .move (.tmp 39), [0])
    | 2 => some (some 41, .move (.tmp 0), [1])
    | 3 => some (some 42, .load 63 (.tmp 11), [1])
    | 4 => some (some 43, .move (.tmp 2), [1])
    | 5 => some (some 44, .call { callee := .value (.func 71), args := #[.tmp 43], argTypes := #[41] }, [4, 1])
    | 6 => some (some 45, .move (.tmp 9), [1])
    | 7 => some (some 46, .buildSlice 41 1 #[(0, .tmp 45)], [6, 1])
    | 8 => some (some 47, .call { callee := .builtin .append, args := #[.tmp 44, .tmp 46], argTypes := #[41, 41] }, [5, 7, 1])
    | 9 => some (some 48, .move (.tmp 3), [1])
    | 10 => some (some 49, .call { callee := .value (.func 60), args := #[.tmp 41, .tmp 42, .tmp 47, .tmp 48], argTypes := #[39, 63, 41, 78] }, [2, 3, 8, 9, 1])
    | 11 => some (some 50, .unOp .not 4 (.tmp 49), [10, 1])
    | 12 => some (some 51, .pick (.tmp 40) (.tmp 50) (.const (.bool false)), [1, 11])
    | _ => none
  triv := fun
    | 0 => some (39, .bool true)
    | 1 => some (40, .bool true)
    | 2 => some (41, lv)
    | 3 => some (42, nx)
    | 4 => some (43, ov)
    | 6 => some (45, .int .i64 i)
    | 9 => some (48, yv)
    | _ => none
  R := onRows order i
  s1 := 99
  s2 := 98
  v1 := 0
  v2 := 0
  A1 := ⟨0, 0, none⟩
  A2 := ⟨0, 0, none⟩
  lo := 39
  hi := 51
  N := 13
  base := bs
/-- What the region's text says; the operations from the third on hang on the second's value. -/
def OnText (S : RSpec) (ops : Array Oper) : Prop := ∀ i o, ops[i]? = some o → ∃ d p ds, S.D i = some (d, p, ds) ∧ o.dst = d ∧ o.op = p ∧ o.guard = (if 2 ≤ i ∧ i < 12 then some (1, true) else none) ∧ (ds.all fun j => o.after.toList.any fun e => Region.binds .any e && e.on == j) = true ∧ (o.after.toList.any fun e => !Nat.ble (e.on + 1) i) = false

theorem run_load63 {o : Oper} {a : Act} {w : World} {G : Nat} {pg : Int} {d1 d2 : Option Addr} {n1 k1 n2 k2 : Nat} (hp : o.op = .load 63 (.tmp 11)) (h : Tm a 11 = .pointer (some ⟨G, 0, none⟩)) (h0 : w.cell? ⟨G, 0, none⟩ = some (.int .i64 pg)) (h1 : w.cell? ⟨G, 1, none⟩ = some (.slice d1 n1 k1)) (h2 : w.cell? ⟨G, 2, none⟩ = some (.slice d2 n2 k2)) :
    (execOp a.eval o).run Tryd.prog w = .ok (.value (.agg #[.int .i64 pg, .slice d1 n1 k1, .slice d2 n2 k2])) w := by
  have h' := tm_get h
  simp [execOp, hp, h', go_sem, h0, h1, h2]
theorem run_call60 {o : Oper} {a : Act} {w : World} {K : Act → World → Prop} {Q : Exit → Act → World → Prop} {x y z v : Value} (hp : o.op = .call { callee := .value (.func 60), args := #[.tmp 41, .tmp 42, .tmp 47, .tmp 48], argTypes := #[39, 63, 41, 78] }) (h1 : Tm a 41 = x) (h2 : Tm a 42 = y) (h3 : Tm a 47 = z) (h4 : Tm a 48 = v)
    (hc : Calls Tryd.prog 60 #[x, y, z, v] w fun e w' => ∃ u, e = .returned u ∧ K (a.put o.dst u) w') : Oper.wp Tryd.prog o a w K Q := by
  have h1' := tm_get h1; have h2' := tm_get h2; have h3' := tm_get h3; have h4' := tm_get h4
  unfold Oper.wp
  have hr : (execOp a.eval o).run Tryd.prog w = .ok (.enter 60 #[x, y, z, v]) w := by
    simp [execOp, hp, h1', h2', h3', h4', go_sem]
  rw [hr, Oper.upon_enter]
  refine hc.mono ?_
  rintro e w' ⟨u, rfl, hK⟩
  exact hK
theorem run_not {o : Oper} {a : Act} {w : World} {b : Bool} (hp : o.op = .unOp .not 4 (.tmp 49)) (h : Tm a 49 = .bool b) : (execOp a.eval o).run Tryd.prog w = .ok (.value (.bool (!b))) w := by
  have h' := tm_get h
  simp [execOp, hp, h', go_sem]
theorem run_pick {o : Oper} {a : Act} {w : World} {v : Value} (hp : o.op = .pick (.tmp 40) (.tmp 50) (.const (.bool false))) (h : Tm a 40 = .bool true) (h2 : Tm a 50 = v) : (execOp a.eval o).run Tryd.prog w = .ok (.value v) w := by
  have h' := tm_get h; have h2' := tm_get h2
  simp [execOp, hp, h', h2', go_sem]
theorem wpOp_wanted {P : Program} {ops : Array Oper} {Q : Exit → Act → World → Prop} {i : Nat} {o : Oper} {K : Act → World → Prop} {a : Act} {w : World} (ho : ops[i]? = some o) (hw : Region.wanted o (yielded ops a.tmps) = true) (h : Oper.wp P o a w K Q) : wpOp P ops Q i K a w := by
  unfold wpOp
  rw [ho]
  simp only [hw, if_true]
  exact .inl h
theorem wanted_one {ops : Array Oper} {o o1 : Oper} {a : Act} (h1 : ops[1]? = some o1) (hd : o1.dst = some 40) (hT : Tm a 40 = .bool true) (hs : 40 < a.tmps.size) (hg : o.guard = some (1, true)) : Region.wanted o (yielded ops a.tmps) = true := by
  have ht : a.tmps[40]? = some (.bool true) := by
    unfold Tm at hT
    rw [Array.getD_eq_getD_getElem?, Array.getElem?_eq_getElem hs, Option.getD_some] at hT
    rw [Array.getElem?_eq_getElem hs, hT]
  simp [Region.wanted, hg, yielded, h1, hd, ht]

/-- Behind the call: it told b. -/
def OnAfter (a0 : Act) (Post : Bool → World → Prop) (l : Array Bool) (a : Act) (w : World) : Prop :=
  Lst l 10 ∧ a.defers = a0.defers ∧ a.tmps.size = a0.tmps.size ∧ (∀ t, (t < 39 ∨ 51 < t) → Tm a t = Tm a0 t) ∧ l.size = 13 ∧ (∀ j, j ≤ 10 → Lst l j) ∧ Tm a 40 = .bool true ∧
    ∃ b, Tm a 49 = .bool b ∧ Post b w ∧ (Lst l 11 → Tm a 50 = .bool (!b)) ∧ (Lst l 12 → Tm a 51 = .bool (!b))

set_option maxHeartbeats 2000000 in
theorem on_region {ops : Array Oper} {Q : Exit → Act → World → Prop} {id : Nat} {a0 : Act} {w0 : World} (G : Nat) (pg : Int) (d1 d2 : Option Addr) (n1 k1 n2 k2 : Nat) (lv ov yv : Value) (order : List Int) (i : Nat) (Post : Bool → World → Prop)
    (hT : OnText (onSpec w0.heap.size lv (.agg #[.int .i64 pg, .slice d1 n1 k1, .slice d2 n2 k2]) ov yv order i) ops) (hn : ops.size = 13)
    (t0 : Tm a0 0 = lv) (t2 : Tm a0 2 = ov) (t3 : Tm a0 3 = yv) (t9 : Tm a0 9 = .int .i64 (i : Nat)) (t11 : Tm a0 11 = .pointer (some ⟨G, 0, none⟩)) (t12 : Tm a0 12 = .bool true) (hs : a0.tmps.size = 53)
    (c0 : w0.cell? ⟨G, 0, none⟩ = some (.int .i64 pg)) (c1 : w0.cell? ⟨G, 1, none⟩ = some (.slice d1 n1 k1)) (c2 : w0.cell? ⟨G, 2, none⟩ = some (.slice d2 n2 k2)) (hG : G < w0.heap.size)
    (hov : IntsAt w0 ov order) (hol : order.length ≤ 65536)
    (hcall : ∀ W' u, Below w0.heap.size w0 W' → W'.ownsRow w0.heap.size 3 1 u (order.length + 1) (order.map iV ++ [iV (i : Int)]) →
      Calls Tryd.prog 60 #[lv, .agg #[.int .i64 pg, .slice d1 n1 k1, .slice d2 n2 k2], u, yv] W' fun e w'' => ∃ b, e = .returned (.bool b) ∧ Post b w'')
    (hQ : ∀ a w b, a.defers = a0.defers → a.tmps.size = 53 → (∀ t, (t < 39 ∨ 51 < t) → Tm a t = Tm a0 t) → Tm a 51 = .bool (!b) → Post b w → Q .normal a w) :
    (Code.region id ops true).wp Tryd.prog Q a0 w0 := by
  obtain ⟨i0, hi0, hz0, hz1, hz2⟩ := info_parts' lInfo3
  obtain ⟨od, ocap, rfl, ho'⟩ := hov
  have hov : IntsAt w0 (.slice od order.length ocap) order := ⟨_, _, rfl, ho'⟩
  clear ho'
  obtain ⟨nx, enx⟩ : ∃ nx, Value.agg #[.int .i64 pg, .slice d1 n1 k1, .slice d2 n2 k2] = nx := ⟨_, rfl⟩
  have run_l : ∀ {o : Oper} {a : Act} {w : World}, o.op = .load 63 (.tmp 11) → Tm a 11 = .pointer (some ⟨G, 0, none⟩) → w.cell? ⟨G, 0, none⟩ = some (.int .i64 pg) → w.cell? ⟨G, 1, none⟩ = some (.slice d1 n1 k1) → w.cell? ⟨G, 2, none⟩ = some (.slice d2 n2 k2) → (execOp a.eval o).run Tryd.prog w = .ok (.value nx) w := fun h1 h2 h3 h4 h5 => by rw [← enx]; exact run_load63 h1 h2 h3 h4 h5
  rw [enx] at hT hcall
  obtain ⟨o1, ho1⟩ : ∃ o1, ops[1]? = some o1 := ⟨_, Array.getElem?_eq_getElem (by omega)⟩
  have hd1 : o1.dst = some 40 := by
    obtain ⟨d, p, ds, hD, hd, _⟩ := hT 1 o1 ho1
    cases hD; exact hd
  refine wp_region_inv (by kernel_rfl) (fun l a w => (¬ Lst l 10 ∧ RInv (onSpec w0.heap.size lv nx (.slice od order.length ocap) yv order i) a0 w0 l a w) ∨ OnAfter a0 Post l a w) ?_ ?_ ?_
  · refine .inl ⟨lst_none _ _, rfl, rfl, by rw [Array.size_replicate]; exact hn, fun _ _ => rfl, fun i _ _ _ _ hL => absurd hL (lst_none _ i), fun i hL => absurd hL (lst_none _ i), fun i _ _ _ hL => absurd hL (lst_none _ i), w0.drew, (Below.refl _ w0).drew, fun _ => rfl, fun hL => absurd hL (lst_none _ _), fun hL => absurd hL (lst_none _ _), ?_⟩
    refine ⟨fun j d xs hj hl => ?_, fun j k d e xs ys hj hk _ hl _ => ?_⟩
    · rcases hl.1 with hp | hp
      · cases hp
      · exact absurd hp (lst_none _ j)
    · rcases hl.1 with hp | hp
      · cases hp
      · exact absurd hp (lst_none _ j)
  · intro l a w h hr
    have hall : ∀ j, j < 13 → Lst l j := by
      intro j
      have hsz : l.size = 13 := by
        rcases h with ⟨_, h⟩ | h
        · exact h.lsz
        · exact h.2.2.2.2.1
      induction j using Nat.strongRecOn with
      | ind j ih =>
        intro hj
        obtain ⟨o, ho⟩ : ∃ o, ops[j]? = some o := ⟨_, Array.getElem?_eq_getElem (by omega)⟩
        obtain ⟨d, p, ds, _, _, _, _, _, hlt'⟩ := hT j o ho
        have hlt := late_of hlt'
        cases hb : l.getD j true with
        | true =>
          unfold Lst
          simp only [Array.getD_eq_getD_getElem?, Array.getElem?_eq_getElem (show j < l.size by omega), Option.getD_some] at hb ⊢
          exact hb
        | false =>
          have hm : j ∈ Region.ready .any ops l := mem_ready.2 ⟨hb, o, ho, fun e he _ => ih e.on (hlt e he) (by have := hlt e he; omega)⟩
          rw [hr] at hm; cases hm
    rcases h with ⟨h, _⟩ | ⟨_, h1, h2, h3, _, _, _, b, _, h4, _, h5⟩
    · exact absurd (hall 10 (by decide)) h
    · exact hQ a w b h1 (h2.trans hs) h3 (h5 (hall 12 (by decide))) h4
  intro l a w k o hh ho hun hall
  obtain ⟨d, p, ds, hD, hd, hp, hg, hdeps', _⟩ := hT k o ho
  have hdeps := deps_of hdeps'
  have hpre : ∀ j ∈ ds, Lst l j := fun j hj => by
    obtain ⟨e, he, hb, rfl⟩ := hdeps j hj
    exact hall e he hb
  have hk : k < 13 := by have := (Array.getElem?_eq_some_iff.1 ho).1; omega
  rcases hh with ⟨hn10, h⟩ | ⟨h10, h1, h2, h3, hls, hle, h40, b, h49, hpost, h50, h51⟩
  rotate_left
  · have hk10 : ¬ k ≤ 10 := fun hle' => lst_not hun (hle k hle')
    rcases (show k = 11 ∨ k = 12 by omega) with rfl | rfl
    · cases hD
      refine wpOp_wanted ho (wanted_one ho1 hd1 h40 (by omega) hg) (op_of hd (run_not hp h49) ?_)
      have hsz : 50 < a.tmps.size := by omega
      refine .inr ⟨(lst_set hun).2 (.inl h10), h1, by simpa [Act.put] using h2, fun t ht => ?_, by simpa using hls, fun j hj => (lst_set hun).2 (.inl (hle j hj)), ?_, b, ?_, hpost, fun _ => ?_, fun hh => ?_⟩
      · rw [tm_put hsz, if_neg (by omega)]; exact h3 t ht
      · rw [tm_put hsz, if_neg (by decide)]; exact h40
      · rw [tm_put hsz, if_neg (by decide)]; exact h49
      · rw [tm_put hsz, if_pos rfl]
      · rw [lst_set hun] at hh
        rw [tm_put hsz, if_neg (by decide)]
        exact h51 (hh.resolve_right (by decide))
    · cases hD
      have q50 := h50 (hpre 11 (by simp))
      refine wpOp_plain ho hg (op_of hd (run_pick hp h40 q50) ?_)
      have hsz : 51 < a.tmps.size := by omega
      refine .inr ⟨(lst_set hun).2 (.inl h10), h1, by simpa [Act.put] using h2, fun t ht => ?_, by simpa using hls, fun j hj => (lst_set hun).2 (.inl (hle j hj)), ?_, b, ?_, hpost, fun _ => ?_, fun _ => ?_⟩
      · rw [tm_put hsz, if_neg (by omega)]; exact h3 t ht
      · rw [tm_put hsz, if_neg (by decide)]; exact h40
      · rw [tm_put hsz, if_neg (by decide)]; exact h49
      · rw [tm_put hsz, if_neg (by decide)]; exact q50
      · rw [tm_put hsz, if_pos rfl]
  have hk11 : k ≤ 10 := by
    rcases (show k ≤ 10 ∨ k = 11 ∨ k = 12 by omega) with h' | rfl | rfl
    · exact h'
    · cases hD; exact absurd (hpre 10 (by simp)) hn10
    · cases hD; exact absurd (h.clo 11 _ _ _ rfl (hpre 11 (by simp)) 10 (by simp)) hn10
  refine wpOp_wanted ho ?_ ?_
  · rcases (show k < 2 ∨ 2 ≤ k by omega) with h2 | h2
    · rw [if_neg (by omega)] at hg
      simp [Region.wanted, hg]
    · rw [if_pos (by omega)] at hg
      have q1 : Lst l 1 := by
        rcases (show k = 2 ∨ k = 3 ∨ k = 4 ∨ k = 5 ∨ k = 6 ∨ k = 7 ∨ k = 8 ∨ k = 9 ∨ k = 10 by omega) with rfl | rfl | rfl | rfl | rfl | rfl | rfl | rfl | rfl
        all_goals (cases hD; exact hpre 1 (by simp))
      exact wanted_one ho1 hd1 (h.tri 1 40 _ rfl q1) (by rw [h.size]; omega) hg
  clear hall hdeps hdeps' ho hT hQ hn hg ho1 hd1
  rcases (show k = 0 ∨ k = 1 ∨ k = 2 ∨ k = 3 ∨ k = 4 ∨ k = 5 ∨ k = 6 ∨ k = 7 ∨ k = 8 ∨ k = 9 ∨ k = 10 by omega) with rfl | rfl | rfl | rfl | rfl | rfl | rfl | rfl | rfl | rfl | rfl
  · cases hD
    refine op_of hd (run_move hp ((h.out 12 (.inl (nlt rfl))).trans t12)) (.inl ⟨(fun hh => by rw [lst_set hun] at hh; exact hh.elim hn10 (by decide)), h.plain hun rfl hpre rfl ⟨nle rfl, nle rfl⟩ (by omega) (fun k c' hk => by simp only [onSpec] at hk; split at hk <;> first | rfl | (cases hk; done)) rfl (fun j d xs hj => by simp only [onSpec, onRows] at hj ⊢; split at hj <;> first | (cases hj; done) | decide) (fun j xs hj => by simp only [onSpec, onRows] at hj; split at hj <;> (cases hj; done)) (nne rfl) (nne rfl) (nne rfl) (nne rfl)⟩)
  · cases hD
    refine op_of hd (run_move hp (h.tri 0 39 _ rfl (hpre 0 (by simp)))) (.inl ⟨(fun hh => by rw [lst_set hun] at hh; exact hh.elim hn10 (by decide)), h.plain hun rfl hpre rfl ⟨nle rfl, nle rfl⟩ (by omega) (fun k c' hk => by simp only [onSpec] at hk; split at hk <;> first | rfl | (cases hk; done)) rfl (fun j d xs hj => by simp only [onSpec, onRows] at hj ⊢; split at hj <;> first | (cases hj; done) | decide) (fun j xs hj => by simp only [onSpec, onRows] at hj; split at hj <;> (cases hj; done)) (nne rfl) (nne rfl) (nne rfl) (nne rfl)⟩)
  · cases hD
    refine op_of hd (run_move hp ((h.out 0 (.inl (nlt rfl))).trans t0)) (.inl ⟨(fun hh => by rw [lst_set hun] at hh; exact hh.elim hn10 (by decide)), h.plain hun rfl hpre rfl ⟨nle rfl, nle rfl⟩ (by omega) (fun k c' hk => by simp only [onSpec] at hk; split at hk <;> first | rfl | (cases hk; done)) rfl (fun j d xs hj => by simp only [onSpec, onRows] at hj ⊢; split at hj <;> first | (cases hj; done) | decide) (fun j xs hj => by simp only [onSpec, onRows] at hj; split at hj <;> (cases hj; done)) (nne rfl) (nne rfl) (nne rfl) (nne rfl)⟩)
  · cases hD
    obtain ⟨hw, hrows⟩ := h.world (fun hh => h.dom 99 hh rfl)
    refine op_of hd (run_l hp ((h.out 11 (.inl (nlt rfl))).trans t11) ((hw.cell (p := ⟨G, 0, none⟩) hG).trans c0) ((hw.cell (p := ⟨G, 1, none⟩) hG).trans c1) ((hw.cell (p := ⟨G, 2, none⟩) hG).trans c2)) (.inl ⟨(fun hh => by rw [lst_set hun] at hh; exact hh.elim hn10 (by decide)), h.plain hun rfl hpre rfl ⟨nle rfl, nle rfl⟩ (by omega) (fun k c' hk => by simp only [onSpec] at hk; split at hk <;> first | rfl | (cases hk; done)) rfl (fun j d xs hj => by simp only [onSpec, onRows] at hj ⊢; split at hj <;> first | (cases hj; done) | decide) (fun j xs hj => by simp only [onSpec, onRows] at hj; split at hj <;> (cases hj; done)) (nne rfl) (nne rfl) (nne rfl) (nne rfl)⟩)
  · cases hD
    refine op_of hd (run_move hp ((h.out 2 (.inl (nlt rfl))).trans t2)) (.inl ⟨(fun hh => by rw [lst_set hun] at hh; exact hh.elim hn10 (by decide)), h.plain hun rfl hpre rfl ⟨nle rfl, nle rfl⟩ (by omega) (fun k c' hk => by simp only [onSpec] at hk; split at hk <;> first | rfl | (cases hk; done)) rfl (fun j d xs hj => by simp only [onSpec, onRows] at hj ⊢; split at hj <;> first | (cases hj; done) | decide) (fun j xs hj => by simp only [onSpec, onRows] at hj; split at hj <;> (cases hj; done)) (nne rfl) (nne rfl) (nne rfl) (nne rfl)⟩)
  · cases hD
    obtain ⟨hw, hrows⟩ := h.world (fun hh => h.dom 99 hh rfl)
    refine run_call71 hp (h.tri 4 43 _ rfl (hpre 4 (by simp))) ((clone_any order (by omega) _ w (hov.kept (CellsKept.of hw))).mono ?_)
    rintro e w' ⟨⟨u, rfl, ho⟩, hb⟩
    refine ⟨u, rfl, ?_⟩
    rw [hd]
    refine .inl ⟨(fun hh => by rw [lst_set hun] at hh; exact hh.elim hn10 (by decide)), h.make hun rfl hpre (fun hh => h.dom 99 hh rfl) (fun hh => h.dom 98 hh rfl) ⟨nle rfl, nle rfl⟩ (by omega) (fun k c' hk => by simp only [onSpec] at hk; split at hk <;> (cases hk; done)) rfl rfl (fun j hj => by cases hj) (fun hh => lst_not hun (h.clo 8 _ _ _ rfl hh 5 (by simp))) (nne rfl) (nne rfl) (nne rfl) (hw.trans (hb.mono hw.size)) ?_ (fun g hg _ => hb.block g hg) (fun g hg => .inl (own_lt ho hg).2)⟩
    rw [List.length_map]
    exact own_weaken ho hw.size
  · cases hD
    refine op_of hd (run_move hp ((h.out 9 (.inl (nlt rfl))).trans t9)) (.inl ⟨(fun hh => by rw [lst_set hun] at hh; exact hh.elim hn10 (by decide)), h.plain hun rfl hpre rfl ⟨nle rfl, nle rfl⟩ (by omega) (fun k c' hk => by simp only [onSpec] at hk; split at hk <;> first | rfl | (cases hk; done)) rfl (fun j d xs hj => by simp only [onSpec, onRows] at hj ⊢; split at hj <;> first | (cases hj; done) | decide) (fun j xs hj => by simp only [onSpec, onRows] at hj; split at hj <;> (cases hj; done)) (nne rfl) (nne rfl) (nne rfl) (nne rfl)⟩)
  · cases hD
    obtain ⟨hw, hrows⟩ := h.world (fun hh => h.dom 99 hh rfl)
    refine op_ofW hd (run_lit hp (h.tri 6 45 _ rfl (hpre 6 (by simp)))) ?_
    refine .inl ⟨(fun hh => by rw [lst_set hun] at hh; exact hh.elim hn10 (by decide)), h.make hun rfl hpre (fun hh => h.dom 99 hh rfl) (fun hh => h.dom 98 hh rfl) ⟨nle rfl, nle rfl⟩ (by omega) (fun k c' hk => by simp only [onSpec] at hk; split at hk <;> (cases hk; done)) rfl rfl (fun j hj => by cases hj) (fun hh => lst_not hun (h.clo 8 _ _ _ rfl hh 7 (by simp))) (nne rfl) (nne rfl) (nne rfl) (new_below2 hw _) ?_ (fun g hg _ => Below.heap_alloc w _ g hg) (fun g hg => .inl (by cases hg; exact Nat.le_refl _))⟩
    exact World.ownsRow_lit w #[_] 1 hw.size (by decide) (by simp)
  · cases hD
    obtain ⟨hw, hrows⟩ := h.world (fun hh => h.dom 99 hh rfl)
    have la : (onSpec w0.heap.size lv nx (.slice od order.length ocap) yv order i).R.live l 5 := ⟨.inr (hpre 5 (by simp)), lst_not hun⟩
    have lb : (onSpec w0.heap.size lv nx (.slice od order.length ocap) yv order i).R.live l 7 := ⟨.inr (hpre 7 (by simp)), lst_not hun⟩
    have oa := hrows.own 5 _ _ rfl la
    have ob := hrows.own 7 _ _ rfl lb
    obtain ⟨gb, cb, eb, hbl⟩ := own_one ob
    refine wp_append_lies w (.tmp 44) (.tmp 46) 41 hp w0.heap.size 3 i0 (.int .i64 0) 1 8 Tryd.underlying41 hi0 hz0 hz1 hz2 rfl (by decide) _ _ _ rfl oa _ 1 cb [iV (i : Int)] eb rfl hbl (by simp [Value.oneCell', iV]) (by omega) (by unfold maxLen; simp; omega) (by simp; omega) hw.size _ rfl ?_
    intro g cap w' hown hgrow hat hlt
    rw [hd]
    refine .inl ⟨(fun hh => by rw [lst_set hun] at hh; exact hh.elim hn10 (by decide)), h.make hun rfl hpre (fun hh => h.dom 99 hh rfl) (fun hh => h.dom 98 hh rfl) ⟨nle rfl, nle rfl⟩ (by omega) (fun k c' hk => by simp only [onSpec] at hk; split at hk <;> (cases hk; done)) rfl rfl (fun j hj => by cases hj) (fun hh => h.dom 13 hh rfl) (nne rfl) (nne rfl) (nne rfl) (hw.grown hgrow hw.size (own_later oa)) (by rw [List.length_append]; exact hown) (fun g' hg' hno => hgrow.block g' hg' (hno 5 _ _ rfl rfl la).symm) (fun g' hg' => ?_)⟩
    cases hg'
    rcases hat with hat | hat
    · exact .inr ⟨5, _, _, rfl, rfl, la, hat⟩
    · exact .inl (Nat.le_of_eq hat.symm)
  · cases hD
    refine op_of hd (run_move hp ((h.out 3 (.inl (nlt rfl))).trans t3)) (.inl ⟨(fun hh => by rw [lst_set hun] at hh; exact hh.elim hn10 (by decide)), h.plain hun rfl hpre rfl ⟨nle rfl, nle rfl⟩ (by omega) (fun k c' hk => by simp only [onSpec] at hk; split at hk <;> first | rfl | (cases hk; done)) rfl (fun j d xs hj => by simp only [onSpec, onRows] at hj ⊢; split at hj <;> first | (cases hj; done) | decide) (fun j xs hj => by simp only [onSpec, onRows] at hj; split at hj <;> (cases hj; done)) (nne rfl) (nne rfl) (nne rfl) (nne rfl)⟩)
  · cases hD
    obtain ⟨hw, hrows⟩ := h.world (fun hh => h.dom 99 hh rfl)
    have ov := hrows.own 8 _ _ rfl ⟨.inr (hpre 8 (by simp)), fun hh => h.dom 13 hh rfl⟩
    have ov' : w.ownsRow w0.heap.size 3 1 (Tm a 47) (order.length + 1) (order.map iV ++ [iV (i : Int)]) := by
      rw [show (order.map iV ++ [iV (i : Int)]).length = order.length + 1 by simp] at ov
      exact ov
    refine run_call60 hp (h.tri 2 41 _ rfl (hpre 2 (by simp))) (h.tri 3 42 _ rfl (hpre 3 (by simp))) rfl (h.tri 9 48 _ rfl (hpre 9 (by simp))) ((hcall w _ hw ov').mono ?_)
    rintro e w' ⟨b, rfl, hpost⟩
    refine ⟨_, rfl, ?_⟩
    rw [hd]
    have hsz : 49 < a.tmps.size := by rw [h.size]; omega
    refine .inr ⟨(lst_set hun).2 (.inr rfl), h.defers, by simpa [Act.put] using h.size, fun t ht => ?_, by rw [Array.size_setIfInBounds]; exact h.lsz, fun j hj => (lst_set hun).2 ?_, ?_, b, ?_, hpost, fun hh => ?_, fun hh => ?_⟩
    · rw [tm_put hsz, if_neg (by omega)]; exact h.out t ht
    · have q8 := hpre 8 (by simp); have q2 := hpre 2 (by simp); have q3 := hpre 3 (by simp); have q9 := hpre 9 (by simp)
      have q5 := h.clo 8 _ _ _ rfl q8 5 (by simp); have q7 := h.clo 8 _ _ _ rfl q8 7 (by simp)
      have q4 := h.clo 5 _ _ _ rfl q5 4 (by simp); have q6 := h.clo 7 _ _ _ rfl q7 6 (by simp)
      have q1 := h.clo 2 _ _ _ rfl q2 1 (by simp); have q0 := h.clo 1 _ _ _ rfl q1 0 (by simp)
      rcases (show j = 0 ∨ j = 1 ∨ j = 2 ∨ j = 3 ∨ j = 4 ∨ j = 5 ∨ j = 6 ∨ j = 7 ∨ j = 8 ∨ j = 9 ∨ j = 10 by omega) with rfl | rfl | rfl | rfl | rfl | rfl | rfl | rfl | rfl | rfl | rfl
      all_goals first | (left; assumption) | (right; rfl)
    · rw [tm_put hsz, if_neg (by decide)]
      exact h.tri 1 40 _ rfl (h.clo 2 _ _ _ rfl (hpre 2 (by simp)) 1 (by simp))
    · rw [tm_put hsz, if_pos rfl]
    · rw [lst_set hun] at hh
      rcases hh with hh | hh
      · exact absurd (h.clo 11 _ _ _ rfl hh 10 (by simp)) (lst_not hun)
      · exact absurd hh (by decide)
    · rw [lst_set hun] at hh
      rcases hh with hh | hh
      · exact absurd (h.clo 11 _ _ _ rfl (h.clo 12 _ _ _ rfl hh 11 (by simp)) 10 (by simp)) (lst_not hun)
      · exact absurd hh (by decide)
end Go.Proofs.YtomheapokfphiaaDoor
