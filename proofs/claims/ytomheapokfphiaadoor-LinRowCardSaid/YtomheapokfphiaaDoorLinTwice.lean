/-
  The statement of LinRow that makes a history with one call twice: it draws its order.
-/
import Derived.Test.YtomheapokfphiaaDoorLinRows7
import Derived.Test.YtomheapokfphiaaDoorLinRowWalk
import Derived.Test.YtomheapokfphiaaDoorLinAppendAt
namespace Go.Proofs.YtomheapokfphiaaDoor
open Go Go.RowKit Go.Shelf

def twRows (X1 Xk X2 : List Value) : Rows7 where
  row := fun
    | 0 => some (.tmp 83, [])
    | 5 => some (.tmp 88, X1)
    | 10 => some (.tmp 93, Xk)
    | 11 => some (.tmp 94, X1 ++ Xk)
    | 16 => some (.tmp 99, X1 ++ Xk ++ X2)
    | _ => none
  con := fun
    | 0 => 5
    | 5 => 11
    | 10 => 11
    | 11 => 16
    | _ => 18
  inj := fun j k d xs ys hj hk => by
    split at hj <;> split at hk <;> first | rfl | (cases hj; done) | (cases hk; done) | (cases hj; cases hk; done)
  pre := fun _ => false

def twSpec (bs gl n lcap k : Nat) (A2 : Addr) (X1 Xk X2 : List Value) : RSpec7 where
  D := fun
    | 0 => some (some 83, .buildSlice 39 0 #[], [])
    | 1 => some (some 84, .move (.tmp 5), [])
    | 2 => some (some 85, .move (.tmp 9), [])
    | 3 => some (some 86, .binOp .add 3 (.tmp 85) (.const (.int .i64 1)) 3, [2])
    | 4 => some (some 87, .slice 39 (.tmp 84) none (some (.tmp 86)) none, [1, 3])
    | 5 => some (some 88, .call { callee := .builtin .append, args := #[.tmp 83, .tmp 87], argTypes := #[39, 39] }, [0, 4])
    | 6 => some (some 89, .move (.tmp 5), [])
    | 7 => some (some 90, .move (.tmp 9), [])
    | 8 => some (some 91, .indexAddr 39 (.tmp 89) (.tmp 90), [6, 7])
    | 9 => some (some 92, .load 50 (.tmp 91), [8])
    | 10 => some (some 93, .buildSlice 39 1 #[(0, .tmp 92)], [9])
    | 11 => some (some 94, .call { callee := .builtin .append, args := #[.tmp 88, .tmp 93], argTypes := #[39, 39] }, [5, 10])
    | 12 => some (some 95, .move (.tmp 5), [])
    | 13 => some (some 96, .move (.tmp 9), [])
    | 14 => some (some 97, .binOp .add 3 (.tmp 96) (.const (.int .i64 1)) 3, [13])
    | 15 => some (some 98, .slice 39 (.tmp 95) (some (.tmp 97)) none none, [12, 14])
    | 16 => some (some 99, .call { callee := .builtin .append, args := #[.tmp 94, .tmp 98], argTypes := #[39, 39] }, [11, 15])
    | 17 => some (some 11, .assign (.tmp 99), [16])
    | _ => none
  triv := fun
    | 1 => some (84, .slice (some ⟨gl, 0, none⟩) n lcap)
    | 2 => some (85, .int .i64 (k : Nat))
    | 3 => some (86, .int .i64 ((k + 1 : Nat) : Int))
    | 4 => some (87, .slice (some ⟨gl, 0, none⟩) (k + 1) lcap)
    | 6 => some (89, .slice (some ⟨gl, 0, none⟩) n lcap)
    | 7 => some (90, .int .i64 (k : Nat))
    | 8 => some (91, .pointer (some ⟨gl, k * 7, none⟩))
    | 9 => some (92, .agg Xk.toArray)
    | 12 => some (95, .slice (some ⟨gl, 0, none⟩) n lcap)
    | 13 => some (96, .int .i64 (k : Nat))
    | 14 => some (97, .int .i64 ((k + 1 : Nat) : Int))
    | 15 => some (98, .slice (some A2) (n - (k + 1)) (lcap - (k + 1)))
    | _ => none
  R := twRows X1 Xk X2
  s1 := 18
  s2 := 19
  v1 := 0
  v2 := 0
  A1 := ⟨0, 0, none⟩
  A2 := ⟨0, 0, none⟩
  lo := 11
  hi := 99
  N := 18
  base := bs

theorem run_sliceTo {o : Oper} {a : Act} {w : World} {gl n lcap m : Nat} (hp : o.op = .slice 39 (.tmp 84) none (some (.tmp 86)) none) (h : Tm a 84 = .slice (some ⟨gl, 0, none⟩) n lcap) (h2 : Tm a 86 = .int .i64 (m : Nat)) (hm : m ≤ lcap) : (execOp a.eval o).run Tryd.prog w = .ok (.value (.slice (some ⟨gl, 0, none⟩) m lcap)) w := by
  have h' := tm_get h
  have h2' := tm_get h2
  have hm' : (m : Int) ≤ lcap := by omega
  simp [execOp, hp, h', h2', go_sem, hm']
theorem run_sliceFrom {o : Oper} {a : Act} {w : World} {gl n lcap m : Nat} {A : Addr} (hp : o.op = .slice 39 (.tmp 95) (some (.tmp 97)) none none) (h : Tm a 95 = .slice (some ⟨gl, 0, none⟩) n lcap) (h2 : Tm a 97 = .int .i64 (m : Nat)) (hm : m ≤ n) (hA : (if lcap = m then (⟨gl, 0, none⟩ : Addr) else ⟨gl, m * 7, none⟩) = A) : (execOp a.eval o).run Tryd.prog w = .ok (.value (.slice (some A) (n - m) (lcap - m))) w := by
  have h' := tm_get h
  have h2' := tm_get h2
  have hm' : (m : Int) ≤ n := by omega
  subst hA
  simp [execOp, hp, h', h2', go_sem, hm']
  split <;> rfl
theorem run_index39 {o : Oper} {a : Act} {w : World} {g n c k : Nat} (hp : o.op = .indexAddr 39 (.tmp 89) (.tmp 90)) (h : Tm a 89 = .slice (some ⟨g, 0, none⟩) n c) (h2 : Tm a 90 = .int .i64 (k : Nat)) (hk : k < n) : (execOp a.eval o).run Tryd.prog w = .ok (.value (.pointer (some ⟨g, k * 7, none⟩))) w := by
  have h' := tm_get h
  have h2' := tm_get h2
  have hk' : (k : Int) < n := by omega
  simp [execOp, hp, h', h2', go_sem, hk']
theorem run_loadOp {o : Oper} {a : Act} {w : World} {A : Nat} {g : Nat} {op : OpP} {lv : Value} {ld : Option Addr} {ln lc : Nat} (hlv : lv = .slice ld ln lc) (hp : o.op = .load 50 (.tmp 91)) (h : Tm a 91 = .pointer (some ⟨g, A, none⟩)) (hc : OpCells w g A op lv) : (execOp a.eval o).run Tryd.prog w = .ok (.value (.agg (opRow op lv).toArray)) w := by
  have h' := tm_get h
  obtain ⟨c0, c1, c2, c3, c4, c5, c6⟩ := hc
  subst hlv
  simp [execOp, hp, h', go_sem, c0, c1, c2, c3, c4, c5, c6, opRow]
theorem run_litNone {o : Oper} {a : Act} {w : World} (hp : o.op = .buildSlice 39 0 #[]) : (execOp a.eval o).run Tryd.prog w = .ok (.value (.slice (some ⟨w.heap.size, 0, none⟩) 0 0)) (w.alloc (.cells #[] 50)) := by
  simp [execOp, hp, go_sem]
theorem run_litOp {o : Oper} {a : Act} {w : World} {op : OpP} {lv : Value} {ld : Option Addr} {ln lc : Nat} (hlv : lv = .slice ld ln lc) (hp : o.op = .buildSlice 39 1 #[(0, .tmp 92)]) (h : Tm a 92 = .agg (opRow op lv).toArray) : (execOp a.eval o).run Tryd.prog w = .ok (.value (.slice (some ⟨w.heap.size, 0, none⟩) 1 1)) (w.alloc (.cells (opRow op lv).toArray 50)) := by
  have h' := tm_get h
  subst hlv
  unfold opRow at h' ⊢
  simp [execOp, hp, h', go_sem]
theorem keep17 {l : Array Bool} {a : Act} {i t : Nat} {v : Value} (h : Lst l 17 → Tm a 11 = Tm a 99) (hun : l.getD i true = false) (hi : 17 ≠ i) (ht : 11 ≠ t) (h99 : 99 ≠ t ∨ ¬ Lst l 17) (hsz : t < a.tmps.size) : Lst (l.setIfInBounds i true) 17 → Tm (a.put (some t) v) 11 = Tm (a.put (some t) v) 99 := fun hL => by
  rw [lst_set hun] at hL
  have hL := hL.resolve_right hi
  rw [tm_put hsz, tm_put hsz, if_neg ht, if_neg (h99.resolve_right (fun hn => hn hL))]
  exact h hL
theorem row_oneCell (op : OpP) (ld : Option Addr) (ln lc : Nat) : ∀ u ∈ opRow op (.slice ld ln lc), u.oneCell' = true := by
  unfold opRow
  simp [Value.oneCell']


set_option maxHeartbeats 4000000 in
theorem tw_region {ops : Array Oper} {Q : Exit → Act → World → Prop} {id : Nat} {a0 : Act} {w0 : World} (base gl n lcap k : Nat) (F : List Value) (A2 : Addr) (op : OpP) (ld : Option Addr) (ln lc : Nat)
    (hT : (twSpec w0.heap.size gl n lcap k A2 (F.take ((k + 1) * 7)) (opRow op (.slice ld ln lc)) (F.drop ((k + 1) * 7))).Text ops) (hn : ops.size = 18)
    (t5 : Tm a0 5 = .slice (some ⟨gl, 0, none⟩) n lcap) (t9 : Tm a0 9 = .int .i64 (k : Nat)) (hs : a0.tmps.size = 111) (hk : k < n) (hn40 : n ≤ 40) (hA2 : (if lcap = k + 1 then (⟨gl, 0, none⟩ : Addr) else ⟨gl, (k + 1) * 7, none⟩) = A2)
    (hrow : w0.ownsRow base 50 7 (.slice (some ⟨gl, 0, none⟩) n lcap) n F) (hone : ∀ u ∈ F, u.oneCell' = true) (hc : OpCells w0 gl (k * 7) op (.slice ld ln lc))
    (hQ : ∀ a w, a.defers = a0.defers → a.tmps.size = 111 → (∀ t, (t < 11 ∨ 99 < t) → Tm a t = Tm a0 t) → Below w0.heap.size w0 w →
      w.ownsRow w0.heap.size 50 7 (Tm a 11) (n + 1) (F.take ((k + 1) * 7) ++ opRow op (.slice ld ln lc) ++ F.drop ((k + 1) * 7)) → Q .normal a w) :
    (Code.region id ops true).wp Tryd.prog Q a0 w0 := by
  obtain ⟨i0, hi0, hz0, hz1, hz2⟩ := info_parts' lInfo50
  have hgl : gl < w0.heap.size := (own_lt hrow rfl).1
  have hF : F.length = n * 7 := hrow.1
  have hcap : n ≤ lcap := by
    rcases hrow.2 with ⟨e, _⟩ | ⟨g', cap', cur, e, _, _, h4, _⟩
    · cases e
    · injection e with h1 h2 h3
      omega
  have hX1 : (F.take ((k + 1) * 7)).length = (k + 1) * 7 := by rw [List.length_take]; omega
  have hX2 : (F.drop ((k + 1) * 7)).length = (n - (k + 1)) * 7 := by rw [List.length_drop]; omega
  have hXk : (opRow op (.slice ld ln lc)).length = 7 := rfl
  have cellsTo : ∀ {w : World}, Below w0.heap.size w0 w → ∀ j u, (F.take ((k + 1) * 7))[j]? = some u → w.cell? ((⟨gl, 0, none⟩ : Addr).add j) = some u := fun {w} hw j u hu => by
    have hj := (List.getElem?_eq_some_iff.1 hu).1
    rw [hX1] at hj
    rw [List.getElem?_take_of_lt hj] at hu
    rw [add0, hw.cell (p := ⟨gl, j, none⟩) hgl, World.ownsRow.cellAt hrow j (by omega)]
    exact hu
  have cellsFrom : ∀ {w : World}, Below w0.heap.size w0 w → ∀ j u, (F.drop ((k + 1) * 7))[j]? = some u → w.cell? (A2.add j) = some u := fun {w} hw j u hu => by
    have hj := (List.getElem?_eq_some_iff.1 hu).1
    rw [hX2] at hj
    rw [List.getElem?_drop] at hu
    have hne : lcap ≠ k + 1 := by omega
    rw [if_neg hne] at hA2
    subst hA2
    have e : (⟨gl, (k + 1) * 7, none⟩ : Addr).add j = ⟨gl, (k + 1) * 7 + j, none⟩ := by
      unfold Addr.add
      split
      · simp [*]
      · rfl
    rw [e, hw.cell (p := ⟨gl, (k + 1) * 7 + j, none⟩) hgl, World.ownsRow.cellAt hrow _ (by omega)]
    exact hu
  have hone1 : ∀ u ∈ F.take ((k + 1) * 7), u.oneCell' = true := fun u hu => hone u (List.mem_of_mem_take hu)
  have hone2 : ∀ u ∈ F.drop ((k + 1) * 7), u.oneCell' = true := fun u hu => hone u (List.mem_of_mem_drop hu)
  generalize F.take ((k + 1) * 7) = X1 at *
  generalize F.drop ((k + 1) * 7) = X2 at *
  clear hone hrow hF
  refine wp_region_inv (by kernel_rfl) (fun l a w => RInv7 (twSpec w0.heap.size gl n lcap k A2 X1 (opRow op (.slice ld ln lc)) X2) a0 w0 l a w ∧ (Lst l 17 → Tm a 11 = Tm a 99)) ?_ ?_ ?_
  · refine ⟨⟨rfl, rfl, by rw [Array.size_replicate]; exact hn, fun _ _ => rfl, fun i _ _ _ _ hL => absurd hL (lst_none _ i), fun i hL => absurd hL (lst_none _ i), fun i _ _ _ hL => absurd hL (lst_none _ i), w0.drew, (Below.refl _ w0).drew, fun _ => rfl, fun hL => absurd hL (lst_none _ _), fun hL => absurd hL (lst_none _ _), ?_⟩, fun hL => absurd hL (lst_none _ _)⟩
    have hpre : ∀ j, ¬ (twSpec w0.heap.size gl n lcap k A2 X1 (opRow op (.slice ld ln lc)) X2).R.live (Array.replicate ops.size false) j := fun j hl => by
      rcases hl.1 with hp | hp
      · cases hp
      · exact lst_none _ j hp
    exact ⟨fun j d xs hj hl => absurd hl (hpre j), fun j k' d e xs ys hj hk' hne hl hl' => absurd hl (hpre j)⟩
  · intro l a w ⟨h, h17⟩ hr
    have hall := h.all hn hT hr
    obtain ⟨m1, m5⟩ := h.world (fun hh => h.dom 18 hh rfl)
    have v16 : (twSpec w0.heap.size gl n lcap k A2 X1 (opRow op (.slice ld ln lc)) X2).R.live l 16 := ⟨.inr (hall 16 (by show 16 < 18; decide)), fun hh => h.dom 18 hh rfl⟩
    refine hQ a w h.defers (h.size.trans hs) h.out m1 ?_
    rw [h17 (hall 17 (by show 17 < 18; decide))]
    have := m5.own 16 _ _ rfl v16
    rw [show (X1 ++ opRow op (.slice ld ln lc) ++ X2).length / 7 = n + 1 by rw [List.length_append, List.length_append, hX1, hX2, hXk]; omega] at this
    exact this
  intro l a w i o ⟨h, h17⟩ ho hun hall
  obtain ⟨d, p, ds, hD, hd, hp, hg', hdeps', _⟩ := hT i o ho
  have hdeps := deps_of hdeps'
  have hpre : ∀ j ∈ ds, Lst l j := fun j hj => by
    obtain ⟨e, he, hb, rfl⟩ := hdeps j hj
    exact hall e he hb
  refine wpOp_plain ho hg' ?_
  have hi : i < 18 := by have := (Array.getElem?_eq_some_iff.1 ho).1; omega
  have hns1 : ¬ Lst l 18 := fun hh => h.dom 18 hh rfl
  have hns2 : ¬ Lst l 19 := fun hh => h.dom 19 hh rfl
  obtain ⟨hw, hrows⟩ := h.world hns1
  have hbw := hw.size
  have has : a.tmps.size = 111 := h.size.trans hs
  clear hall hdeps hdeps' ho hT hQ hn
  rcases (show i = 0 ∨ i = 1 ∨ i = 2 ∨ i = 3 ∨ i = 4 ∨ i = 5 ∨ i = 6 ∨ i = 7 ∨ i = 8 ∨ i = 9 ∨ i = 10 ∨ i = 11 ∨ i = 12 ∨ i = 13 ∨ i = 14 ∨ i = 15 ∨ i = 16 ∨ i = 17 by omega) with rfl | rfl | rfl | rfl | rfl | rfl | rfl | rfl | rfl | rfl | rfl | rfl | rfl | rfl | rfl | rfl | rfl | rfl
  · cases hD
    refine op_ofW hd (run_litNone hp) ⟨?_, keep17 h17 hun (nne rfl) (nne rfl) (.inl (nne rfl)) (by omega)⟩
    refine h.make hun rfl hpre hns1 hns2 ⟨nle rfl, nle rfl⟩ (by omega) (fun k c' hk => by simp only [twSpec] at hk; split at hk <;> (cases hk; done)) rfl rfl (fun j hj => by cases hj) (fun hh => lst_not hun (h.clo 5 _ _ _ rfl hh 0 (by simp))) (nne rfl) (nne rfl) (nne rfl) (hw.alloc hbw _) ?_ (fun g hg _ => Below.heap_alloc w _ g hg) (fun g hg => .inl (by cases hg; exact Nat.le_refl _))
    exact World.ownsRow_lit w #[] 0 hbw (by decide) (show (#[] : Array Value).size = 0 * 7 from rfl)
  · cases hD
    exact op_of hd (run_move hp ((h.out 5 (.inl (nlt rfl))).trans t5)) ⟨h.plain hun rfl hpre rfl ⟨nle rfl, nle rfl⟩ (by omega) (fun k c' hk => by simp only [twSpec] at hk; split at hk <;> first | rfl | (cases hk; done)) rfl (fun j d xs hj => by simp only [twSpec, twRows] at hj ⊢; split at hj <;> first | (cases hj; done) | decide) (fun j xs hj => by simp only [twSpec, twRows] at hj; split at hj <;> (cases hj; done)) (nne rfl) (nne rfl) (nne rfl) (nne rfl), keep17 h17 hun (nne rfl) (nne rfl) (.inl (nne rfl)) (by omega)⟩
  · cases hD
    exact op_of hd (run_move hp ((h.out 9 (.inl (nlt rfl))).trans t9)) ⟨h.plain hun rfl hpre rfl ⟨nle rfl, nle rfl⟩ (by omega) (fun k c' hk => by simp only [twSpec] at hk; split at hk <;> first | rfl | (cases hk; done)) rfl (fun j d xs hj => by simp only [twSpec, twRows] at hj ⊢; split at hj <;> first | (cases hj; done) | decide) (fun j xs hj => by simp only [twSpec, twRows] at hj; split at hj <;> (cases hj; done)) (nne rfl) (nne rfl) (nne rfl) (nne rfl), keep17 h17 hun (nne rfl) (nne rfl) (.inl (nne rfl)) (by omega)⟩
  · cases hD
    exact op_of hd (run_addc hp (h.tri 2 85 _ rfl (hpre 2 (by simp))) (by rw [IntKind.wrap_i64]; omega)) ⟨h.plain hun rfl hpre rfl ⟨nle rfl, nle rfl⟩ (by omega) (fun k c' hk => by simp only [twSpec] at hk; split at hk <;> first | rfl | (cases hk; done)) rfl (fun j d xs hj => by simp only [twSpec, twRows] at hj ⊢; split at hj <;> first | (cases hj; done) | decide) (fun j xs hj => by simp only [twSpec, twRows] at hj; split at hj <;> (cases hj; done)) (nne rfl) (nne rfl) (nne rfl) (nne rfl), keep17 h17 hun (nne rfl) (nne rfl) (.inl (nne rfl)) (by omega)⟩
  · cases hD
    exact op_of hd (run_sliceTo hp (h.tri 1 84 _ rfl (hpre 1 (by simp))) (h.tri 3 86 _ rfl (hpre 3 (by simp))) (by omega)) ⟨h.plain hun rfl hpre rfl ⟨nle rfl, nle rfl⟩ (by omega) (fun k c' hk => by simp only [twSpec] at hk; split at hk <;> first | rfl | (cases hk; done)) rfl (fun j d xs hj => by simp only [twSpec, twRows] at hj ⊢; split at hj <;> first | (cases hj; done) | decide) (fun j xs hj => by simp only [twSpec, twRows] at hj; split at hj <;> (cases hj; done)) (nne rfl) (nne rfl) (nne rfl) (nne rfl), keep17 h17 hun (nne rfl) (nne rfl) (.inl (nne rfl)) (by omega)⟩
  · cases hD
    have la : (twSpec w0.heap.size gl n lcap k A2 X1 (opRow op (.slice ld ln lc)) X2).R.live l 0 := ⟨.inr (hpre 0 (by simp)), lst_not hun⟩
    have oa := hrows.own 0 _ _ rfl la
    rw [show ([] : List Value).length / 7 = 0 from rfl] at oa
    refine wp_append_at (.tmp 83) (.tmp 87) 39 hp w0.heap.size 50 i0 (.agg #[.int .i64 0, .int .i64 0, .int .i64 0, .int .i64 0, .slice none 0 0, .int .i64 0, .int .i64 0]) 7 72 Tryd.underlying39 hi0 hz0 hz1 hz2 rfl (by decide) _ _ _ rfl oa ⟨gl, 0, none⟩ (k + 1) (lcap) X1 (h.tri 4 87 _ rfl (hpre 4 (by simp))) (by first | exact hX1 | exact hX2) (cellsTo hw) hone1 (by unfold maxLen; omega) (by omega) hbw ?_
    intro v' w' hown hgrow hat
    rw [hd]
    refine ⟨?_, keep17 h17 hun (nne rfl) (nne rfl) (.inl (nne rfl)) (by omega)⟩
    refine h.make hun rfl hpre hns1 hns2 ⟨nle rfl, nle rfl⟩ (by omega) (fun k c' hk => by simp only [twSpec] at hk; split at hk <;> (cases hk; done)) rfl rfl (fun j hj => by cases hj) (fun hh => lst_not hun (h.clo 11 _ _ _ rfl hh 5 (by simp))) (nne rfl) (nne rfl) (nne rfl) (hw.grown hgrow hbw (own_later oa)) ?_ (fun g'' hg'' hno => hgrow.block g'' hg'' (hno 0 _ _ rfl rfl la).symm) (fun g'' hg'' => ?_)
    · rw [show X1.length / 7 = 0 + (k + 1) by rw [hX1]; omega]; exact hown
    · rcases hat with hat | hat
      · exact .inr ⟨0, _, _, rfl, rfl, la, hat.symm.trans hg''⟩
      · rw [hat] at hg''
        cases hg''
        exact .inl (Nat.le_refl _)
  · cases hD
    exact op_of hd (run_move hp ((h.out 5 (.inl (nlt rfl))).trans t5)) ⟨h.plain hun rfl hpre rfl ⟨nle rfl, nle rfl⟩ (by omega) (fun k c' hk => by simp only [twSpec] at hk; split at hk <;> first | rfl | (cases hk; done)) rfl (fun j d xs hj => by simp only [twSpec, twRows] at hj ⊢; split at hj <;> first | (cases hj; done) | decide) (fun j xs hj => by simp only [twSpec, twRows] at hj; split at hj <;> (cases hj; done)) (nne rfl) (nne rfl) (nne rfl) (nne rfl), keep17 h17 hun (nne rfl) (nne rfl) (.inl (nne rfl)) (by omega)⟩
  · cases hD
    exact op_of hd (run_move hp ((h.out 9 (.inl (nlt rfl))).trans t9)) ⟨h.plain hun rfl hpre rfl ⟨nle rfl, nle rfl⟩ (by omega) (fun k c' hk => by simp only [twSpec] at hk; split at hk <;> first | rfl | (cases hk; done)) rfl (fun j d xs hj => by simp only [twSpec, twRows] at hj ⊢; split at hj <;> first | (cases hj; done) | decide) (fun j xs hj => by simp only [twSpec, twRows] at hj; split at hj <;> (cases hj; done)) (nne rfl) (nne rfl) (nne rfl) (nne rfl), keep17 h17 hun (nne rfl) (nne rfl) (.inl (nne rfl)) (by omega)⟩
  · cases hD
    exact op_of hd (run_index39 hp (h.tri 6 89 _ rfl (hpre 6 (by simp))) (h.tri 7 90 _ rfl (hpre 7 (by simp))) hk) ⟨h.plain hun rfl hpre rfl ⟨nle rfl, nle rfl⟩ (by omega) (fun k c' hk => by simp only [twSpec] at hk; split at hk <;> first | rfl | (cases hk; done)) rfl (fun j d xs hj => by simp only [twSpec, twRows] at hj ⊢; split at hj <;> first | (cases hj; done) | decide) (fun j xs hj => by simp only [twSpec, twRows] at hj; split at hj <;> (cases hj; done)) (nne rfl) (nne rfl) (nne rfl) (nne rfl), keep17 h17 hun (nne rfl) (nne rfl) (.inl (nne rfl)) (by omega)⟩
  · cases hD
    exact op_of hd (run_loadOp rfl hp (h.tri 8 91 _ rfl (hpre 8 (by simp))) (hc.kept (CellsKept.of hw))) ⟨h.plain hun rfl hpre rfl ⟨nle rfl, nle rfl⟩ (by omega) (fun k c' hk => by simp only [twSpec] at hk; split at hk <;> first | rfl | (cases hk; done)) rfl (fun j d xs hj => by simp only [twSpec, twRows] at hj ⊢; split at hj <;> first | (cases hj; done) | decide) (fun j xs hj => by simp only [twSpec, twRows] at hj; split at hj <;> (cases hj; done)) (nne rfl) (nne rfl) (nne rfl) (nne rfl), keep17 h17 hun (nne rfl) (nne rfl) (.inl (nne rfl)) (by omega)⟩
  · cases hD
    refine op_ofW hd (run_litOp rfl hp (h.tri 9 92 _ rfl (hpre 9 (by simp)))) ⟨?_, keep17 h17 hun (nne rfl) (nne rfl) (.inl (nne rfl)) (by omega)⟩
    refine h.make hun rfl hpre hns1 hns2 ⟨nle rfl, nle rfl⟩ (by omega) (fun k c' hk => by simp only [twSpec] at hk; split at hk <;> (cases hk; done)) rfl rfl (fun j hj => by cases hj) (fun hh => lst_not hun (h.clo 11 _ _ _ rfl hh 10 (by simp))) (nne rfl) (nne rfl) (nne rfl) (hw.alloc hbw _) ?_ (fun g hg _ => Below.heap_alloc w _ g hg) (fun g hg => .inl (by cases hg; exact Nat.le_refl _))
    rw [show (opRow op (.slice ld ln lc)).length / 7 = 1 by rw [hXk]]
    exact World.ownsRow_lit w (opRow op (.slice ld ln lc)).toArray 1 hbw (by decide) (show ((opRow op (.slice ld ln lc)).toArray : Array Value).size = 1 * 7 from rfl)
  · cases hD
    have la : (twSpec w0.heap.size gl n lcap k A2 X1 (opRow op (.slice ld ln lc)) X2).R.live l 5 := ⟨.inr (hpre 5 (by simp)), lst_not hun⟩
    have oa := hrows.own 5 _ _ rfl la
    have lb : (twSpec w0.heap.size gl n lcap k A2 X1 (opRow op (.slice ld ln lc)) X2).R.live l 10 := ⟨.inr (hpre 10 (by simp)), lst_not hun⟩
    have ob := hrows.own 10 _ _ rfl lb
    obtain ⟨gb, cb, eb, _, _⟩ := ob.form (by rw [hXk]; decide)
    have e1 : (opRow op (.slice ld ln lc)).length / 7 = 1 := by rw [hXk]
    rw [e1] at ob eb
    have ob' := ob
    rw [eb] at ob'
    refine wp_append_at (.tmp 88) (.tmp 93) 39 hp w0.heap.size 50 i0 (.agg #[.int .i64 0, .int .i64 0, .int .i64 0, .int .i64 0, .slice none 0 0, .int .i64 0, .int .i64 0]) 7 72 Tryd.underlying39 hi0 hz0 hz1 hz2 rfl (by decide) _ _ _ rfl oa ⟨gb, 0, none⟩ 1 cb (opRow op (.slice ld ln lc)) eb rfl (World.ownsRow.cells ob' (g := gb) rfl) (row_oneCell op ld ln lc) (by unfold maxLen; rw [hX1]; omega) (by rw [hX1]; omega) hbw ?_
    intro v' w' hown hgrow hat
    rw [hd]
    refine ⟨?_, keep17 h17 hun (nne rfl) (nne rfl) (.inl (nne rfl)) (by omega)⟩
    refine h.make hun rfl hpre hns1 hns2 ⟨nle rfl, nle rfl⟩ (by omega) (fun k c' hk => by simp only [twSpec] at hk; split at hk <;> (cases hk; done)) rfl rfl (fun j hj => by cases hj) (fun hh => lst_not hun (h.clo 16 _ _ _ rfl hh 11 (by simp))) (nne rfl) (nne rfl) (nne rfl) (hw.grown hgrow hbw (own_later oa)) ?_ (fun g'' hg'' hno => hgrow.block g'' hg'' (hno 5 _ _ rfl rfl la).symm) (fun g'' hg'' => ?_)
    · rw [show (X1 ++ opRow op (.slice ld ln lc)).length / 7 = X1.length / 7 + 1 by rw [List.length_append, hX1, hXk]; omega]; exact hown
    · rcases hat with hat | hat
      · exact .inr ⟨5, _, _, rfl, rfl, la, hat.symm.trans hg''⟩
      · rw [hat] at hg''
        cases hg''
        exact .inl (Nat.le_refl _)
  · cases hD
    exact op_of hd (run_move hp ((h.out 5 (.inl (nlt rfl))).trans t5)) ⟨h.plain hun rfl hpre rfl ⟨nle rfl, nle rfl⟩ (by omega) (fun k c' hk => by simp only [twSpec] at hk; split at hk <;> first | rfl | (cases hk; done)) rfl (fun j d xs hj => by simp only [twSpec, twRows] at hj ⊢; split at hj <;> first | (cases hj; done) | decide) (fun j xs hj => by simp only [twSpec, twRows] at hj; split at hj <;> (cases hj; done)) (nne rfl) (nne rfl) (nne rfl) (nne rfl), keep17 h17 hun (nne rfl) (nne rfl) (.inl (nne rfl)) (by omega)⟩
  · cases hD
    exact op_of hd (run_move hp ((h.out 9 (.inl (nlt rfl))).trans t9)) ⟨h.plain hun rfl hpre rfl ⟨nle rfl, nle rfl⟩ (by omega) (fun k c' hk => by simp only [twSpec] at hk; split at hk <;> first | rfl | (cases hk; done)) rfl (fun j d xs hj => by simp only [twSpec, twRows] at hj ⊢; split at hj <;> first | (cases hj; done) | decide) (fun j xs hj => by simp only [twSpec, twRows] at hj; split at hj <;> (cases hj; done)) (nne rfl) (nne rfl) (nne rfl) (nne rfl), keep17 h17 hun (nne rfl) (nne rfl) (.inl (nne rfl)) (by omega)⟩
  · cases hD
    exact op_of hd (run_addc hp (h.tri 13 96 _ rfl (hpre 13 (by simp))) (by rw [IntKind.wrap_i64]; omega)) ⟨h.plain hun rfl hpre rfl ⟨nle rfl, nle rfl⟩ (by omega) (fun k c' hk => by simp only [twSpec] at hk; split at hk <;> first | rfl | (cases hk; done)) rfl (fun j d xs hj => by simp only [twSpec, twRows] at hj ⊢; split at hj <;> first | (cases hj; done) | decide) (fun j xs hj => by simp only [twSpec, twRows] at hj; split at hj <;> (cases hj; done)) (nne rfl) (nne rfl) (nne rfl) (nne rfl), keep17 h17 hun (nne rfl) (nne rfl) (.inl (nne rfl)) (by omega)⟩
  · cases hD
    exact op_of hd (run_sliceFrom hp (h.tri 12 95 _ rfl (hpre 12 (by simp))) (h.tri 14 97 _ rfl (hpre 14 (by simp))) (by omega) hA2) ⟨h.plain hun rfl hpre rfl ⟨nle rfl, nle rfl⟩ (by omega) (fun k c' hk => by simp only [twSpec] at hk; split at hk <;> first | rfl | (cases hk; done)) rfl (fun j d xs hj => by simp only [twSpec, twRows] at hj ⊢; split at hj <;> first | (cases hj; done) | decide) (fun j xs hj => by simp only [twSpec, twRows] at hj; split at hj <;> (cases hj; done)) (nne rfl) (nne rfl) (nne rfl) (nne rfl), keep17 h17 hun (nne rfl) (nne rfl) (.inl (nne rfl)) (by omega)⟩
  · cases hD
    have la : (twSpec w0.heap.size gl n lcap k A2 X1 (opRow op (.slice ld ln lc)) X2).R.live l 11 := ⟨.inr (hpre 11 (by simp)), lst_not hun⟩
    have oa := hrows.own 11 _ _ rfl la
    rw [show (X1 ++ opRow op (.slice ld ln lc)).length / 7 = k + 2 by rw [List.length_append, hX1, hXk]; omega] at oa
    refine wp_append_at (.tmp 94) (.tmp 98) 39 hp w0.heap.size 50 i0 (.agg #[.int .i64 0, .int .i64 0, .int .i64 0, .int .i64 0, .slice none 0 0, .int .i64 0, .int .i64 0]) 7 72 Tryd.underlying39 hi0 hz0 hz1 hz2 rfl (by decide) _ _ _ rfl oa A2 (n - (k + 1)) (lcap - (k + 1)) X2 (h.tri 15 98 _ rfl (hpre 15 (by simp))) (by first | exact hX1 | exact hX2) (cellsFrom hw) hone2 (by unfold maxLen; omega) (by omega) hbw ?_
    intro v' w' hown hgrow hat
    rw [hd]
    refine ⟨?_, keep17 h17 hun (nne rfl) (nne rfl) (.inr (fun hh => lst_not hun (h.clo 17 _ _ _ rfl hh 16 (by simp)))) (by omega)⟩
    refine h.make hun rfl hpre hns1 hns2 ⟨nle rfl, nle rfl⟩ (by omega) (fun k c' hk => by simp only [twSpec] at hk; split at hk <;> (cases hk; done)) rfl rfl (fun j hj => by cases hj) (fun hh => h.dom 18 hh rfl) (nne rfl) (nne rfl) (nne rfl) (hw.grown hgrow hbw (own_later oa)) ?_ (fun g'' hg'' hno => hgrow.block g'' hg'' (hno 11 _ _ rfl rfl la).symm) (fun g'' hg'' => ?_)
    · rw [show (X1 ++ opRow op (.slice ld ln lc) ++ X2).length / 7 = k + 2 + (n - (k + 1)) by rw [List.length_append, List.length_append, hX1, hX2, hXk]; omega]; exact hown
    · rcases hat with hat | hat
      · exact .inr ⟨11, _, _, rfl, rfl, la, hat.symm.trans hg''⟩
      · rw [hat] at hg''
        cases hg''
        exact .inl (Nat.le_refl _)
  · cases hD
    refine op_of hd (run_assign hp rfl) ⟨h.free hun rfl hpre rfl ⟨nle rfl, nle rfl⟩ (by omega) (fun k c' hk => by simp only [twSpec] at hk; split at hk <;> (cases hk; done)) rfl (fun j d xs hj => by simp only [twSpec, twRows] at hj ⊢; split at hj <;> first | (cases hj; done) | decide) (fun j xs hj => by simp only [twSpec, twRows] at hj; split at hj <;> (cases hj; done)) (nne rfl) (nne rfl) (nne rfl) (nne rfl), fun _ => ?_⟩
    rw [tm_put (by omega), tm_put (by omega), if_pos rfl, if_neg (by decide)]
end Go.Proofs.YtomheapokfphiaaDoor
