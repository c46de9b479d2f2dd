/-
  The contract of bitmap.Parts.
-/
import Derived.Test.YtjgadfeplaiclaaDoorNext
import Derived.Test.YtjgadfeplaiclaaDoorPlaces
namespace Go.Proofs.YtjgadfeplaiclaaDoor
open Go Go.RowKit Go.Shelf
attribute [local go_sem] Oper.semAt_some

theorem info42 : (Tryd.prog.info? 42).map (fun i => (i.zero, i.size, i.bytes)) = some (some (.agg #[.int .i64 0, .int .u64 0]), 2, 16) := by kernel_rfl

def partV (q : Nat × Nat) : List Value := [.int .i64 q.1, .int .u64 q.2]
theorem cell_two_new (w : World) (x y : Value) (t : TypeId) : ∀ j u, [x, y][j]? = some u → (w.alloc (.cells #[x, y] t)).cell? ((⟨w.heap.size, 0, none⟩ : Addr).add j) = some u := by
  intro j u hj
  match j, hj with
  | 0, hj => simp at hj; subst hj; simp [Addr.add]
  | 1, hj => simp at hj; subst hj; simp [Addr.add]

theorem appended2 {W w1 : World} {m0 n₀ B : Nat} {t e : TypeId} {size : Nat} {v v' : Value} {k m : Nat} {xs ys : List Value} {tmp : Obj}
    (hv : Boxed W B t v) (hte : t ≠ e) (hrow : W.ownsRow n₀ e size v k xs) (h0 : m0 ≤ W.heap.size) (hB : m0 ≤ B) (hm : m0 ≤ n₀)
    (hown' : w1.ownsRow n₀ e size v' m ys) (hgrow : (W.alloc tmp).grownBy w1 v.ownBlock) :
    Boxed w1 B t v ∧ Boxed (w1.setCell ⟨B, 0, none⟩ v') B t v' ∧ (w1.setCell ⟨B, 0, none⟩ v').ownsRow n₀ e size v' m ys ∧ KeepsOthers W (w1.setCell ⟨B, 0, none⟩ v') ∧ Below m0 W (w1.setCell ⟨B, 0, none⟩ v') ∧ (∀ b, b < n₀ → b < W.heap.size → b ≠ B → (w1.setCell ⟨B, 0, none⟩ v').heap[b]? = W.heap[b]?) := by
  obtain ⟨h1, h2, _, h4, h5⟩ := Boxed.appended hv hte (owns_weaken hrow hm) h0 hB (owns_weaken hown' hm) hgrow
  refine ⟨h1, h2, hown'.kept (grownBy_setCell' w1 B v') (.inr (h1.not_row hte hown').symm), h4, h5, fun b hb1 hb2 hb3 => ?_⟩
  have e1 := Below.heap_setCell w1 ⟨B, 0, none⟩ v' b hb3
  have e2 : w1.heap[b]? = (W.alloc tmp).heap[b]? := hgrow.block b (by simp; omega) (by
    rcases hrow.2 with ⟨rfl, _⟩ | ⟨g, cap, cur, rfl, hg, _⟩
    · simp [Value.ownBlock]
    · simp only [Value.ownBlock, ne_eq, Option.some.injEq]; omega)
  exact (e1.trans e2).trans (Below.heap_alloc W tmp b hb2)
theorem slice_of_owns {W : World} {n₀ e size n : Nat} {v : Value} {xs : List Value} (h : W.ownsRow n₀ e size v n xs) : ∃ ad cap, v = .slice ad n cap := by
  rcases h.2 with ⟨rfl, rfl⟩ | ⟨g, cap, cur, rfl, _⟩
  · exact ⟨_, _, rfl⟩
  · exact ⟨_, _, rfl⟩

set_option maxHeartbeats 1600000 in
theorem parts_yes (a n : Nat) (ha : a ≤ 1048576) (hn0 : 1 ≤ n) (hn1 : n ≤ 1048576) (w : World) :
    Calls Tryd.prog 22 #[.int .i64 a, .int .i64 n] w fun e w' => (∃ v, e = .returned v ∧ w'.ownsRow w.heap.size 42 2 v (wordsN a (a + n)) ((wordsL a (a + n)).flatMap partV)) ∧ Below w.heap.size w w' := by
  obtain ⟨i0, hi, hz0, hz1, hz2⟩ := info_parts info42
  have g0 : ¬ ((a : Int) < 0) := by omega
  have g1 : ¬ ((1048576 : Int) < a) := by omega
  have g2 : ¬ ((n : Int) < 1) := by omega
  have g3 : ¬ ((1048576 : Int) < n) := by omega
  obtain ⟨E, eE⟩ : ∃ E, a + n = E := ⟨_, rfl⟩
  rw [eE]
  have g4 : IntKind.i64.wrap ((a : Int) + n) = E := by rw [IntKind.wrap_i64]; omega
  refine (callsIn_wide (n := 9)).1 ?_
  refine callsIn_of_wp_marks Tryd.func22 rfl trivial ?_ rfl
  simp only [Tryd.ntmps22, List.size_toArray, List.length_cons, List.length_nil, Nat.reduceAdd, Nat.reduceSub, Array.replicate_succ, Array.replicate_zero, List.push_toArray, List.append_toArray, List.nil_append, List.cons_append]
  gi_wp2_with fail
  refine ⟨trivial, ?_⟩
  refine (callsIn_wide.2 (words_any _ _ _)).mono ?_
  rintro e w1 ⟨rfl, rfl⟩
  gi_wp2
  obtain ⟨W0, hW0⟩ : ∃ W0, (((w.alloc (.cells #[.slice none 0 0] 38)).alloc (.cells #[.int .i64 a] 3)).alloc (.cells #[.int .i64 E] 3)) = W0 := ⟨_, rfl⟩
  have hs : W0.heap.size = w.heap.size + 3 := by rw [← hW0]; simp
  have c0 : Boxed W0 w.heap.size 38 (.slice none 0 0) := by rw [← hW0]; exact ((Boxed.new w 38 _).alloc _).alloc _
  have c1 : Boxed W0 (w.heap.size + 1) 3 (.int .i64 a) := by rw [← hW0]; have := ((Boxed.new (w.alloc (.cells #[.slice none 0 0] 38)) 3 (.int .i64 a)).alloc (.cells #[.int .i64 E] 3)); simpa using this
  have c2 : Boxed W0 (w.heap.size + 1 + 1) 3 (.int .i64 E) := by rw [← hW0]; have := (Boxed.new ((w.alloc (.cells #[.slice none 0 0] 38)).alloc (.cells #[.int .i64 a] 3)) 3 (.int .i64 E)); simpa using this
  have hb : Below w.heap.size w W0 := by rw [← hW0]; exact (((Below.refl _ w).alloc (Nat.le_refl _) _).alloc (by simp) _).alloc (by simp; omega) _
  rw [hW0]
  have hlenN : wordsN a E ≤ 65536 := by unfold wordsN; split <;> omega
  refine range_law (gf := 46) (lb := #[.pointer (some ⟨w.heap.size + 1, 0, none⟩), .pointer (some ⟨w.heap.size + 1 + 1, 0, none⟩)]) rfl (enters_of Tryd.func46 (by kernel_rfl) rfl) (by omega) (fun b hm => by simp at hm; omega)
    (words_gives 8 a E (by omega) W0 (w.heap.size + 1) (w.heap.size + 1 + 1) (by omega) c1.cell c1.frozen c2.cell) (fun _ => rfl)
    (fun j W => (∃ v, Boxed W w.heap.size 38 v ∧ W.ownsRow W0.heap.size 42 2 v j (((wordsL a E).take j).flatMap partV)) ∧ j ≤ wordsN a E ∧ Below w.heap.size w W)
    (fun _ _ _ => False)
    (fun k W W' q hs hg hq => by
      obtain ⟨⟨v, b0, ho⟩, h2, h3⟩ := hs
      refine ⟨⟨v, boxed_at b0 hg hq (by omega) (by omega), ?_⟩, h2, below_at h3 hg hq (by omega) (by omega)⟩
      exact owns_at ho hg hq (by omega))
    (fun c k W W' q hs hg hq => hs)
    ⟨⟨_, c0, World.ownsRow_nil _ _ _ _⟩, Nat.zero_le _, hb⟩
    (fun q : Nat × Nat => { tmps := #[.int .i64 a, .int .i64 n, undef, undef, .pointer (some ⟨w.heap.size, 0, none⟩), .int .i64 q.1, .int .u64 q.2, .int .i64 a, .bool false, .bool false, .int .i64 a, .bool false, .bool false, .bool false, .int .i64 n, .bool false, .bool false, .bool false, .int .i64 n, .bool false, .bool false, .int .i64 a, .int .i64 a, .int .i64 n, .int .i64 E, .func (.func 46) #[] #[.pointer (some ⟨w.heap.size + 1, 0, none⟩), .pointer (some ⟨w.heap.size + 1 + 1, 0, none⟩)], .int .i64 q.1, .int .u64 q.2, undef, undef, undef, undef, undef, undef, undef], defers := [] }) ?assign ?body ?done ?stop
  case assign =>
    intro l i W K hK
    gi_wp2
    exact hK
  case body =>
    rintro l j q W hi' ⟨⟨v, hv, hrow⟩, hj, hB⟩ hsz
    obtain ⟨hjl, eq⟩ := wordsL_get hi'
    have hnx : ((wordsL a E).take (j + 1)).flatMap partV = ((wordsL a E).take j).flatMap partV ++ partV q := by rw [List.take_add_one, hi']; simp
    have Hnx := Lib.hid hnx
    have hc0 := hv.cell
    have h00 : w.heap.size ≤ w.heap.size := Nat.le_refl _
    have h01 : w.heap.size ≤ W.heap.size := by omega
    have h02 : w.heap.size ≤ W0.heap.size := by omega
    clear hnx hi' eq
    gi_wp2_with (gi_at_builtin; refine wpListIn_append_own _ rfl _ _ 38 rfl W0.heap.size 42 i0 (.agg #[.int .i64 0, .int .u64 0]) 2 16 Tryd.underlying38 hi hz0 hz1 hz2 rfl (by decide) _ _ _ rfl (hrow.alloc _) ⟨W.heap.size, 0, none⟩ 1 1 (partV q) rfl rfl (cell_two_new _ _ _ _) (by simp [Value.oneCell', partV]) (by unfold maxLen; omega) (by omega) (by simp; omega) ?_; intro v' w1 hown' hgrow _; obtain ⟨g', cap', rfl⟩ := ownsRow_succ hown'; obtain ⟨hv1, hv2, hr2, hk2, hb2, ho2⟩ := appended2 hv (by decide) hrow h01 h00 h02 hown' hgrow; have hc1 := hv1.cell; have hf1 := hv1.frozen)
    exact ⟨hk2, fun b hm => ho2 b (by simp at hm; omega) (by simp at hm; omega) (by simp at hm; omega), ⟨_, hv2, by rw [Hnx.out]; exact hr2⟩, by omega, hB.trans hb2⟩
  case done =>
    rintro D W hD ⟨⟨v, hv, hrow⟩, hj, hB⟩ hK
    obtain ⟨ad, cap, rfl⟩ := slice_of_owns hrow
    have hc0 := hv.cell
    have hf0 := hv.frozen
    gi_wp2
    have hK' := (KeepsOthers.setCell W ⟨w.heap.size, 0, none⟩ (.slice ad (wordsL a E).length cap)).same D _ hK rfl
    refine ⟨by simp, .inl ⟨_, _, rfl, run_takeDeferred hK', ?_⟩⟩
    have e1 := (put_boxed (D := D) (o := .deferred none) (hv.set (.slice ad (wordsL a E).length cap)) (by omega)).cell
    refine ⟨.slice ad (wordsL a E).length cap, ?_, ⟨_, rfl, ?_⟩, put_below (hB.setCell (p := ⟨w.heap.size, 0, none⟩) (Nat.le_refl _) _) (by omega)⟩
    · simp [results, Tryd.results22, go_sem, e1]
    · rw [List.take_of_length_le (Nat.le_refl _)] at hrow
      rw [← wordsL_length]
      exact owns_weaken (ownsRow_putObj (hrow.kept (grownBy_setCell' _ _ _) (.inr (hv.not_row (by decide) hrow).symm)) _ hK' rfl) (by omega)
  case stop => exact fun _ _ _ _ _ _ h _ => h.elim
end Go.Proofs.YtjgadfeplaiclaaDoor
