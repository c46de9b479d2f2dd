/-
  The contracts of word.Low, word.Nth, word.First: loops over the iterator word.set.
-/
import Derived.Test.YtjgadfeplaiclaaDoorIter
import Derived.RangeFuncBox
namespace Go.Proofs.YtjgadfeplaiclaaDoor
open Go Go.RowKit Go.Shelf
attribute [local go_sem] Oper.semAt_some

theorem boxed_at {W W' : World} {b r B base : Nat} {t : TypeId} {v : Value} (h : Boxed W b t v) (hg : W.grownBy W' (some r)) (hr : r = B ∨ (base ≤ r ∧ ∃ o : Obj, W.heap[r]? = some o ∧ o.isCells = false)) (hb : b ≠ B) (hb2 : b < base) : Boxed W' b t v :=
  h.kept hg (by simp only [ne_eq, Option.some.injEq]; rcases hr with e | e <;> omega)
theorem below_at {W0 W W' : World} {r B base : Nat} (h : Below W0.heap.size W0 W) (hg : W.grownBy W' (some r)) (hr : r = B ∨ (base ≤ r ∧ ∃ o : Obj, W.heap[r]? = some o ∧ o.isCells = false)) (hB : W0.heap.size ≤ B) (hb2 : W0.heap.size ≤ base) : Below W0.heap.size W0 W' :=
  h.grown hg h.size (fun k e => by cases e; rcases hr with e | e <;> omega)

theorem put_boxed {W : World} {D b : Nat} {t : TypeId} {v : Value} {o : Obj} (h : Boxed W b t v) (hne : b ≠ D) : Boxed (W.putObj D o) b t v := h.kept (grownBy_putObj' W D o) (by simpa using hne)
theorem put_below {w W : World} {D : Nat} {o : Obj} (h : Below w.heap.size w W) (hD : w.heap.size ≤ D) : Below w.heap.size w (W.putObj D o) := h.grown (grownBy_putObj' W D o) h.size (fun k e => by cases e; exact hD)
theorem set_other {W : World} {b c : Nat} {t : TypeId} {v u : Value} (h : Boxed W b t v) (hne : b ≠ c) : Boxed (W.setCell ⟨c, 0, none⟩ u) b t v := h.kept (grownBy_setCell' W c u) (by simpa using hne)

/-- A word's bits that are not set. -/
def compl (x : Nat) : Nat := 18446744073709551615 - x
theorem compl_lt (x : Nat) : compl x < 18446744073709551616 := by unfold compl; omega
/-- What Low tells. -/
def LowV (x : Nat) (n : Int) (r : Int × Bool) : Prop :=
  (∃ i : Nat, (places (compl x))[0]? = some i ∧ (i : Int) < n ∧ r = ((i : Int), true)) ∨ ((∀ i : Nat, (places (compl x))[0]? = some i → ¬ (i : Int) < n) ∧ r = (0, false))
theorem lowV_ex (x : Nat) (n : Int) : ∃ r, LowV x n r := by
  by_cases h : ∃ i : Nat, (places (compl x))[0]? = some i ∧ (i : Int) < n
  · obtain ⟨i, h1, h2⟩ := h; exact ⟨_, .inl ⟨i, h1, h2, rfl⟩⟩
  · exact ⟨_, .inr ⟨fun i h1 h2 => h ⟨i, h1, h2⟩, rfl⟩⟩

theorem u64_compl (x : Nat) (hx : x < 18446744073709551616) : bits .xor .u64 IntKind.u64.max (x : Int) = (compl x : Int) := by
  have e : IntKind.u64.max = ((18446744073709551615 : Nat) : Int) := by decide
  rw [e, u64_xor_nat _ x (by decide) hx]
  congr 1
  apply Nat.eq_of_testBit_eq
  intro i
  have h1 : (18446744073709551615 : Nat) = 2 ^ 64 - 1 := rfl
  have h2 : compl x = 2 ^ 64 - (x + 1) := by unfold compl; omega
  rw [Nat.testBit_xor, h2, Nat.testBit_two_pow_sub_succ (by omega), h1, Nat.testBit_two_pow_sub_one]
  by_cases h : i < 64
  · simp [h]
  · have := testBit_ge hx (i := i) (by omega)
    simp [h, this]
theorem compl_bit (x : Nat) (hx : x < 18446744073709551616) (i : Nat) : (compl x).testBit i = (decide (i < 64) && !x.testBit i) := by
  have h2 : compl x = 2 ^ 64 - (x + 1) := by unfold compl; omega
  rw [h2, Nat.testBit_two_pow_sub_succ (by omega)]

set_option maxHeartbeats 1000000 in
theorem low_any (x : Nat) (hx : x < 18446744073709551616) (n : Int) (r : Int × Bool) (hr : LowV x n r) (w : World) (hT : TabB w) (hp : 0 < w.heap.size) :
    Calls Tryd.prog 13 #[.int .u64 x, .int .i64 n] w fun e w' => e = .returned (.tuple #[.int .i64 r.1, .bool r.2]) ∧ Below w.heap.size w w' := by
  have hcm := u64_compl x hx
  have Hr := Lib.hid hr
  clear hr
  refine (callsIn_wide (n := 9)).1 ?_
  refine callsIn_of_wp_marks Tryd.func13 rfl trivial ?_ rfl
  simp only [Tryd.ntmps13, List.size_toArray, List.length_cons, List.length_nil, Nat.reduceAdd, Nat.reduceSub, Array.replicate_succ, Array.replicate_zero, List.push_toArray, List.append_toArray, List.nil_append, List.cons_append]
  gi_wp2_with fail
  refine ⟨trivial, ?_⟩
  refine (callsIn_wide.2 (set_any _ _)).mono ?_
  rintro e w1 ⟨rfl, rfl⟩
  gi_wp2
  obtain ⟨W0, hW0⟩ : ∃ W0, (((w.alloc (.cells #[.int .i64 n] 3)).alloc (.cells #[.int .i64 0] 3)).alloc (.cells #[.bool false] 4)).alloc (.cells #[.int .u64 (compl x)] 22) = W0 := ⟨_, rfl⟩
  have hs : W0.heap.size = w.heap.size + 4 := by rw [← hW0]; simp
  have c0 : Boxed W0 w.heap.size 3 (.int .i64 n) := by rw [← hW0]; exact (((Boxed.new w 3 _).alloc _).alloc _).alloc _
  have c1 : Boxed W0 (w.heap.size + 1) 3 (.int .i64 0) := by rw [← hW0]; have := (((Boxed.new (w.alloc (.cells #[.int .i64 n] 3)) 3 (.int .i64 0)).alloc (.cells #[.bool false] 4)).alloc (.cells #[.int .u64 (compl x)] 22)); simpa using this
  have c2 : Boxed W0 (w.heap.size + 1 + 1) 4 (.bool false) := by rw [← hW0]; have := ((Boxed.new ((w.alloc (.cells #[.int .i64 n] 3)).alloc (.cells #[.int .i64 0] 3)) 4 (.bool false)).alloc (.cells #[.int .u64 (compl x)] 22)); simpa using this
  have c3 : Boxed W0 (w.heap.size + 1 + 1 + 1) 22 (.int .u64 (compl x)) := by rw [← hW0]; have := (Boxed.new (((w.alloc (.cells #[.int .i64 n] 3)).alloc (.cells #[.int .i64 0] 3)).alloc (.cells #[.bool false] 4)) 22 (.int .u64 (compl x))); simpa using this
  have hb : Below w.heap.size w W0 := by rw [← hW0]; exact ((((Below.refl _ w).alloc (Nat.le_refl _) _).alloc (by simp) _).alloc (by simp; omega) _).alloc (by simp; omega) _
  rw [hW0]
  have hT0 : TabB W0 := hT.kept (hb.block 0 hp)
  refine range_law (gf := 43) (lb := #[.pointer (some ⟨w.heap.size + 1 + 1 + 1, 0, none⟩)]) rfl (enters_of Tryd.func43 (by kernel_rfl) rfl) (by omega) (fun b hm => by simp at hm; omega)
    (set_gives 8 (compl x) (compl_lt x) W0 (w.heap.size + 1 + 1 + 1) (by omega) hT0 c3.cell c3.frozen) (fun _ => rfl)
    (fun k W => k = 0 ∧ Boxed W w.heap.size 3 (.int .i64 n) ∧ Boxed W (w.heap.size + 1) 3 (.int .i64 0) ∧ Boxed W (w.heap.size + 1 + 1) 4 (.bool false) ∧ Below w.heap.size w W)
    (fun c k W => Hid ((c = .ret ∧ r.2 = true ∧ Boxed W (w.heap.size + 1) 3 (.int .i64 r.1) ∧ Boxed W (w.heap.size + 1 + 1) 4 (.bool true)) ∨ (c = .exit 0 ∧ r = (0, false) ∧ Boxed W (w.heap.size + 1) 3 (.int .i64 0) ∧ Boxed W (w.heap.size + 1 + 1) 4 (.bool false))) ∧ Below w.heap.size w W)
    (fun k W W' q hs hg hq => ⟨hs.1, boxed_at hs.2.1 hg hq (by omega) (by omega), boxed_at hs.2.2.1 hg hq (by omega) (by omega), boxed_at hs.2.2.2.1 hg hq (by omega) (by omega), below_at hs.2.2.2.2 hg hq (by omega) (by omega)⟩)
    (fun c k W W' q hs hg hq => ⟨Lib.hid (hs.1.out.imp (fun h => ⟨h.1, h.2.1, boxed_at h.2.2.1 hg hq (by omega) (by omega), boxed_at h.2.2.2 hg hq (by omega) (by omega)⟩) (fun h => ⟨h.1, h.2.1, boxed_at h.2.2.1 hg hq (by omega) (by omega), boxed_at h.2.2.2 hg hq (by omega) (by omega)⟩)), below_at hs.2 hg hq (by omega) (by omega)⟩)
    ⟨rfl, c0, c1, c2, hb⟩
    (fun i : Nat => { tmps := #[.int .u64 x, .int .i64 n, undef, .pointer (some ⟨w.heap.size, 0, none⟩), .pointer (some ⟨w.heap.size + 1, 0, none⟩), .pointer (some ⟨w.heap.size + 1 + 1, 0, none⟩), .int .i64 i, .int .u64 x, .int .u64 (compl x), .func (.func 43) #[] #[.pointer (some ⟨w.heap.size + 1 + 1 + 1, 0, none⟩)], .int .i64 i, undef, undef, undef, undef], defers := [] }) ?assign ?body ?done ?stop
  case assign =>
    intro l i W K hK
    gi_wp2
    exact hK
  case body =>
    rintro l k i W hi ⟨rfl, b0, b1, b2, hB⟩ hsz
    have d0 := b0.cell
    have d1 := b1.cell; have f1 := b1.frozen
    have d2 := b2.cell; have f2 := b2.frozen
    have hrv : (i : Int) < n → r = ((i : Int), true) := fun h => by
      rcases Hr.out with ⟨j, h1, _, e⟩ | ⟨h1, _⟩
      · rw [hi] at h1; cases h1; exact e
      · exact absurd h (h1 i hi)
    have hro : ¬ (i : Int) < n → r = (0, false) := fun h => by
      rcases Hr.out with ⟨j, h1, h2, _⟩ | ⟨_, e⟩
      · rw [hi] at h1; cases h1; exact absurd h2 h
      · exact e
    have Hrv := Lib.hid hrv
    have Hro := Lib.hid hro
    clear hrv hro
    by_cases hlt : (i : Int) < n
    · gi_wp2
      refine ⟨(KeepsOthers.setCell _ _ _).trans (KeepsOthers.setCell _ _ _), Lib.hid (.inl ⟨rfl, ?_, ?_, ?_⟩), (hB.setCell (p := ⟨w.heap.size + 1, 0, none⟩) (by simp) _).setCell (by simp; omega) _⟩
      · rw [Hrv.out hlt]
      · rw [Hrv.out hlt]; exact set_other (b1.set _) (by omega)
      · exact (set_other b2 (by omega)).set _
    · gi_wp2
      exact ⟨KeepsOthers.refl _, Lib.hid (.inr ⟨rfl, Hro.out hlt, b1, b2⟩), hB⟩
  case done =>
    rintro D W hD ⟨hk, b0, b1, b2, hB⟩ hK
    have d1 := b1.cell; have f1 := b1.frozen
    have d2 := b2.cell; have f2 := b2.frozen
    have hr0 : r = (0, false) := by
      rcases Hr.out with ⟨j, h1, _, _⟩ | ⟨_, e⟩
      · have := (List.getElem?_eq_some_iff.1 h1).1; omega
      · exact e
    gi_wp2
    have hK' := ((KeepsOthers.setCell W ⟨w.heap.size + 1, 0, none⟩ (.int .i64 0)).trans (KeepsOthers.setCell _ ⟨w.heap.size + 1 + 1, 0, none⟩ (.bool false))).same D _ hK rfl
    refine ⟨by simp, .inl ⟨_, _, rfl, run_takeDeferred hK', ?_⟩⟩
    have e1 := (put_boxed (D := D) (o := .deferred none) (set_other (u := .bool false) (b1.set (.int .i64 0)) (show w.heap.size + 1 ≠ w.heap.size + 1 + 1 by omega)) (by omega)).cell
    have e2 := (put_boxed (D := D) (o := .deferred none) ((set_other (u := .int .i64 0) b2 (show w.heap.size + 1 + 1 ≠ w.heap.size + 1 by omega)).set (.bool false)) (by omega)).cell
    rw [hr0]
    refine ⟨.tuple #[.int .i64 0, .bool false], ?_, rfl, put_below ((hB.setCell (p := ⟨w.heap.size + 1, 0, none⟩) (by simp) _).setCell (by simp; omega) _) (by omega)⟩
    simp [results, Tryd.results13, go_sem, e1, e2]
  case stop =>
    rintro D c k W hD hk ⟨hx, hB⟩ hK
    rcases hx.out with ⟨rfl, h2, b1, b2⟩ | ⟨rfl, h2, b1, b2⟩
    all_goals clear hx
    · gi_wp2
      refine ⟨by simp, .inl ⟨_, _, rfl, run_takeDeferred hK, ?_⟩⟩
      have e1 := (put_boxed (D := D) (o := .deferred none) b1 (by omega)).cell
      have e2 := (put_boxed (D := D) (o := .deferred none) b2 (by omega)).cell
      rw [h2]
      refine ⟨.tuple #[.int .i64 r.1, .bool true], ?_, rfl, put_below hB (by omega)⟩
      simp [results, Tryd.results13, go_sem, e1, e2]
    · have d1 := b1.cell; have f1 := b1.frozen
      have d2 := b2.cell; have f2 := b2.frozen
      have H2 := Lib.hid h2
      clear h2
      gi_wp2
      have hK' := ((KeepsOthers.setCell W ⟨w.heap.size + 1, 0, none⟩ (.int .i64 0)).trans (KeepsOthers.setCell _ ⟨w.heap.size + 1 + 1, 0, none⟩ (.bool false))).same D _ hK rfl
      refine ⟨by simp, .inl ⟨_, _, rfl, run_takeDeferred hK', ?_⟩⟩
      have e1 := (put_boxed (D := D) (o := .deferred none) (set_other (u := .bool false) (b1.set (.int .i64 0)) (show w.heap.size + 1 ≠ w.heap.size + 1 + 1 by omega)) (by omega)).cell
      have e2 := (put_boxed (D := D) (o := .deferred none) ((set_other (u := .int .i64 0) b2 (show w.heap.size + 1 + 1 ≠ w.heap.size + 1 by omega)).set (.bool false)) (by omega)).cell
      rw [H2.out]
      refine ⟨.tuple #[.int .i64 0, .bool false], ?_, rfl, put_below ((hB.setCell (p := ⟨w.heap.size + 1, 0, none⟩) (by simp) _).setCell (by simp; omega) _) (by omega)⟩
      simp [results, Tryd.results13, go_sem, e1, e2]
end Go.Proofs.YtjgadfeplaiclaaDoor
