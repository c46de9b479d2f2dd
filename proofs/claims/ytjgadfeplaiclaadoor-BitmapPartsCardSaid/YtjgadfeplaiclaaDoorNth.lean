/-
  The contract of word.Nth.
-/
import Derived.Test.YtjgadfeplaiclaaDoorLow
namespace Go.Proofs.YtjgadfeplaiclaaDoor
open Go Go.RowKit Go.Shelf
attribute [local go_sem] Oper.semAt_some

theorem not_mem2 {a b c : Nat} (h1 : a ≠ b) (h2 : a ≠ c) : ¬ a ∈ [b, c] := fun h => by
  rcases List.mem_cons.1 h with e | h
  · exact h1 e
  · exact h2 (List.mem_singleton.1 h)

/-- What Nth tells. -/
def NthV (x : Nat) (k : Int) (r : Int × Bool) : Prop :=
  (∃ i : Nat, 0 ≤ k ∧ (places x)[k.toNat]? = some i ∧ r = ((i : Int), true)) ∨ ((k < 0 ∨ ((places x).length : Int) ≤ k) ∧ r = (0, false))
theorem nthV_ex (x : Nat) (k : Int) : ∃ r, NthV x k r := by
  by_cases h : 0 ≤ k ∧ k < (places x).length
  · refine ⟨_, .inl ⟨(places x)[k.toNat]'(by omega), h.1, List.getElem?_eq_getElem _, rfl⟩⟩
  · exact ⟨_, .inr ⟨by omega, rfl⟩⟩
/-- The counter behind j rounds: as Go's int has it. -/
def kAt (k : Int) (j : Nat) : Int := if -9223372036854775808 ≤ k - j then k - j else k - j + 18446744073709551616
theorem kAt_zero (k : Int) (h0 : -9223372036854775808 ≤ k) : kAt k 0 = k := by unfold kAt; split <;> omega
theorem kAt_is (k : Int) (j : Nat) (hj : j < 64) (h0 : -9223372036854775808 ≤ k) (h1 : k ≤ 9223372036854775807) : kAt k j = 0 ↔ k = j := by
  unfold kAt; split <;> omega
theorem kAt_succ (k : Int) (j : Nat) (h0 : -9223372036854775808 ≤ k) (h1 : k ≤ 9223372036854775807) (hj : j < 64) : IntKind.i64.wrap (kAt k j - 1) = kAt k (j + 1) := by
  rw [IntKind.wrap_i64]; unfold kAt; split <;> split <;> omega

set_option maxHeartbeats 1000000 in
theorem nth_any (x : Nat) (hx : x < 18446744073709551616) (n : Int) (hn0 : -9223372036854775808 ≤ n) (hn1 : n ≤ 9223372036854775807) (r : Int × Bool) (hr : NthV x n r) (w : World) (hT : TabB w) (hp : 0 < w.heap.size) :
    Calls Tryd.prog 20 #[.int .u64 x, .int .i64 n] w fun e w' => e = .returned (.tuple #[.int .i64 r.1, .bool r.2]) ∧ Below w.heap.size w w' := by
  have Hr := Lib.hid hr
  have hlen := places_length x
  have Hn0 := Lib.hid hn0
  have Hn1 := Lib.hid hn1
  clear hr hn0 hn1
  refine (callsIn_wide (n := 9)).1 ?_
  refine callsIn_of_wp_marks Tryd.func20 rfl trivial ?_ rfl
  simp only [Tryd.ntmps20, List.size_toArray, List.length_cons, List.length_nil, Nat.reduceAdd, Nat.reduceSub, Array.replicate_succ, Array.replicate_zero, List.push_toArray, List.append_toArray, List.nil_append, List.cons_append]
  gi_wp2_with fail
  refine ⟨trivial, ?_⟩
  refine (callsIn_wide.2 (set_any _ _)).mono ?_
  rintro e w1 ⟨rfl, rfl⟩
  gi_wp2
  obtain ⟨W0, hW0⟩ : ∃ W0, (((w.alloc (.cells #[.int .i64 n] 3)).alloc (.cells #[.int .i64 0] 3)).alloc (.cells #[.bool false] 4)).alloc (.cells #[.int .u64 x] 22) = W0 := ⟨_, rfl⟩
  have hs : W0.heap.size = w.heap.size + 4 := by rw [← hW0]; simp
  have c0 : Boxed W0 w.heap.size 3 (.int .i64 n) := by rw [← hW0]; exact (((Boxed.new w 3 _).alloc _).alloc _).alloc _
  have c1 : Boxed W0 (w.heap.size + 1) 3 (.int .i64 0) := by rw [← hW0]; have := (((Boxed.new (w.alloc (.cells #[.int .i64 n] 3)) 3 (.int .i64 0)).alloc (.cells #[.bool false] 4)).alloc (.cells #[.int .u64 x] 22)); simpa using this
  have c2 : Boxed W0 (w.heap.size + 1 + 1) 4 (.bool false) := by rw [← hW0]; have := ((Boxed.new ((w.alloc (.cells #[.int .i64 n] 3)).alloc (.cells #[.int .i64 0] 3)) 4 (.bool false)).alloc (.cells #[.int .u64 x] 22)); simpa using this
  have c3 : Boxed W0 (w.heap.size + 1 + 1 + 1) 22 (.int .u64 x) := by rw [← hW0]; have := (Boxed.new (((w.alloc (.cells #[.int .i64 n] 3)).alloc (.cells #[.int .i64 0] 3)).alloc (.cells #[.bool false] 4)) 22 (.int .u64 x)); simpa using this
  have hb : Below w.heap.size w W0 := by rw [← hW0]; exact ((((Below.refl _ w).alloc (Nat.le_refl _) _).alloc (by simp) _).alloc (by simp; omega) _).alloc (by simp; omega) _
  rw [hW0]
  have hT0 : TabB W0 := hT.kept (hb.block 0 hp)
  refine range_law (gf := 43) (lb := #[.pointer (some ⟨w.heap.size + 1 + 1 + 1, 0, none⟩)]) rfl (enters_of Tryd.func43 (by kernel_rfl) rfl) (by omega) (fun b hm => by simp at hm; omega)
    (set_gives 8 x hx W0 (w.heap.size + 1 + 1 + 1) (by omega) hT0 c3.cell c3.frozen) (fun _ => rfl)
    (fun j W => (∀ i : Nat, i < j → n ≠ i) ∧ Boxed W w.heap.size 3 (.int .i64 (kAt n j)) ∧ Boxed W (w.heap.size + 1) 3 (.int .i64 0) ∧ Boxed W (w.heap.size + 1 + 1) 4 (.bool false) ∧ Below w.heap.size w W)
    (fun c _ W => Hid (c = .ret ∧ r.2 = true ∧ Boxed W (w.heap.size + 1) 3 (.int .i64 r.1) ∧ Boxed W (w.heap.size + 1 + 1) 4 (.bool true)) ∧ Below w.heap.size w W)
    (fun k W W' q hs hg hq => ⟨hs.1, boxed_at hs.2.1 hg hq (by omega) (by omega), boxed_at hs.2.2.1 hg hq (by omega) (by omega), boxed_at hs.2.2.2.1 hg hq (by omega) (by omega), below_at hs.2.2.2.2 hg hq (by omega) (by omega)⟩)
    (fun c k W W' q hs hg hq => ⟨Lib.hid (have h := hs.1.out; ⟨h.1, h.2.1, boxed_at h.2.2.1 hg hq (by omega) (by omega), boxed_at h.2.2.2 hg hq (by omega) (by omega)⟩), below_at hs.2 hg hq (by omega) (by omega)⟩)
    ⟨fun i h => by omega, by rw [kAt_zero n Hn0.out]; exact c0, c1, c2, hb⟩
    (fun i : Nat => { tmps := #[.int .u64 x, .int .i64 n, undef, .pointer (some ⟨w.heap.size, 0, none⟩), .pointer (some ⟨w.heap.size + 1, 0, none⟩), .pointer (some ⟨w.heap.size + 1 + 1, 0, none⟩), .int .i64 i, .int .u64 x, .func (.func 43) #[] #[.pointer (some ⟨w.heap.size + 1 + 1 + 1, 0, none⟩)], .int .i64 i, undef, undef, undef, undef, undef], defers := [] }) ?assign ?body ?done ?stop
  case assign =>
    intro l i W K hK
    gi_wp2
    exact hK
  case body =>
    rintro l j i W hi ⟨hne, b0, b1, b2, hB⟩ hsz
    have hj : j < 64 := by have := (List.getElem?_eq_some_iff.1 hi).1; omega
    have hk0 := kAt_is n j hj Hn0.out Hn1.out
    have hk1 := kAt_succ n j Hn0.out Hn1.out hj
    obtain ⟨kv, ekv⟩ : ∃ kv, kAt n j = kv := ⟨_, rfl⟩
    obtain ⟨kw, ekw⟩ : ∃ kw, kAt n (j + 1) = kw := ⟨_, rfl⟩
    rw [ekv] at hk0 hk1 b0
    rw [ekw] at hk1
    have d0 := b0.cell; have f0 := b0.frozen
    have d1 := b1.cell; have f1 := b1.frozen
    have d2 := b2.cell; have f2 := b2.frozen
    have Hne := Lib.hid hne
    have Ekw := Lib.hid ekw
    clear hne ekv ekw
    by_cases hz : kv = 0
    · have hnj := hk0.1 hz
      have hrv : r = ((i : Int), true) := by
        rcases Hr.out with ⟨m, h0, h1, e⟩ | ⟨h1, _⟩
        · rw [show n.toNat = j by omega, hi] at h1; cases h1; exact e
        · have := (List.getElem?_eq_some_iff.1 hi).1; omega
      have Hrv := Lib.hid hrv
      have hzb : (kv == 0) = true := by simpa using hz
      clear hk0 hk1 hnj hrv hz
      gi_wp2
      refine ⟨(KeepsOthers.setCell _ _ _).trans (KeepsOthers.setCell _ _ _), Lib.hid ⟨rfl, ?_, ?_, ?_⟩, (hB.setCell (p := ⟨w.heap.size + 1, 0, none⟩) (by simp) _).setCell (by simp; omega) _⟩
      · rw [Hrv.out]
      · rw [Hrv.out]; exact set_other (b1.set _) (by omega)
      · exact (set_other b2 (by omega)).set _
    · have hzb : (kv == 0) = false := by simpa using hz
      have hnj : n ≠ j := fun e => hz (hk0.2 e)
      have Hnj := Lib.hid hnj
      clear hk0 hz hnj
      gi_wp2
      refine ⟨KeepsOthers.setCell _ _ _, KeptB.setCell (a := ⟨w.heap.size, 0, none⟩) (not_mem2 (by show w.heap.size ≠ 0; omega) (by show w.heap.size ≠ w.heap.size + 1 + 1 + 1; omega)) _, fun m hm => ?_, ?_, set_other b1 (by omega), set_other b2 (by omega), hB.setCell (p := ⟨w.heap.size, 0, none⟩) (Nat.le_refl _) _⟩
      · by_cases e : m = j
        · subst e; exact Hnj.out
        · exact Hne.out m (by omega)
      · rw [Ekw.out]; exact b0.set _
  case done =>
    rintro D W hD ⟨hne, b0, b1, b2, hB⟩ hK
    have d1 := b1.cell; have f1 := b1.frozen
    have d2 := b2.cell; have f2 := b2.frozen
    have hr0 : r = (0, false) := by
      rcases Hr.out with ⟨m, h0, h1, _⟩ | ⟨_, e⟩
      · have h2 := (List.getElem?_eq_some_iff.1 h1).1
        exact absurd (by omega) (hne n.toNat h2)
      · exact e
    have H0 := Lib.hid hr0
    clear hne hr0
    gi_wp2
    have hK' := ((KeepsOthers.setCell W ⟨w.heap.size + 1, 0, none⟩ (.int .i64 0)).trans (KeepsOthers.setCell _ ⟨w.heap.size + 1 + 1, 0, none⟩ (.bool false))).same D _ hK rfl
    refine ⟨by simp, .inl ⟨_, _, rfl, run_takeDeferred hK', ?_⟩⟩
    have e1 := (put_boxed (D := D) (o := .deferred none) (set_other (u := .bool false) (b1.set (.int .i64 0)) (show w.heap.size + 1 ≠ w.heap.size + 1 + 1 by omega)) (by omega)).cell
    have e2 := (put_boxed (D := D) (o := .deferred none) ((set_other (u := .int .i64 0) b2 (show w.heap.size + 1 + 1 ≠ w.heap.size + 1 by omega)).set (.bool false)) (by omega)).cell
    rw [H0.out]
    refine ⟨.tuple #[.int .i64 0, .bool false], ?_, rfl, put_below ((hB.setCell (p := ⟨w.heap.size + 1, 0, none⟩) (by simp) _).setCell (by simp; omega) _) (by omega)⟩
    simp [results, Tryd.results20, go_sem, e1, e2]
  case stop =>
    rintro D c k W hD hk ⟨hx, hB⟩ hK
    obtain ⟨rfl, h2, b1, b2⟩ := hx.out
    clear hx
    gi_wp2
    refine ⟨by simp, .inl ⟨_, _, rfl, run_takeDeferred hK, ?_⟩⟩
    have e1 := (put_boxed (D := D) (o := .deferred none) b1 (by omega)).cell
    have e2 := (put_boxed (D := D) (o := .deferred none) b2 (by omega)).cell
    rw [h2]
    refine ⟨.tuple #[.int .i64 r.1, .bool true], ?_, rfl, put_below hB (by omega)⟩
    simp [results, Tryd.results20, go_sem, e1, e2]
end Go.Proofs.YtjgadfeplaiclaaDoor
