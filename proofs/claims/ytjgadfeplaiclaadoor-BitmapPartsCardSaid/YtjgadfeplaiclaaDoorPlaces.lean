/-
  The contracts of slices.AppendSeq and slices.Collect over word.set, and of word.Places.
-/
import Derived.Test.YtjgadfeplaiclaaDoorFirst
import Derived.Maps.AppendAt
import Derived.Laws.OwnMore
namespace Go.Proofs.YtjgadfeplaiclaaDoor
open Go Go.RowKit Go.Shelf
attribute [local go_sem] Oper.semAt_some

def intV (p : Nat) : Value := .int .i64 p
theorem info3 : (Tryd.prog.info? 3).map (fun i => (i.zero, i.size, i.bytes)) = some (some (.int .i64 0), 1, 8) := by kernel_rfl

theorem grown_at {w W W' : World} {B r : Nat} (h : w.grownBy W (some B)) (hg : W.grownBy W' (some r)) (hr : r = B ∨ w.heap.size ≤ r) : w.grownBy W' (some B) :=
  ⟨hg.os.trans h.os, hg.tape.trans h.tape, hg.output.trans h.output, Nat.le_trans h.size hg.size, fun i hi hne =>
    (hg.block i (Nat.lt_of_lt_of_le hi h.size) (by simp only [ne_eq, Option.some.injEq] at hne ⊢; rcases hr with e | e <;> omega)).trans (h.block i hi hne)⟩
theorem grown_below {w W W' : World} {B : Nat} (h : w.grownBy W (some B)) (hb : Below w.heap.size W W') : w.grownBy W' (some B) :=
  ⟨hb.os.trans h.os, hb.tape.trans h.tape, hb.output.trans h.output, Nat.le_trans h.size hb.size, fun i hi hne => (hb.block i hi).trans (h.block i hi hne)⟩
theorem owns_at {W W' : World} {n₀ e size n r B base : Nat} {v : Value} {xs : List Value} (h : W.ownsRow n₀ e size v n xs) (hg : W.grownBy W' (some r)) (hr : r = B ∨ (base ≤ r ∧ ∃ o : Obj, W.heap[r]? = some o ∧ o.isCells = false)) (hB : B < n₀) : W'.ownsRow n₀ e size v n xs :=
  h.kept hg (by
    rcases h.2 with ⟨rfl, _⟩ | ⟨g, cap, cur, rfl, hg0, hh, _⟩
    · exact .inl rfl
    · refine .inr ?_
      simp only [Value.ownBlock, ne_eq, Option.some.injEq]
      rcases hr with e | ⟨_, o, ho, hc⟩
      · omega
      · intro e; subst e; rw [hh] at ho; cases ho; cases hc)

theorem owns_weaken {W : World} {n m e size k : Nat} {v : Value} {xs : List Value} (h : W.ownsRow n e size v k xs) (hm : m ≤ n) : W.ownsRow m e size v k xs := by
  obtain ⟨h1, h2⟩ := h
  refine ⟨h1, ?_⟩
  rcases h2 with h2 | ⟨g, cap, cur, hv, hg, r⟩
  · exact .inl h2
  · exact .inr ⟨g, cap, cur, hv, Nat.le_trans hm hg, r⟩

set_option maxHeartbeats 1000000 in
theorem appendSeq_any (xs : List Nat) (hlen : xs.length ≤ 64) (B : Nat) (w : World) (hB : B < w.heap.size) (hB0 : 0 < B)
    (hseq : ∀ W : World, KeptB [0, B] w W → w.heap.size ≤ W.heap.size → Gives Tryd.prog 8 43 #[.pointer (some ⟨B, 0, none⟩)] (fun p : Nat => #[.int .i64 p]) B [0, B] xs W) :
    Calls Tryd.prog 45 #[.slice none 0 0, .func (.func 43) #[] #[.pointer (some ⟨B, 0, none⟩)]] w fun e w' => (∃ v, e = .returned v ∧ w'.ownsRow w.heap.size 3 1 v xs.length (xs.map intV)) ∧ w.grownBy w' (some B) := by
  obtain ⟨i0, hi, hz0, hz1, hz2⟩ := info_parts info3
  refine (callsIn_wide (n := 9)).1 ?_
  refine callsIn_of_wp_marks Tryd.func45 rfl trivial ?_ rfl
  simp only [Tryd.ntmps45, List.size_toArray, List.length_cons, List.length_nil, Nat.reduceAdd, Nat.reduceSub, Array.replicate_succ, Array.replicate_zero, List.push_toArray, List.append_toArray, List.nil_append, List.cons_append]
  gi_wp2
  obtain ⟨W0, hW0⟩ : ∃ W0, w.alloc (.cells #[.slice none 0 0] 34) = W0 := ⟨_, rfl⟩
  have hs : W0.heap.size = w.heap.size + 1 := by rw [← hW0]; simp
  have c0 : Boxed W0 w.heap.size 34 (.slice none 0 0) := by rw [← hW0]; exact Boxed.new w 34 _
  have hb : Below w.heap.size w W0 := by rw [← hW0]; exact (Below.refl _ w).alloc (Nat.le_refl _) _
  rw [hW0]
  refine range_law (gf := 43) (lb := #[.pointer (some ⟨B, 0, none⟩)]) rfl (enters_of Tryd.func43 (by kernel_rfl) rfl) (by omega) (fun b hm => by simp at hm; omega)
    (hseq W0 (KeptB.below hb (fun b hm => by simp at hm; omega)) (by omega)) (fun _ => rfl)
    (fun j W => (∃ v, Boxed W w.heap.size 34 v ∧ W.ownsRow w.heap.size 3 1 v j ((xs.take j).map intV)) ∧ j ≤ xs.length ∧ w.grownBy W (some B))
    (fun _ _ _ => False)
    (fun k W W' q hs hg hq => by
      obtain ⟨⟨v, b0, ho⟩, h2, h3⟩ := hs
      exact ⟨⟨v, boxed_at b0 hg hq (by omega) (by omega), owns_at ho hg hq hB⟩, h2, grown_at h3 hg (hq.imp id fun h => by omega)⟩)
    (fun c k W W' q hs hg hq => hs)
    ⟨⟨_, c0, World.ownsRow_nil _ _ _ _⟩, Nat.zero_le _, ⟨hb.os, hb.tape, hb.output, hb.size, fun i hi _ => hb.block i hi⟩⟩
    (fun i : Nat => { tmps := #[.slice none 0 0, .func (.func 43) #[] #[.pointer (some ⟨B, 0, none⟩)], .pointer (some ⟨w.heap.size, 0, none⟩), undef, .slice none 0 0, .int .i64 i, .func (.func 43) #[] #[.pointer (some ⟨B, 0, none⟩)], .int .i64 i, undef, undef, undef, undef, undef], defers := [] }) ?assign ?body ?done ?stop
  case assign =>
    intro l i W K hK
    gi_wp2
    exact hK
  case body =>
    rintro l j i W hi' ⟨⟨v, hv, hrow⟩, hj, hgr⟩ hsz
    have hle : w.heap.size ≤ w.heap.size := Nat.le_refl _
    have hjl : j < xs.length := (List.getElem?_eq_some_iff.1 hi').1
    have hnx : (xs.take (j + 1)).map intV = (xs.take j).map intV ++ [intV i] := by rw [List.take_add_one, hi']; simp
    have Hnx := Lib.hid hnx
    have hc0 := hv.cell
    clear hnx
    gi_wp2_with (gi_at_builtin; refine wpListIn_append_own _ rfl _ _ 34 rfl w.heap.size 3 i0 (.int .i64 0) 1 8 Tryd.underlying34 hi hz0 hz1 hz2 rfl (by decide) _ _ _ rfl (hrow.alloc _) ⟨W.heap.size, 0, none⟩ 1 1 [intV i] rfl rfl (cell_one_new _ _ _) (by simp [Value.oneCell', intV]) (by unfold maxLen; omega) (by omega) (by simp; omega) ?_; intro v' w1 hown' hgrow _; obtain ⟨g', cap', rfl⟩ := ownsRow_succ hown'; obtain ⟨hv1, hv2, hr2, hk2, hb2⟩ := hv.appended (by decide) hrow (by omega) hle hown' hgrow; have hc1 := hv1.cell; have hf1 := hv1.frozen)
    exact ⟨hk2, KeptB.below hb2 (fun b hm => by simp at hm; omega), ⟨_, hv2, by rw [Hnx.out]; exact hr2⟩, by omega, grown_below hgr hb2⟩
  case done =>
    rintro D W hD ⟨⟨v, hv, hrow⟩, hj, hgr⟩ hK
    have hc0 := hv.cell
    gi_wp2
    refine ⟨by simp, .inl ⟨_, _, rfl, run_takeDeferred hK, ?_⟩⟩
    exact ⟨_, results_tmp rfl _ _ _, ⟨v, rfl, by rw [List.take_length] at hrow; exact ownsRow_putObj hrow _ hK rfl⟩, grown_at hgr (grownBy_putObj' W D _) (.inr (by omega))⟩
  case stop => exact fun _ _ _ _ _ _ h _ => h.elim

set_option maxHeartbeats 400000 in
theorem collect_any (xs : List Nat) (hlen : xs.length ≤ 64) (B : Nat) (w : World) (hB : B < w.heap.size) (hB0 : 0 < B)
    (hseq : ∀ W : World, KeptB [0, B] w W → w.heap.size ≤ W.heap.size → Gives Tryd.prog 8 43 #[.pointer (some ⟨B, 0, none⟩)] (fun p : Nat => #[.int .i64 p]) B [0, B] xs W) :
    Calls Tryd.prog 37 #[.func (.func 43) #[] #[.pointer (some ⟨B, 0, none⟩)]] w fun e w' => (∃ v, e = .returned v ∧ w'.ownsRow w.heap.size 3 1 v xs.length (xs.map intV)) ∧ w.grownBy w' (some B) := by
  go_enter Tryd.func37, Tryd.ntmps37
  go_wp2_with fail
  refine (appendSeq_any xs hlen B w hB hB0 hseq).mono ?_
  rintro e w1 ⟨⟨v, rfl, ho⟩, hg⟩
  go_wp2
  go_ret
  exact ⟨⟨v, rfl, ho⟩, hg⟩

set_option maxHeartbeats 400000 in
theorem places_any (x : Nat) (hx : x < 18446744073709551616) (w : World) (hT : TabB w) (hp : 0 < w.heap.size) :
    Calls Tryd.prog 19 #[.int .u64 x] w fun e w' => (∃ v, e = .returned v ∧ w'.ownsRow w.heap.size 3 1 v (places x).length ((places x).map intV)) ∧ Below w.heap.size w w' := by
  have hlen := places_length x
  obtain ⟨W0, hW0⟩ : ∃ W0, w.alloc (.cells #[.int .u64 x] 22) = W0 := ⟨_, rfl⟩
  have hs : W0.heap.size = w.heap.size + 1 := by rw [← hW0]; simp
  have c0 : Boxed W0 w.heap.size 22 (.int .u64 x) := by rw [← hW0]; exact Boxed.new w 22 _
  have hb : Below w.heap.size w W0 := by rw [← hW0]; exact (Below.refl _ w).alloc (Nat.le_refl _) _
  have hcol := Lib.hid (collect_any (places x) hlen w.heap.size W0 (by omega) hp fun W hk hsz => by
    have c1 : Boxed W w.heap.size 22 (.int .u64 x) := (hk _ (by simp)).trans c0
    exact set_gives 8 x hx W w.heap.size (by omega) (hT.kept ((hk 0 (by simp)).trans (hb.block 0 hp))) c1.cell c1.frozen)
  go_enter Tryd.func19, Tryd.ntmps19
  go_wp2_with fail
  refine (set_any x w).mono ?_
  rintro e w1 ⟨rfl, rfl⟩
  go_wp2_with fail
  refine hcol.out.mono ?_
  rintro e w2 ⟨⟨v, rfl, ho⟩, hg⟩
  go_wp2
  go_ret
  refine ⟨⟨v, rfl, ?_⟩, hb.grown hg (by omega) (fun k e => by cases e; exact Nat.le_refl _)⟩
  exact owns_weaken ho (by omega)
end Go.Proofs.YtjgadfeplaiclaaDoor
