/-
  The contract of word.First.
-/
import Derived.Test.YtjgadfeplaiclaaDoorNth
import Derived.Test.YtjgadfeplaiclaaDoorBitsPlain
namespace Go.Proofs.YtjgadfeplaiclaaDoor
open Go Go.RowKit Go.Shelf
attribute [local go_sem] Oper.semAt_some

/-- What First tells. -/
def firstN (x : Nat) (k : Int) : Nat := orL ((places x).take k.toNat)
theorem u64_or_pow (a i : Nat) (ha : a < 18446744073709551616) (hi : i < 64) : bits .or .u64 (a : Int) (IntKind.u64.wrap ((2 : Int) ^ i)) = ((a ||| 2 ^ i : Nat) : Int) := by
  have e : IntKind.u64.wrap ((2 : Int) ^ i) = ((2 ^ i : Nat) : Int) := by
    have h2 : ((2 : Int) ^ i) = ((2 ^ i : Nat) : Int) := by rw [Int.natCast_pow]; rfl
    rw [h2]
    exact u64_wrap_of _ (pow_lt64 hi)
  rw [e]
  exact u64_or_nat a (2 ^ i) ha (pow_lt64 hi)

set_option maxHeartbeats 1000000 in
theorem first_any (x : Nat) (hx : x < 18446744073709551616) (n : Int) (hn0 : -9223372036854775808 ≤ n) (hn1 : n ≤ 9223372036854775807) (w : World) (hT : TabB w) (hp : 0 < w.heap.size) :
    Calls Tryd.prog 21 #[.int .u64 x, .int .i64 n] w fun e w' => e = .returned (.int .u64 (firstN x n)) ∧ Below w.heap.size w w' := by
  have hlen := places_length x
  have Hn0 := Lib.hid hn0
  have Hn1 := Lib.hid hn1
  clear hn0 hn1
  refine (callsIn_wide (n := 9)).1 ?_
  refine callsIn_of_wp_marks Tryd.func21 rfl trivial ?_ rfl
  simp only [Tryd.ntmps21, List.size_toArray, List.length_cons, List.length_nil, Nat.reduceAdd, Nat.reduceSub, Array.replicate_succ, Array.replicate_zero, List.push_toArray, List.append_toArray, List.nil_append, List.cons_append]
  gi_wp2_with fail
  refine ⟨trivial, ?_⟩
  refine (callsIn_wide.2 (set_any _ _)).mono ?_
  rintro e w1 ⟨rfl, rfl⟩
  gi_wp2
  obtain ⟨W0, hW0⟩ : ∃ W0, ((w.alloc (.cells #[.int .i64 n] 3)).alloc (.cells #[.int .u64 0] 22)).alloc (.cells #[.int .u64 x] 22) = W0 := ⟨_, rfl⟩
  have hs : W0.heap.size = w.heap.size + 3 := by rw [← hW0]; simp
  have c0 : Boxed W0 w.heap.size 3 (.int .i64 n) := by rw [← hW0]; exact ((Boxed.new w 3 _).alloc _).alloc _
  have c1 : Boxed W0 (w.heap.size + 1) 22 (.int .u64 0) := by rw [← hW0]; have := ((Boxed.new (w.alloc (.cells #[.int .i64 n] 3)) 22 (.int .u64 0)).alloc (.cells #[.int .u64 x] 22)); simpa using this
  have c3 : Boxed W0 (w.heap.size + 1 + 1) 22 (.int .u64 x) := by rw [← hW0]; have := (Boxed.new ((w.alloc (.cells #[.int .i64 n] 3)).alloc (.cells #[.int .u64 0] 22)) 22 (.int .u64 x)); simpa using this
  have hb : Below w.heap.size w W0 := by rw [← hW0]; exact (((Below.refl _ w).alloc (Nat.le_refl _) _).alloc (by simp) _).alloc (by simp; omega) _
  rw [hW0]
  have hT0 : TabB W0 := hT.kept (hb.block 0 hp)
  refine range_law (gf := 43) (lb := #[.pointer (some ⟨w.heap.size + 1 + 1, 0, none⟩)]) rfl (enters_of Tryd.func43 (by kernel_rfl) rfl) (by omega) (fun b hm => by simp at hm; omega)
    (set_gives 8 x hx W0 (w.heap.size + 1 + 1) (by omega) hT0 c3.cell c3.frozen) (fun _ => rfl)
    (fun j W => (0 < j → (j : Int) ≤ n) ∧ j ≤ (places x).length ∧ Boxed W w.heap.size 3 (.int .i64 (n - j)) ∧ Boxed W (w.heap.size + 1) 22 (.int .u64 (orL ((places x).take j))) ∧ Below w.heap.size w W)
    (fun c _ W => c = .exit 0 ∧ Boxed W (w.heap.size + 1) 22 (.int .u64 (firstN x n)) ∧ Below w.heap.size w W)
    (fun k W W' q hs hg hq => ⟨hs.1, hs.2.1, boxed_at hs.2.2.1 hg hq (by omega) (by omega), boxed_at hs.2.2.2.1 hg hq (by omega) (by omega), below_at hs.2.2.2.2 hg hq (by omega) (by omega)⟩)
    (fun c k W W' q hs hg hq => ⟨hs.1, boxed_at hs.2.1 hg hq (by omega) (by omega), below_at hs.2.2 hg hq (by omega) (by omega)⟩)
    ⟨fun h => by omega, by omega, by simpa using c0, c1, hb⟩
    (fun i : Nat => { tmps := #[.int .u64 x, .int .i64 n, undef, .pointer (some ⟨w.heap.size, 0, none⟩), .pointer (some ⟨w.heap.size + 1, 0, none⟩), .int .i64 i, .int .u64 x, .func (.func 43) #[] #[.pointer (some ⟨w.heap.size + 1 + 1, 0, none⟩)], .int .i64 i, undef, undef, undef, undef, undef, undef, undef, undef, undef], defers := [] }) ?assign ?body ?done ?stop
  case assign =>
    intro l i W K hK
    gi_wp2
    exact hK
  case body =>
    rintro l j i W hi ⟨hjn, hjl, b0, b1, hB⟩ hsz
    have hi64 : i < 64 := places_lt (List.mem_of_getElem? hi)
    obtain ⟨a, ea⟩ : ∃ a, orL ((places x).take j) = a := ⟨_, rfl⟩
    have ha : a < 18446744073709551616 := by rw [← ea]; exact orL_take_lt x j
    have hor := u64_or_pow a i ha hi64
    have hnx : orL ((places x).take (j + 1)) = a ||| 2 ^ i := by
      rw [List.take_add_one, hi, ← ea]; exact orL_snoc _ _
    rw [ea] at b1
    have d0 := b0.cell; have f0 := b0.frozen
    have d1 := b1.cell; have f1 := b1.frozen
    have Hjn := Lib.hid hjn
    have Ea := Lib.hid ea
    have Hnx := Lib.hid hnx
    have Hor := Lib.hid hor
    have q0 := Hn0.out; have q1 := Hn1.out
    have p1 : -9223372036854775808 ≤ n - (j : Int) := by
      rcases Nat.eq_zero_or_pos j with e | e
      · omega
      · have := hjn e; omega
    clear hjn ea hnx hor ha
    by_cases hz : n - (j : Int) ≤ 0
    · have hfin : a = firstN x n := by
        unfold firstN
        rw [show n.toNat = j by
          rcases Nat.eq_zero_or_pos j with e | e
          · omega
          · have := Hjn.out e; omega]
        exact Ea.out.symm
      have Hfin := Lib.hid hfin
      clear hfin q0 q1
      gi_wp2
      exact ⟨KeepsOthers.refl _, rfl, by rw [← Hfin.out]; exact b1, hB⟩
    · clear q0
      have hmix : Tryd.prog.follows .mixedOrders = true := by kernel_rfl
      gi_wp2
      gi_region_with_o (fail)
      all_goals
        gi_wp2
        rw [Hor.out]
        refine ⟨((KeepsOthers.setCell _ _ _).trans (KeepsOthers.setCell _ _ _)).trans (KeepsOthers.drew _), ?_, fun _ => by omega, ?_, ?_, ?_, ?_⟩
        · exact ((KeptB.setCell (a := ⟨w.heap.size + 1, 0, none⟩) (not_mem2 (by show w.heap.size + 1 ≠ 0; omega) (by show w.heap.size + 1 ≠ w.heap.size + 1 + 1; omega)) _).trans (KeptB.setCell (a := ⟨w.heap.size, 0, none⟩) (not_mem2 (by show w.heap.size ≠ 0; omega) (by show w.heap.size ≠ w.heap.size + 1 + 1; omega)) _)).trans (KeptB.drew _)
        · have := (List.getElem?_eq_some_iff.1 hi).1; omega
        · have := (set_other (c := w.heap.size + 1) (u := .int .u64 (a ||| 2 ^ i : Nat)) b0 (by omega)).set (.int .i64 (n - (j : Int) - 1))
          rw [show (n - ((j + 1 : Nat) : Int)) = n - (j : Int) - 1 by omega]
          exact this
        · rw [Hnx.out]
          exact set_other (b1.set _) (by omega)
        · exact ((hB.setCell (p := ⟨w.heap.size + 1, 0, none⟩) (by simp) _).setCell (p := ⟨w.heap.size, 0, none⟩) (Nat.le_refl _) _).drew
  case done =>
    rintro D W hD ⟨hjn, hjl, b0, b1, hB⟩ hK
    have hfin : orL ((places x).take (places x).length) = firstN x n := by
      unfold firstN
      rcases Nat.eq_zero_or_pos (places x).length with e | e
      · rw [List.length_eq_zero_iff.1 e]; simp
      · rw [List.take_length, List.take_of_length_le]
        have := hjn e; omega
    rw [hfin] at b1
    have d1 := b1.cell; have f1 := b1.frozen
    clear hjn hfin b0
    gi_wp2
    have hK' := (KeepsOthers.setCell W ⟨w.heap.size + 1, 0, none⟩ (.int .u64 (firstN x n))).same D _ hK rfl
    refine ⟨by simp, .inl ⟨_, _, rfl, run_takeDeferred hK', ?_⟩⟩
    have e1 := (put_boxed (D := D) (o := .deferred none) (b1.set (.int .u64 (firstN x n))) (by omega)).cell
    refine ⟨.int .u64 (firstN x n), ?_, rfl, put_below (hB.setCell (p := ⟨w.heap.size + 1, 0, none⟩) (by simp) _) (by omega)⟩
    simp [results, Tryd.results21, go_sem, e1]
  case stop =>
    rintro D c k W hD hk ⟨rfl, b1, hB⟩ hK
    have d1 := b1.cell; have f1 := b1.frozen
    gi_wp2
    have hK' := (KeepsOthers.setCell W ⟨w.heap.size + 1, 0, none⟩ (.int .u64 (firstN x n))).same D _ hK rfl
    refine ⟨by simp, .inl ⟨_, _, rfl, run_takeDeferred hK', ?_⟩⟩
    have e1 := (put_boxed (D := D) (o := .deferred none) (b1.set (.int .u64 (firstN x n))) (by omega)).cell
    refine ⟨.int .u64 (firstN x n), ?_, rfl, put_below (hB.setCell (p := ⟨w.heap.size + 1, 0, none⟩) (by simp) _) (by omega)⟩
    simp [results, Tryd.results21, go_sem, e1]
end Go.Proofs.YtjgadfeplaiclaaDoor
