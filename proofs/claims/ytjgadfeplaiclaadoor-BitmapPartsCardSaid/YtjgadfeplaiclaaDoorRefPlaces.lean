/-
  The contracts of r1.Bit, r1.Places and r1.Count.
-/
import Derived.Test.YtjgadfeplaiclaaDoorPartsPlain
namespace Go.Proofs.YtjgadfeplaiclaaDoor
open Go Go.RowKit Go.Shelf

theorem bit_any (x i : Nat) (hx : x < 18446744073709551616) (hi : i < 64) (w : World) : Calls Tryd.prog 47 #[.int .u64 x, .int .i64 i] w fun e w' => e = .returned (.bool (x.testBit i)) ∧ w = w' := by
  have hb := bit_read x i hx
  have g1 : ¬ ((i : Int) < 0) := by omega
  have g2 : (i : Int) < 64 := by omega
  have g3 : ¬ (64 ≤ i) := by omega
  go_enter Tryd.func47, Tryd.ntmps47
  go_wp2
  go_ret
  exact ⟨rfl, rfl⟩

theorem filter_next (x k : Nat) : (List.range (k + 1)).filter (fun i => x.testBit i) = (List.range k).filter (fun i => x.testBit i) ++ if x.testBit k then [k] else [] := by
  rw [List.range_succ, List.filter_append]
  cases h : x.testBit k <;> simp [h]
theorem own_later {W : World} {B e size n : Nat} {v : Value} {xs : List Value} (h : W.ownsRow B e size v n xs) : ∀ k, v.ownBlock = some k → B ≤ k := fun k e => by
  rcases h.2 with ⟨rfl, _⟩ | ⟨g, cap, cur, rfl, hg, _⟩
  · simp [Value.ownBlock] at e
  · simp only [Value.ownBlock, Option.some.injEq] at e; omega

set_option maxHeartbeats 1600000 in
theorem rplaces_any (x : Nat) (hx : x < 18446744073709551616) (w : World) :
    Calls Tryd.prog 39 #[.int .u64 x] w fun e w' => (∃ v, e = .returned v ∧ w'.ownsRow w.heap.size 3 1 v (places x).length ((places x).map intV)) ∧ Below w.heap.size w w' := by
  obtain ⟨i0, hi, hz0, hz1, hz2⟩ := info_parts info3
  have Hbit := Lib.hid (fun i hi W => bit_any x i hx hi W)
  have hle : ∀ k, ((List.range k).filter fun i => x.testBit i).length ≤ k := fun k => by have := List.length_filter_le (fun i => x.testBit i) (List.range k); simpa using this
  have Hle := Lib.hid hle
  clear hle hx
  go_enter Tryd.func39, Tryd.ntmps39
  go_wp2_with fail
  go_loopw [3, 4] (fun v i wr => ∃ k : Nat, k ≤ 64 ∧ i = .int .i64 k ∧ wr.ownsRow w.heap.size 3 1 v ((List.range k).filter fun i => x.testBit i).length (((List.range k).filter fun i => x.testBit i).map intV) ∧ Below w.heap.size w wr) (fun _ i _ => 64 - (intOf i).toNat)
  case atStart => exact ⟨0, by omega, rfl, World.ownsRow_nil _ _ _ _, Below.refl _ _⟩
  case round =>
    obtain ⟨k, hk, rfl, hrow, hbw⟩ := hrel
    have Hbw := Lib.hid hbw
    have hsz := hbw.size
    by_cases hlt : k < 64
    · have g1 : (k : Int) < 64 := by omega
      have hnx := filter_next x k
      have hll := Hle.out k
      have hb := Hbit.out k hlt wr
      have Hob := Lib.hid (own_later hrow)
      obtain ⟨l, el⟩ : ∃ l, (List.range k).filter (fun i => x.testBit i) = l := ⟨_, rfl⟩
      rw [el] at hnx hll hrow
      obtain ⟨b, eb⟩ : ∃ b, x.testBit k = b := ⟨_, rfl⟩
      rw [eb] at hnx hb
      have Hb := Lib.hid hb
      clear hb hbw el eb
      cases b with
      | false =>
        have Hnx := Lib.hid hnx
        clear hnx
        go_wp2_with fail
        refine Hb.out.mono ?_
        rintro e w1 ⟨rfl, rfl⟩
        go_wp2
        go_roundw
        case rel => exact ⟨k + 1, by omega, by go_num, by rw [Hnx.out]; simpa using hrow, Hbw.out⟩
        case measure => simp [intOf]; omega
      | true =>
        have Hnx := Lib.hid hnx
        clear hnx
        go_wp2_with fail
        refine Hb.out.mono ?_
        rintro e w1 ⟨rfl, rfl⟩
        go_wp2_with (at_builtin; refine wpList_append_own_at _ rfl _ _ 34 rfl w.heap.size 3 i0 (.int .i64 0) 1 8 Tryd.underlying34 hi hz0 hz1 hz2 rfl (by decide) _ _ _ rfl (hrow.alloc _) ⟨wr.heap.size, 0, none⟩ 1 1 [intV k] rfl rfl (cell_one_new _ _ _) (by simp [Value.oneCell', intV]) (by unfold maxLen; omega) (by omega) (by simp; omega) ?_; intro v' w1 hown' hgrow _ hat)
        have HB := Lib.hid ((Hbw.out.alloc hsz _).grown hgrow (by simp; omega) Hob.out)
        go_roundw
        case rel => exact ⟨k + 1, by omega, by go_num, by rw [Hnx.out]; simpa using hown', HB.out⟩
        case measure => simp [intOf]; omega
    · obtain rfl : k = 64 := by omega
      clear hbw
      go_wp2
      go_ret
      exact ⟨⟨_, rfl, hrow⟩, Hbw.out⟩

theorem rcount_any (x : Nat) (hx : x < 18446744073709551616) (w : World) :
    Calls Tryd.prog 25 #[.int .u64 x] w fun e w' => e = .returned (.int .i64 (places x).length) ∧ Below w.heap.size w w' := by
  have H := Lib.hid (rplaces_any x hx w)
  clear hx
  go_enter Tryd.func25, Tryd.ntmps25
  go_wp2_with fail
  refine H.out.mono ?_
  rintro e w1 ⟨⟨v, rfl, ho⟩, hb⟩
  obtain ⟨ad, cap, rfl⟩ := slice_of_owns ho
  have Hb := Lib.hid hb
  clear ho hb
  go_wp2
  go_ret
  exact ⟨rfl, Hb.out⟩
end Go.Proofs.YtjgadfeplaiclaaDoor
