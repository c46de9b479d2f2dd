/-
  The law of layer 1 on the first bits, walked: WordFirst.
-/
import Derived.Test.YtjgadfeplaiclaaDoorNthLaw
import Derived.Test.YtjgadfeplaiclaaDoorLater
namespace Go.Proofs.YtjgadfeplaiclaaDoor
open Go.RowKit

theorem places_first {X : Nat} (T : Int) : places (firstN X T) = (places X).take T.toNat :=
  places_orL (List.Pairwise.sublist (List.take_sublist _ _) (places_rising X)) fun _ hi => places_lt (List.mem_of_mem_take hi)
theorem firstN_lt (X : Nat) (T : Int) : firstN X T < 18446744073709551616 := orL_take_lt X _
theorem first_in {X : Nat} (hX : X < 18446744073709551616) (T : Int) : firstN X T &&& compl X = 0 := by
  apply Nat.eq_of_testBit_eq
  intro i
  rw [Nat.testBit_and, compl_bit X hX]
  by_cases h : i ∈ (places X).take T.toNat
  · have := (mem_places hX).1 (List.mem_of_mem_take h)
    simp [this]
  · have : (firstN X T).testBit i = false := by unfold firstN; rw [orL_bit]; exact decide_eq_false h
    simp [this]
theorem places_rest {X : Nat} (hX : X < 18446744073709551616) (T : Int) : places (X &&& compl (firstN X T)) = (places X).drop T.toNat := by
  have hlt : X &&& compl (firstN X T) < 18446744073709551616 := Nat.lt_of_le_of_lt Nat.and_le_left hX
  refine rising_ext (places_rising _) (List.Pairwise.sublist (List.drop_sublist _ _) (places_rising X)) fun i => ?_
  rw [mem_places hlt, Nat.testBit_and, compl_bit _ (firstN_lt X T)]
  have hd : (firstN X T).testBit i = decide (i ∈ (places X).take T.toNat) := by unfold firstN; exact orL_bit ..
  have hsplit : i ∈ places X ↔ i ∈ (places X).take T.toNat ∨ i ∈ (places X).drop T.toNat := by
    conv => lhs; rw [← List.take_append_drop T.toNat (places X)]
    exact List.mem_append
  have hdis : i ∈ (places X).take T.toNat → i ∉ (places X).drop T.toNat := fun h1 h2 => by
    have hr := places_rising X
    rw [← List.take_append_drop T.toNat (places X)] at hr
    have := (List.pairwise_append.1 hr).2.2 i h1 i h2
    omega
  rw [hd]
  constructor
  · intro h
    simp only [Bool.and_eq_true, Bool.not_eq_true', decide_eq_true_iff, decide_eq_false_iff_not] at h
    exact (hsplit.1 ((mem_places hX).2 h.1)).resolve_left h.2.2
  · intro h
    have hm := hsplit.2 (.inr h)
    have h64 := places_lt hm
    simp only [Bool.and_eq_true, Bool.not_eq_true', decide_eq_true_iff, decide_eq_false_iff_not]
    exact ⟨(mem_places hX).1 hm, h64, fun h1 => hdis h1 h⟩

theorem cell_block_lt {w : World} {a : Addr} {v : Value} (h : w.cell? a = some v) : a.block < w.heap.size := by
  obtain ⟨o, ho, _⟩ := cells_of_cell h
  exact (Array.getElem?_eq_some_iff.1 ho).1
theorem ints_shape {w : World} {v : Value} {L : List Nat} (h : IntsAt w v L) : (∃ a cap, v = .slice a 0 cap ∧ L = []) ∨
    ∃ g cap j, v = .slice (some ⟨g, 0, none⟩) (j + 1) cap ∧ L.length = j + 1 ∧ (∀ k i : Nat, L[k]? = some i → w.cell? ⟨g, k, none⟩ = some (.int .i64 i)) := by
  rcases h with ⟨rfl, rfl⟩ | ⟨g, cap, rfl, _, hc⟩
  · exact .inl ⟨_, _, rfl, rfl⟩
  · cases L with
    | nil => exact .inl ⟨_, _, rfl, rfl⟩
    | cons a l => exact .inr ⟨g, cap, l.length, rfl, rfl, hc⟩

set_option maxRecDepth 100000 in
set_option maxHeartbeats 1000000 in
theorem wordFirst_any (x y : Int) (hx0 : 0 ≤ x) (hx1 : x ≤ 18446744073709551615) (hy0 : 0 ≤ y) (hy1 : y ≤ 255) (w : World) (hT : TabB w) (hp : 0 < w.heap.size) :
    Calls Tryd.prog 7 #[.int .u64 x, .int .u8 y] w fun e w' => e = .returned (.bool true) ∧ Below w.heap.size w w' := by
  obtain ⟨X, rfl⟩ := Int.eq_ofNat_of_zero_le hx0
  have hX : X < 18446744073709551616 := by omega
  obtain ⟨T, eT⟩ : ∃ T, y % 70 = T := ⟨_, rfl⟩
  have T0 : 0 ≤ T := by omega
  have T1 : T < 70 := by omega
  have hlen := places_length X
  have tk := fun (W : World) (h : Below w.heap.size w W) => hT.kept (h.block 0 hp)
  have sz := fun (W : World) (h : Below w.heap.size w W) => Nat.lt_of_lt_of_le hp h.size
  have aw := Lib.hid (fun (W : World) (h : Below w.heap.size w W) => awake1 W (tk W h) (sz W h))
  have hF := firstN_lt X T
  have hY : X &&& compl (firstN X T) < 18446744073709551616 := Nat.lt_of_le_of_lt Nat.and_le_left hX
  have first := Lib.hid (first_any X hX T (by omega) (by omega) w hT hp)
  have hz : bits .andNot .u64 (firstN X T : Int) (X : Int) = 0 := by
    rw [u64_andNot_nat _ X hF hX]; exact congrArg (fun n : Nat => (n : Int)) (first_in hX T)
  have hy : bits .andNot .u64 (X : Int) (firstN X T : Int) = ((X &&& compl (firstN X T) : Nat) : Int) := u64_andNot_nat X _ hX hF
  have cF := Lib.hid (count_any _ hF)
  have cX := Lib.hid (count_any X hX)
  have pY := Lib.hid (fun (W : World) (h : Below w.heap.size w W) => places_any _ hY W (tk W h) (sz W h))
  have pF := Lib.hid (fun (W : World) (h : Below w.heap.size w W) => places_any _ hF W (tk W h) (sz W h))
  have e1 : places (firstN X T) = (places X).take T.toNat := places_first T
  have e2 := places_rest hX T
  have hr := places_rising X
  rw [← List.take_append_drop T.toNat (places X)] at hr
  have hsep := (List.pairwise_append.1 hr).2.2
  obtain ⟨F, eF⟩ : ∃ F, firstN X T = F := ⟨_, rfl⟩
  rw [eF] at first hz hy cF pY pF e1 e2
  obtain ⟨Y, eY⟩ : ∃ Y, X &&& compl F = Y := ⟨_, rfl⟩
  rw [eY] at hy pY e2
  obtain ⟨had, eh⟩ : ∃ l, (places X).take T.toNat = l := ⟨_, rfl⟩
  obtain ⟨left, el⟩ : ∃ l, (places X).drop T.toNat = l := ⟨_, rfl⟩
  have hl1 : had.length = min T.toNat (places X).length := by rw [← eh, List.length_take]
  rw [e1, eh] at cF pF
  rw [e2, el] at pY
  rw [eh, el] at hsep
  obtain ⟨n, en⟩ : ∃ n, (places X).length = n := ⟨_, rfl⟩
  rw [en] at cX hlen hl1
  obtain ⟨m, em⟩ : ∃ m, had.length = m := ⟨_, rfl⟩
  rw [em] at cF hl1
  have Em := Lib.hid em
  have hm : (T ≤ n ∧ ((m : Int) != T) = false) ∨ (¬ T ≤ n ∧ ((m : Int) != n) = false) := by
    by_cases h : T ≤ n
    · exact .inl ⟨h, by simp; omega⟩
    · exact .inr ⟨h, by simp; omega⟩
  have hmb : m ≤ 64 := by omega
  clear em hl1
  have Hsep := Lib.hid hsep
  clear hx0 hx1 hX hF hY e1 e2 hr hsep eF eY eh el en tk sz
  rcases hm with ⟨hm1, hm2⟩ | ⟨hm1, hm2⟩
  all_goals
    go_enter Tryd.func7, Tryd.ntmps7
    go_wp2_with fail
    refine first.out.mono ?_
    rintro e w1 ⟨rfl, hb1⟩
    go_wp2_with fail
    refine (cF.out _).mono ?_
    rintro e w2 ⟨rfl, rfl⟩
    go_wp2_with fail
    refine (cX.out _).mono ?_
    rintro e w2 ⟨rfl, rfl⟩
    go_wp2_with fail
    refine (pY.out _ hb1).mono ?_
    rintro e w2 ⟨⟨v2, rfl, ho2⟩, hb2⟩
    have hb12 := below_trans hb1 hb2
    go_wp2_with fail
    refine (pF.out _ hb12).mono ?_
    rintro e w3 ⟨⟨v3, rfl, ho3⟩, hb3⟩
    have hb13 := below_trans hb12 hb3
    have i2 := (ints_of_owns ho2).below hb3
    have i3 := ints_of_owns ho3
    clear ho2 ho3
    rcases ints_shape i2 with ⟨a2, c2, rfl, l2⟩ | ⟨g2, c2, j2, rfl, l2, k2⟩
    · clear i2 i3 l2
      go_wp2
      refine wp_region_later (by kernel_rfl) (by kernel_rfl) ?_
      repeat (first | go_big_quiet_skip | (go_big_quiet_want; go_big_quiet_op; first | go_big_quiet_on | (apply Exists.intro; refine ⟨fun _ => ?_, ?_⟩; (focus (go_at_call 15; exact later_call (aw.out _ (below_trans hb13 (Later.below _))))); go_big_quiet_on)))
      refine wpQuiet_nil ?_
      rintro _ ⟨z, rfl⟩
      go_wp2
      go_ret
      exact ⟨rfl, below_trans hb13 z.below⟩
    · have q2 : ((j2 : Int) + 1 == 0) = false := by simp; omega
      rcases ints_shape i3 with ⟨a3, c3, rfl, l3⟩ | ⟨g3, c3, j3, rfl, l3, k3⟩
      · clear i2 i3 l2 l3 k2
        go_wp2
        refine wp_region_later (by kernel_rfl) (by kernel_rfl) ?_
        repeat (first | go_big_quiet_skip | (go_big_quiet_want; go_big_quiet_op; first | go_big_quiet_on | (apply Exists.intro; refine ⟨fun _ => ?_, ?_⟩; (focus (go_at_call 15; exact later_call (aw.out _ (below_trans hb13 (Later.below _))))); go_big_quiet_on)))
        refine wpQuiet_nil ?_
        rintro _ ⟨z, rfl⟩
        go_wp2
        go_ret
        exact ⟨rfl, below_trans hb13 z.below⟩
      · have q3 : ((j3 : Int) + 1 == 0) = false := by simp; omega
        have hj3 : j3 < 64 := by have := Em.out; omega
        obtain ⟨p, hp1⟩ : ∃ p, had[j3]? = some p := ⟨_, List.getElem?_eq_getElem (by omega)⟩
        obtain ⟨q, hq1⟩ : ∃ q, left[0]? = some q := ⟨_, List.getElem?_eq_getElem (by omega)⟩
        have hpq := Hsep.out p (List.mem_of_getElem? hp1) q (List.mem_of_getElem? hq1)
        have m1 : ∀ x : Later w3, x.to.cell? ⟨g3, j3, none⟩ = some (.int .i64 p) := fun x => by
          have := k3 j3 p hp1
          rw [Later.cell x (cell_block_lt this)]; exact this
        have m2 : ∀ x : Later w3, x.to.cell? ⟨g2, 0, none⟩ = some (.int .i64 q) := fun x => by
          have := k2 0 q hq1
          rw [Later.cell x (cell_block_lt this)]; exact this
        have d4 : decide ((p : Int) < q) = true := decide_eq_true (by omega)
        clear i2 i3 l2 l3 k2 k3 hp1 hq1
        go_wp2
        refine wp_region_later (by kernel_rfl) (by kernel_rfl) ?_
        repeat (first | go_big_quiet_skip | (go_big_quiet_want; go_big_quiet_op; first | go_big_quiet_on | (apply Exists.intro; refine ⟨fun _ => ?_, ?_⟩; (focus (go_at_call 15; exact later_call (aw.out _ (below_trans hb13 (Later.below _))))); go_big_quiet_on)))
        refine wpQuiet_nil ?_
        rintro _ ⟨z, rfl⟩
        go_wp2
        go_ret
        exact ⟨rfl, below_trans hb13 z.below⟩
end Go.Proofs.YtjgadfeplaiclaaDoor
