/-
  The contracts of the document's classes.
-/
import Derived.Test.YtomheapokfphiaaDoorRow
namespace Go.Proofs.YtomheapokfphiaaDoor
open Go.RowKit

theorem index3_0 (x0 x1 x2 : Value) (w : World) : (Instr.index 56 (.agg #[x0, x1, x2]) (.int .i64 0)).run Tryd.prog w = .ok x0 w := by kernel_rfl
theorem index3_1 (x0 x1 x2 : Value) (w : World) : (Instr.index 56 (.agg #[x0, x1, x2]) (.int .i64 1)).run Tryd.prog w = .ok x1 w := by kernel_rfl
theorem index3_2 (x0 x1 x2 : Value) (w : World) : (Instr.index 56 (.agg #[x0, x1, x2]) (.int .i64 2)).run Tryd.prog w = .ok x2 w := by kernel_rfl

theorem Tab.below {w w' : World} (h : Tab w) (hb : Below w.heap.size w w') : Tab w' :=
  ⟨fun c hc => by rw [hb.cell (p := ⟨0, c * 2, none⟩) h.pos]; exact h.bytes c hc, fun c hc => by rw [hb.cell (p := ⟨0, c * 2 + 1, none⟩) h.pos]; exact h.pages c hc, Nat.lt_of_lt_of_le h.pos hb.size⟩
theorem below_trans {a b c : World} (h : Below a.heap.size a b) (k : Below b.heap.size b c) : Below a.heap.size a c := h.trans (k.mono h.size)

set_option maxHeartbeats 400000 in
theorem rsize_in (c : Nat) (h : c < 15) (w : World) : Calls Tryd.prog 21 #[.int .i64 c] w fun e w' => e = .returned (.int .i64 (sz c)) ∧ Below w.heap.size w w' := by
  have hi := index3_0
  go_enter Tryd.func21, Tryd.ntmps21
  go_wp2_with fail
  refine (row_in c h _).mono ?_
  unfold rowV
  rintro e w' ⟨rfl, hb⟩
  go_wp2
  go_ret
  exact ⟨rfl, hb⟩

set_option maxHeartbeats 400000 in
theorem rsize_out (c : Int) (h : c < 0 ∨ 15 ≤ c) (w : World) : Calls Tryd.prog 21 #[.int .i64 c] w fun e w' => e = .returned (.int .i64 0) ∧ Below w.heap.size w w' := by
  have hi := index3_0
  go_enter Tryd.func21, Tryd.ntmps21
  go_wp2_with fail
  refine (row_out c h _).mono ?_
  rintro e w' ⟨rfl, hb⟩
  go_wp2
  go_ret
  exact ⟨rfl, hb⟩

set_option maxHeartbeats 400000 in
theorem rpages_in (c : Nat) (h : c < 15) (w : World) : Calls Tryd.prog 22 #[.int .i64 c] w fun e w' => e = .returned (.int .i64 (pg c)) ∧ Below w.heap.size w w' := by
  have hi := index3_1
  go_enter Tryd.func22, Tryd.ntmps22
  go_wp2_with fail
  refine (row_in c h _).mono ?_
  unfold rowV
  rintro e w' ⟨rfl, hb⟩
  go_wp2
  go_ret
  exact ⟨rfl, hb⟩

set_option maxHeartbeats 400000 in
theorem rpages_out (c : Int) (h : c < 0 ∨ 15 ≤ c) (w : World) : Calls Tryd.prog 22 #[.int .i64 c] w fun e w' => e = .returned (.int .i64 0) ∧ Below w.heap.size w w' := by
  have hi := index3_1
  go_enter Tryd.func22, Tryd.ntmps22
  go_wp2_with fail
  refine (row_out c h _).mono ?_
  rintro e w' ⟨rfl, hb⟩
  go_wp2
  go_ret
  exact ⟨rfl, hb⟩

set_option maxHeartbeats 400000 in
theorem rslots_in (c : Nat) (h : c < 15) (w : World) : Calls Tryd.prog 24 #[.int .i64 c] w fun e w' => e = .returned (.int .i64 (slR.getD c 0)) ∧ Below w.heap.size w w' := by
  have hi := index3_2
  go_enter Tryd.func24, Tryd.ntmps24
  go_wp2_with fail
  refine (row_in c h _).mono ?_
  unfold rowV
  rintro e w' ⟨rfl, hb⟩
  go_wp2
  go_ret
  exact ⟨rfl, hb⟩

set_option maxHeartbeats 400000 in
theorem rslots_out (c : Int) (h : c < 0 ∨ 15 ≤ c) (w : World) : Calls Tryd.prog 24 #[.int .i64 c] w fun e w' => e = .returned (.int .i64 0) ∧ Below w.heap.size w w' := by
  have hi := index3_2
  go_enter Tryd.func24, Tryd.ntmps24
  go_wp2_with fail
  refine (row_out c h _).mono ?_
  rintro e w' ⟨rfl, hb⟩
  go_wp2
  go_ret
  exact ⟨rfl, hb⟩

set_option maxHeartbeats 400000 in
theorem rof_neg (s : Int) (h : s < 0) (w : World) : Calls Tryd.prog 20 #[.int .i64 s] w fun e w' => e = .returned (.tuple #[.int .i64 0, .int .i64 0, .bool false]) ∧ Below w.heap.size w w' := by
  go_enter Tryd.func20, Tryd.ntmps20
  go_wp2
  go_ret3
  exact ⟨rfl, Below.refl _ _⟩

set_option maxHeartbeats 400000 in
theorem rof_small (s : Int) (c : Nat) (h : InClass s c) (w : World) : Calls Tryd.prog 20 #[.int .i64 s] w fun e w' => e = .returned (.tuple #[.int .i64 c, .int .i64 (pg c), .bool true]) ∧ Below w.heap.size w w' := by
  have h0 := h.nat
  have hlt := h.lt
  go_enter Tryd.func20, Tryd.ntmps20
  go_wp2
  go_loopw [5] (fun i wr => ∃ k : Nat, k ≤ c ∧ i = .int .i64 k ∧ Below w.heap.size w wr) (fun i _ => c - (intOf i).toNat)
  case atStart => exact ⟨0, Nat.zero_le _, rfl, Below.refl _ _⟩
  case round =>
    obtain ⟨k, hk, rfl, hb⟩ := hrel
    by_cases hlt' : k < c
    · have hm := h.least k hlt'
      clear h
      go_wp2_with fail
      refine (rsize_in k (by omega) _).mono ?_
      rintro e w1 ⟨rfl, hb1⟩
      go_wp2
      go_roundw
      case rel => exact ⟨k + 1, by omega, by go_num, below_trans hb hb1⟩
      case measure => simp [intOf]; omega
    · obtain rfl : k = c := by omega
      have hf := h.fits
      clear h
      go_wp2_with fail
      refine (rsize_in k (by omega) _).mono ?_
      rintro e w1 ⟨rfl, hb1⟩
      go_wp2_with fail
      refine (rpages_in k (by omega) _).mono ?_
      rintro e w2 ⟨rfl, hb2⟩
      go_wp2
      go_ret3
      exact ⟨rfl, below_trans (below_trans hb hb1) hb2⟩

theorem up_eq (s : Int) : (s - 1) / 8192 + 1 = if s / 8192 * 8192 < s then s / 8192 + 1 else s / 8192 := by
  split <;> omega

set_option maxHeartbeats 400000 in
theorem rof_large (s : Int) (h : 12288 < s) (hs : s ≤ 9223372036854775807) (w : World) : Calls Tryd.prog 20 #[.int .i64 s] w fun e w' => e = .returned (.tuple #[.int .i64 14, .int .i64 ((s - 1) / 8192 + 1), .bool true]) ∧ Below w.heap.size w w' := by
  have hu := Lib.hid (up_eq s)
  go_enter Tryd.func20, Tryd.ntmps20
  go_wp2
  go_loopw [5] (fun i wr => ∃ k : Nat, k ≤ 14 ∧ i = .int .i64 k ∧ Below w.heap.size w wr) (fun i _ => 14 - (intOf i).toNat)
  case atStart => exact ⟨0, Nat.zero_le _, rfl, Below.refl _ _⟩
  case round =>
    obtain ⟨k, hk, rfl, hb⟩ := hrel
    by_cases hlt' : k < 14
    · have hm := (sz_bd k hlt').2
      go_wp2_with fail
      refine (rsize_in k (by omega) _).mono ?_
      rintro e w1 ⟨rfl, hb1⟩
      go_wp2
      go_roundw
      case rel => exact ⟨k + 1, by omega, by go_num, below_trans hb hb1⟩
      case measure => simp [intOf]; omega
    · by_cases hd : s / 8192 * 8192 < s
      all_goals
        go_wp2
        go_ret3
        refine ⟨?_, hb⟩
        rw [hu.out]
        first
        | (rw [if_pos hd]; rfl)
        | (rw [if_neg (Int.not_lt.2 hd)]; rfl)

/-- What Of tells, and Size, Pages, Slots: one contract each, of any number. -/
def clsV (s : Int) (r : Int × Int × Bool) : Prop :=
  (s < 0 ∧ r = (0, 0, false)) ∨ (∃ c : Nat, InClass s c ∧ r = ((c : Int), pg c, true)) ∨ (12288 < s ∧ r = (14, (s - 1) / 8192 + 1, true))
theorem cls_ex (s : Int) : ∃ r, clsV s r := by
  rcases three s with h | ⟨c, h⟩ | h
  · exact ⟨_, .inl ⟨h, rfl⟩⟩
  · exact ⟨_, .inr (.inl ⟨c, h, rfl⟩)⟩
  · exact ⟨_, .inr (.inr ⟨h, rfl⟩)⟩
theorem of_any (s : Int) (r : Int × Int × Bool) (h : clsV s r) (hs : s ≤ 9223372036854775807) (w : World) (hT : Tab w) : Calls Tryd.prog 16 #[.int .i64 s] w fun e w' => e = .returned (.tuple #[.int .i64 r.1, .int .i64 r.2.1, .bool r.2.2]) ∧ Below w.heap.size w w' := by
  have q : ∀ {w' : World}, (∃ n, w' = w.drewN n) → Below w.heap.size w w' := fun ⟨n, h⟩ => by subst h; exact ⟨rfl, rfl, rfl, Nat.le_refl _, fun _ _ => rfl⟩
  rcases h with ⟨h, rfl⟩ | ⟨c, h, rfl⟩ | ⟨h, rfl⟩
  · exact (of_neg s h w).mono fun e w' h => ⟨h.1, q h.2⟩
  · exact (of_small s c h w hT).mono fun e w' h => ⟨h.1, q h.2⟩
  · exact (of_large s h hs w hT).mono fun e w' h => ⟨h.1, q h.2⟩
theorem rof_any (s : Int) (r : Int × Int × Bool) (h : clsV s r) (hs : s ≤ 9223372036854775807) (w : World) : Calls Tryd.prog 20 #[.int .i64 s] w fun e w' => e = .returned (.tuple #[.int .i64 r.1, .int .i64 r.2.1, .bool r.2.2]) ∧ Below w.heap.size w w' := by
  rcases h with ⟨h, rfl⟩ | ⟨c, h, rfl⟩ | ⟨h, rfl⟩
  · exact rof_neg s h w
  · exact rof_small s c h w
  · exact rof_large s h hs w

theorem size_any (c : Int) (w : World) (hT : Tab w) : Calls Tryd.prog 18 #[.int .i64 c] w fun e w' => e = .returned (.int .i64 (szI c)) ∧ w = w' := by
  rcases in_or_out c 14 with ⟨k, rfl, h⟩ | h
  · rw [szI_nat]; exact size_yes k h w hT
  · rw [szI_out c h]; exact size_no c h w
theorem pages_any (c : Int) (w : World) (hT : Tab w) : Calls Tryd.prog 19 #[.int .i64 c] w fun e w' => e = .returned (.int .i64 (pgI c)) ∧ w = w' := by
  rcases in_or_out c 14 with ⟨k, rfl, h⟩ | h
  · rw [pgI_nat]; exact pages_yes k h w hT
  · rw [pgI_out c h]; exact pages_no c h w
theorem slots_any (c : Int) (w : World) (hT : Tab w) : Calls Tryd.prog 23 #[.int .i64 c] w fun e w' => e = .returned (.int .i64 (slI c)) ∧ Below w.heap.size w w' := by
  have q : ∀ {w' : World}, (∃ n, w' = w.drewN n) → Below w.heap.size w w' := fun ⟨n, h⟩ => by subst h; exact ⟨rfl, rfl, rfl, Nat.le_refl _, fun _ _ => rfl⟩
  rcases in_or_out c 14 with ⟨k, rfl, h⟩ | h
  · rw [slI_nat k h]; exact (slots_yes k h w hT).mono fun e w' h => ⟨h.1, q h.2⟩
  · by_cases e : c = 14
    · subst e; exact (slots_large w).mono fun e w' h => ⟨h.1, q ⟨0, h.2.symm⟩⟩
    · rw [slI_out c (by omega)]; exact (slots_no c (by omega) w).mono fun e w' h => ⟨h.1, q ⟨0, h.2.symm⟩⟩
theorem rsize_any (c : Int) (w : World) : Calls Tryd.prog 21 #[.int .i64 c] w fun e w' => e = .returned (.int .i64 (szI c)) ∧ Below w.heap.size w w' := by
  rcases in_or_out c 15 with ⟨k, rfl, h⟩ | h
  · rw [szI_nat]; exact rsize_in k h w
  · rw [szI_out c (by omega)]; exact rsize_out c h w
theorem rpages_any (c : Int) (w : World) : Calls Tryd.prog 22 #[.int .i64 c] w fun e w' => e = .returned (.int .i64 (pgI c)) ∧ Below w.heap.size w w' := by
  rcases in_or_out c 15 with ⟨k, rfl, h⟩ | h
  · rw [pgI_nat]; exact rpages_in k h w
  · rw [pgI_out c (by omega)]; exact rpages_out c h w
theorem rslots_any (c : Int) (w : World) : Calls Tryd.prog 24 #[.int .i64 c] w fun e w' => e = .returned (.int .i64 (slI c)) ∧ Below w.heap.size w w' := by
  rcases in_or_out c 15 with ⟨k, rfl, h⟩ | h
  · have : slI k = slR.getD k 0 := by simp [slI]
    rw [this]; exact rslots_in k h w
  · rw [slI_out c h]; exact rslots_out c h w
theorem awake4_any (w : World) (hT : Tab w) : Calls Tryd.prog 17 #[] w fun e w' => e = .returned (.bool true) ∧ Below w.heap.size w w' := by
  refine (awake4 w hT).mono fun e w' h => ⟨h.1, ?_⟩
  obtain ⟨_, n, rfl⟩ := h
  exact ⟨rfl, rfl, rfl, Nat.le_refl _, fun _ _ => rfl⟩

set_option maxHeartbeats 400000 in
theorem all4_any (c s : Int) (_ : -9223372036854775808 ≤ c) (_ : c ≤ 9223372036854775807) (_ : -9223372036854775808 ≤ s) (hs : s ≤ 9223372036854775807) (w : World) (hT : Tab w) : Calls Tryd.prog 4 #[.int .i64 c, .int .i64 s] w fun e w' => e = .returned (.bool true) ∧ Below w.heap.size w w' := by
  obtain ⟨⟨a, n, ok⟩, hr⟩ := cls_ex s
  go_enter Tryd.func4, Tryd.ntmps4
  go_wp2_with fail
  refine (of_any s _ hr hs _ hT).mono ?_
  rintro e w1 ⟨rfl, hb1⟩
  have hT1 := hT.below hb1
  go_wp2_with fail
  refine (rof_any s _ hr hs _).mono ?_
  rintro e w2 ⟨rfl, hb2⟩
  have hT2 := hT1.below hb2
  cases ok
  all_goals
    go_wp2_with fail
    refine (size_any c _ hT2).mono ?_
    rintro e w2' ⟨rfl, rfl⟩
    go_wp2_with fail
    refine (rsize_any c _).mono ?_
    rintro e w3 ⟨rfl, hb3⟩
    have hT3 := hT2.below hb3
    go_wp2_with fail
    refine (pages_any c _ hT3).mono ?_
    rintro e w3' ⟨rfl, rfl⟩
    go_wp2_with fail
    refine (rpages_any c _).mono ?_
    rintro e w4 ⟨rfl, hb4⟩
    have hT4 := hT3.below hb4
    go_wp2_with fail
    refine (slots_any c _ hT4).mono ?_
    rintro e w5 ⟨rfl, hb5⟩
    have hT5 := hT4.below hb5
    go_wp2_with fail
    refine (rslots_any c _).mono ?_
    rintro e w6 ⟨rfl, hb6⟩
    have hT6 := hT5.below hb6
    go_wp2_with fail
    refine (awake4_any _ hT6).mono ?_
    rintro e w7 ⟨rfl, hb7⟩
    go_wp2
    go_ret
    exact ⟨rfl, below_trans (below_trans (below_trans (below_trans (below_trans (below_trans hb1 hb2) hb3) hb4) hb5) hb6) hb7⟩
end Go.Proofs.YtomheapokfphiaaDoor
