/-
  The laws of layer 1, walked: WordNth, WordFirst.
-/
import Derived.Test.YtjgadfeplaiclaaDoorCount
namespace Go.Proofs.YtjgadfeplaiclaaDoor
open Go.RowKit

/-- A slice of integers that reads as L. -/
def IntsAt (w : World) (v : Value) (L : List Nat) : Prop :=
  (v = .slice none 0 0 ∧ L = []) ∨ ∃ g cap, v = .slice (some ⟨g, 0, none⟩) L.length cap ∧ g < w.heap.size ∧ ∀ (j i : Nat), L[j]? = some i → w.cell? ⟨g, j, none⟩ = some (.int .i64 i)
theorem IntsAt.below {w w' : World} {v : Value} {L : List Nat} (h : IntsAt w v L) (hb : Below w.heap.size w w') : IntsAt w' v L := by
  rcases h with h | ⟨g, cap, rfl, hg, hc⟩
  · exact .inl h
  · exact .inr ⟨g, cap, rfl, Nat.lt_of_lt_of_le hg hb.size, fun j i hi => by rw [hb.cell (p := ⟨g, j, none⟩) hg]; exact hc j i hi⟩
theorem ints_of_owns {w : World} {n : Nat} {v : Value} {L : List Nat} (h : w.ownsRow n 3 1 v L.length (L.map intV)) : IntsAt w v L := by
  rcases h.2 with ⟨rfl, h0⟩ | ⟨g, cap, cur, rfl, hg, hh, _⟩
  · exact .inl ⟨rfl, by simpa using h0⟩
  · refine .inr ⟨g, cap, rfl, (Array.getElem?_eq_some_iff.1 hh).1, fun j i hi => ?_⟩
    rw [World.ownsRow.cellAt h j (by have := (List.getElem?_eq_some_iff.1 hi).1; omega), List.getElem?_map, hi]
    rfl

theorem orL_all {x : Nat} (hx : x < 18446744073709551616) : orL ((places x).take (places x).length) = x := by rw [List.take_length, orL_places hx]

set_option maxHeartbeats 2000000 in
theorem wordNth_any (x : Int) (hx0 : 0 ≤ x) (hx1 : x ≤ 18446744073709551615) (w : World) (hT : TabB w) (hp : 0 < w.heap.size) :
    Calls Tryd.prog 6 #[.int .u64 x] w fun e w' => e = .returned (.bool true) ∧ Below w.heap.size w w' := by
  obtain ⟨X, rfl⟩ := Int.eq_ofNat_of_zero_le hx0
  have hX : X < 18446744073709551616 := by omega
  have hlen := places_length X
  have hcnt := Lib.hid (count_any X hX)
  have hnth := Lib.hid (fun (k : Int) (h0 : -9223372036854775808 ≤ k) (h1 : k ≤ 9223372036854775807) (r : Int × Bool) (hr : NthV X k r) (W : World) (hb : Below w.heap.size w W) =>
    nth_any X hX k h0 h1 r hr W (hT.kept (hb.block 0 hp)) (Nat.lt_of_lt_of_le hp hb.size))
  have aw := Lib.hid (fun (W : World) (h : Below w.heap.size w W) => awake1 W (hT.kept (h.block 0 hp)) (Nat.lt_of_lt_of_le hp h.size))
  have hall := Lib.hid (orL_all hX)
  have hris := Lib.hid (places_rising X)
  have hmem := Lib.hid (fun i (h : i ∈ places X) => places_lt h)
  have hpl := Lib.hid (places_any X hX w hT hp)
  obtain ⟨L, eL⟩ : ∃ L, places X = L := ⟨_, rfl⟩
  have HX := Lib.hid hX
  clear hx0 hx1 hX
  have hnv : ∀ k r, NthV X k r = NthV X k r := fun _ _ => rfl
  rw [eL] at hlen hcnt hall hris hmem hpl
  have EL := Lib.hid eL
  clear eL hnv
  go_enter Tryd.func6, Tryd.ntmps6
  go_wp2_with fail
  refine hpl.out.mono ?_
  rintro e w1 ⟨⟨v, rfl, ho⟩, hb1⟩
  have hI := ints_of_owns ho
  clear ho
  have hlenv : ∃ a cap, v = .slice a L.length cap := by
    rcases hI with ⟨rfl, rfl⟩ | ⟨g, cap, rfl, _⟩
    · exact ⟨_, _, rfl⟩
    · exact ⟨_, _, rfl⟩
  obtain ⟨ad, cap, rfl⟩ := hlenv
  go_wp2_with fail
  refine (hcnt.out _).mono ?_
  rintro e w2 ⟨rfl, rfl⟩
  go_wp2_with fail
  go_loopw [4, 5] (fun q i wr => ∃ k : Nat, k ≤ L.length ∧ i = .int .i64 k ∧ q = .int .u64 (orL (L.take k) : Nat) ∧ Below w.heap.size w wr ∧ IntsAt wr (.slice ad L.length cap) L) (fun _ i _ => L.length - (intOf i).toNat)
  case atStart => exact ⟨0, Nat.zero_le _, rfl, rfl, hb1, hI⟩
  case round =>
    obtain ⟨k, hk, rfl, rfl, hb, hIr⟩ := hrel
    by_cases hlt : k < L.length
    · rcases hIr with ⟨h, h0⟩ | ⟨g, cap', hv, hg, hc⟩
      · rw [h0] at hlt; exact absurd hlt (by simp)
      obtain ⟨rfl, rfl⟩ : ad = some ⟨g, 0, none⟩ ∧ cap = cap' := by cases hv; exact ⟨rfl, rfl⟩
      obtain ⟨i, hi⟩ : ∃ i, L[k]? = some i := ⟨_, List.getElem?_eq_getElem hlt⟩
      have hi64 : i < 64 := hmem.out i (List.mem_of_getElem? hi)
      have hnk : NthV X k ((i : Int), true) := .inl ⟨i, by omega, by rw [EL.out, Int.toNat_natCast]; exact hi, rfl⟩
      have Hnk := Lib.hid hnk
      obtain ⟨a, ea⟩ : ∃ a, orL (L.take k) = a := ⟨_, rfl⟩
      have hnx : orL (L.take (k + 1)) = a ||| 2 ^ i := by rw [List.take_add_one, hi, ← ea]; exact orL_snoc _ _
      have ha : a < 18446744073709551616 := by rw [← ea, ← EL.out]; exact orL_take_lt X k
      have hor := u64_or_pow a i ha hi64
      rw [ea]
      have Hnx := Lib.hid hnx
      have Hor := Lib.hid hor
      have Hi := Lib.hid hi
      clear hnk ea hnx ha hor hv hi
      have hIw : ∀ (w3 : World), Below wr.heap.size wr w3 → ∀ nq, Below w.heap.size w (w3.drewN nq) ∧ IntsAt (w3.drewN nq) (.slice (some ⟨g, 0, none⟩) L.length cap) L := fun w3 hb3 nq =>
        ⟨below_trans hb ⟨hb3.os, hb3.tape, hb3.output, hb3.size, hb3.block⟩, IntsAt.below (.inr ⟨g, cap, rfl, hg, hc⟩) ⟨hb3.os, hb3.tape, hb3.output, hb3.size, hb3.block⟩⟩
      have HIw := Lib.hid hIw
      have Hc := Lib.hid hc
      have Hg := Lib.hid hg
      have Hb := Lib.hid hb
      clear hIw hc hg hb
      have d1 : decide ((i : Int) < 0) = false := decide_eq_false (by omega)
      have d2 : decide (63 < (i : Int)) = false := decide_eq_false (by omega)
      have d3 : ((i : Int) != i) = false := by simp
      rcases Nat.eq_zero_or_pos k with rfl | hpos
      · go_wp2_with fail
        refine (hnth.out _ (by omega) (by omega) _ Hnk.out _ Hb.out).mono ?_
        rintro e w3 ⟨rfl, hb3⟩
        have hc0 : w3.cell? ⟨g, 0, none⟩ = some (.int .i64 i) := by rw [hb3.cell (p := ⟨g, 0, none⟩) Hg.out]; exact Hc.out 0 i Hi.out
        have Hb3 := Lib.hid hb3
        clear hb3
        go_wp2
        go_quiet (fail)
        go_wp2
        go_roundw
        case rel => exact ⟨0 + 1, hlt, rfl, by rw [Hor.out, Hnx.out], (HIw.out _ Hb3.out _).1, (HIw.out _ Hb3.out _).2⟩
        case measure => simp [intOf]; omega
      · obtain ⟨m, rfl⟩ : ∃ m, k = m + 1 := ⟨k - 1, by omega⟩
        obtain ⟨j, hj⟩ : ∃ j, L[m]? = some j := ⟨_, List.getElem?_eq_getElem (by omega)⟩
        have hji : j < i := by
          have h1 := (List.getElem?_eq_some_iff.1 hj)
          have h2 := (List.getElem?_eq_some_iff.1 Hi.out)
          have := List.pairwise_iff_getElem.1 hris.out m (m + 1) (by omega) (by omega) (by omega)
          rw [h1.2, h2.2] at this
          exact this
        have d4 : decide ((i : Int) ≤ j) = false := decide_eq_false (by omega)
        have Hj := Lib.hid hj
        clear hj
        go_wp2_with fail
        refine (hnth.out _ (by omega) (by omega) _ Hnk.out _ Hb.out).mono ?_
        rintro e w3 ⟨rfl, hb3⟩
        have hc0 : w3.cell? ⟨g, m + 1, none⟩ = some (.int .i64 i) := by rw [hb3.cell (p := ⟨g, m + 1, none⟩) Hg.out]; exact Hc.out (m + 1) i Hi.out
        have hc1 : w3.cell? ⟨g, m, none⟩ = some (.int .i64 j) := by rw [hb3.cell (p := ⟨g, m, none⟩) Hg.out]; exact Hc.out m j Hj.out
        have Hb3 := Lib.hid hb3
        clear hb3
        go_wp2
        go_quiet (fail)
        go_wp2
        go_roundw
        case rel => exact ⟨m + 1 + 1, hlt, by go_num, by rw [Hor.out, Hnx.out], (HIw.out _ Hb3.out _).1, (HIw.out _ Hb3.out _).2⟩
        case measure => simp [intOf]; omega
    · obtain rfl : k = L.length := by omega
      have hnk : NthV X L.length (0, false) := .inr ⟨.inr (by rw [EL.out]; omega), rfl⟩
      rw [hall.out]
      have Hnk := Lib.hid hnk
      have hbs := Lib.hid hb
      clear hnk hb hIr
      go_wp2_with fail
      refine (hnth.out _ (by omega) (by omega) _ Hnk.out _ hbs.out).mono ?_
      rintro e w3 ⟨rfl, hb3⟩
      have hb4 := below_trans hbs.out hb3
      go_wp2_with fail
      refine (aw.out _ hb4).mono ?_
      rintro e w4 ⟨rfl, hb5⟩
      go_wp2
      go_ret
      exact ⟨rfl, below_trans hb4 hb5⟩
end Go.Proofs.YtjgadfeplaiclaaDoor
