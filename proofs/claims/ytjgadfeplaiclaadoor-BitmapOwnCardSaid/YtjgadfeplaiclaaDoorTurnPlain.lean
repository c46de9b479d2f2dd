/-
  A list of words in new memory that is written; bits turned: plain.
-/
import Derived.Test.YtjgadfeplaiclaaDoorSmall
namespace Go.Proofs.YtjgadfeplaiclaaDoor
open Go Go.RowKit Go.Shelf

/-- n words from the first cell of block g on: each as f says; none is frozen. -/
def RowAt (W : World) (g n : Nat) (f : Nat → Nat) : Prop := g < W.heap.size ∧ ∀ j, j < n → W.cell? ⟨g, j, none⟩ = some (.int .u64 (f j)) ∧ W.frozen? ⟨g, j, none⟩ = false
theorem RowAt.kept {W W' : World} {g n : Nat} {f : Nat → Nat} (h : RowAt W g n f) (hs : W.heap.size ≤ W'.heap.size) (hb : W'.heap[g]? = W.heap[g]?) : RowAt W' g n f :=
  ⟨Nat.lt_of_lt_of_le h.1 hs, fun j hj => ⟨(World.cell?_of_block (a := ⟨g, j, none⟩) hb).trans (h.2 j hj).1, (World.frozen?_of_block (a := ⟨g, j, none⟩) hb).trans (h.2 j hj).2⟩⟩
theorem RowAt.set {W : World} {g n : Nat} {f : Nat → Nat} (h : RowAt W g n f) {k : Nat} (hk : k < n) (y : Nat) : RowAt (W.setCell ⟨g, k, none⟩ (.int .u64 y)) g n (fun j => if j = k then y else f j) := by
  refine ⟨by simpa using h.1, fun j hj => ⟨?_, ?_⟩⟩
  · by_cases e : j = k
    · subst e
      simp only [if_true]
      exact World.cell?_setCell_same W _ _ (h.2 j hj).1
    · simp only [if_neg e]
      exact (World.cell?_setCell_other W _ _ _ (fun h => e (by injection h with _ h2 _; exact h2.symm))).trans (h.2 j hj).1
  · rw [World.frozen?_setCell]; exact (h.2 j hj).2
theorem RowAt.congr {W : World} {g n : Nat} {f h : Nat → Nat} (k : RowAt W g n f) (e : ∀ j, j < n → f j = h j) : RowAt W g n h :=
  ⟨k.1, fun j hj => by rw [← e j hj]; exact k.2 j hj⟩
theorem row_of_owns {w : World} {base g cap : Nat} {L : List Nat} (h : w.ownsRow base 22 1 (.slice (some ⟨g, 0, none⟩) L.length cap) L.length (L.map wordV)) : RowAt w g L.length (wAt L) := by
  have hlt : g < w.heap.size := by
    rcases h.2 with ⟨h', _⟩ | ⟨g', cap', cur, h', _, hh, _⟩
    · cases h'
    · cases h'; exact (Array.getElem?_eq_some_iff.1 hh).1
  refine ⟨hlt, fun j hj => ⟨?_, World.ownsRow.frozenAt h j⟩⟩
  rw [World.ownsRow.cellAt h j (by omega), List.getElem?_map, wAt_some hj]
  rfl

/-- A list in memory that is newer than base, and may be written. -/
def NewWords (base : Nat) (W : World) (v : Value) (L : List Nat) : Prop :=
  ∃ ad cap, v = .slice ad L.length cap ∧ (L = [] ∨ ∃ g, ad = some ⟨g, 0, none⟩ ∧ base ≤ g ∧ RowAt W g L.length (wAt L))
theorem new_of_owns {w : World} {base : Nat} {v : Value} {L : List Nat} (h : w.ownsRow base 22 1 v L.length (L.map wordV)) : NewWords base w v L := by
  rcases h.2 with ⟨rfl, h0⟩ | ⟨g, cap, cur, rfl, hg, hh, _⟩
  · exact ⟨none, 0, by rw [h0], .inl (List.length_eq_zero_iff.1 h0)⟩
  · exact ⟨_, _, rfl, .inr ⟨g, rfl, hg, row_of_owns h⟩⟩
theorem NewWords.at {base : Nat} {w : World} {v : Value} {L : List Nat} (h : NewWords base w v L) : WordsAt w v L := by
  obtain ⟨ad, cap, rfl, rfl | ⟨g, rfl, _, hr⟩⟩ := h
  · exact ⟨_, _, rfl, .inl rfl⟩
  · exact ⟨_, _, rfl, .inr ⟨g, rfl, hr.1, fun j x hx => by
      have hj := (List.getElem?_eq_some_iff.1 hx).1
      rw [wAt_some hj] at hx
      cases hx
      exact (hr.2 j hj).1⟩⟩

/-- Word k of a list whose bits from a up to e are turned. -/
def turnW (L : List Nat) (a e : Nat) (on : Bool) (k : Nat) : Nat :=
  if on then (wAt L k &&& compl (maskN a e k)) ||| maskN a e k else wAt L k &&& compl (maskN a e k)
def turnL (L : List Nat) (a e : Nat) (on : Bool) : List Nat := (List.range L.length).map (turnW L a e on)
theorem turnL_length (L : List Nat) (a e : Nat) (on : Bool) : (turnL L a e on).length = L.length := by simp [turnL]
theorem turnL_at {L : List Nat} {a e : Nat} {on : Bool} {k : Nat} (h : k < L.length) : wAt (turnL L a e on) k = turnW L a e on k := by
  unfold wAt turnL
  rw [List.getElem?_map, List.getElem?_range h]
  rfl
theorem turnW_lt {L : List Nat} (hL : Words64 L) (a e : Nat) (on : Bool) (k : Nat) : turnW L a e on k < 18446744073709551616 := by
  have h1 : wAt L k &&& compl (maskN a e k) < 2 ^ 64 := Nat.lt_of_le_of_lt Nat.and_le_left (wAt_lt hL k)
  unfold turnW
  split
  · exact Nat.or_lt_two_pow h1 (maskN_lt a e k)
  · exact h1
theorem turnW_bit {L : List Nat} (a e : Nat) (on : Bool) (k i : Nat) (hi : i < 64) :
    (turnW L a e on k).testBit i = if a ≤ 64 * k + i ∧ 64 * k + i < e then on else (wAt L k).testBit i := by
  have hc := compl_bit (maskN a e k) (maskN_lt a e k) i
  have hm := maskN_bit a e k i
  unfold turnW
  by_cases hr : a ≤ 64 * k + i ∧ 64 * k + i < e
  · cases on <;> simp [Nat.testBit_and, Nat.testBit_or, hc, hm, hi, hr]
  · cases on <;> simp [Nat.testBit_and, Nat.testBit_or, hc, hm, hi, hr]
theorem turnL_bit {L : List Nat} {a e : Nat} {on : Bool} {i : Nat} (h : i < 64 * L.length) : bitL (turnL L a e on) i = if a ≤ i ∧ i < e then on else bitL L i := by
  unfold bitL
  rw [turnL_at (by omega), turnW_bit _ _ _ _ _ (by omega), show 64 * (i / 64) + i % 64 = i by omega]
theorem turnW_out {L : List Nat} (hL : Words64 L) {a e k : Nat} {on : Bool} (h : 64 * k + 64 ≤ a ∨ e ≤ 64 * k ∨ e ≤ a) : turnW L a e on k = wAt L k := by
  refine Nat.eq_of_testBit_eq fun i => ?_
  by_cases hi : i < 64
  · rw [turnW_bit _ _ _ _ _ hi, if_neg (by omega)]
  · have h1 := turnW_lt hL a e on k
    have h2 := wAt_lt hL k
    rw [Nat.testBit_lt_two_pow (Nat.lt_of_lt_of_le h1 (Nat.pow_le_pow_right (show 0 < 2 by decide) (show 64 ≤ i by omega))),
      Nat.testBit_lt_two_pow (Nat.lt_of_lt_of_le h2 (Nat.pow_le_pow_right (show 0 < 2 by decide) (show 64 ≤ i by omega)))]
/-- The words behind j rounds. -/
def turnJ (L : List Nat) (a e : Nat) (on : Bool) (j k : Nat) : Nat := if k < a / 64 + j then turnW L a e on k else wAt L k
theorem turnJ_zero {L : List Nat} (hL : Words64 L) (a e : Nat) (on : Bool) (k : Nat) : turnJ L a e on 0 k = wAt L k := by
  unfold turnJ
  split
  · exact turnW_out hL (by omega)
  · rfl
theorem turnJ_end {L : List Nat} (hL : Words64 L) (a e : Nat) (on : Bool) (k : Nat) : turnJ L a e on (wordsN a e) k = turnW L a e on k := by
  unfold turnJ
  split
  · rfl
  · rename_i h
    rw [turnW_out hL]; unfold wordsN at h; split at h <;> omega
theorem turnJ_now (L : List Nat) (a e : Nat) (on : Bool) (j : Nat) : turnJ L a e on j (a / 64 + j) = wAt L (a / 64 + j) := by
  unfold turnJ; rw [if_neg (by omega)]
theorem turnJ_next (L : List Nat) (a e : Nat) (on : Bool) (j k : Nat) : (if k = a / 64 + j then turnW L a e on (a / 64 + j) else turnJ L a e on j k) = turnJ L a e on (j + 1) k := by
  unfold turnJ
  by_cases h : k = a / 64 + j
  · rw [if_pos h, if_pos (by omega), h]
  · rw [if_neg h]
    by_cases h2 : k < a / 64 + j
    · rw [if_pos h2, if_pos (by omega)]
    · rw [if_neg h2, if_neg (by omega)]
end Go.Proofs.YtjgadfeplaiclaaDoor
