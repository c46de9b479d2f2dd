/-
  A list of words in memory; the contracts of bitmap.Has and bitmap.held.
-/
import Derived.Test.YtjgadfeplaiclaaDoorWords
import Derived.Test.YtjgadfeplaiclaaDoorWordLaws
namespace Go.Proofs.YtjgadfeplaiclaaDoor
open Go Go.RowKit Go.Shelf

/-- A slice of words that reads as L, from its block's first cell on. -/
def WordsAt (w : World) (v : Value) (L : List Nat) : Prop :=
  ∃ ad cap, v = .slice ad L.length cap ∧ (L = [] ∨ ∃ g, ad = some ⟨g, 0, none⟩ ∧ g < w.heap.size ∧ ∀ (j x : Nat), L[j]? = some x → w.cell? ⟨g, j, none⟩ = some (.int .u64 x))
theorem WordsAt.kept {w w' : World} {v : Value} {L : List Nat} (h : WordsAt w v L) (hb : Below w.heap.size w w') : WordsAt w' v L := by
  obtain ⟨ad, cap, rfl, rfl | ⟨g, rfl, hg, hc⟩⟩ := h
  · exact ⟨_, _, rfl, .inl rfl⟩
  · exact ⟨_, _, rfl, .inr ⟨g, rfl, Nat.lt_of_lt_of_le hg hb.size, fun j i hi => by rw [hb.cell (p := ⟨g, j, none⟩) hg]; exact hc j i hi⟩⟩

/-- Word k of a list; behind it: no bit. -/
def wAt (L : List Nat) (k : Nat) : Nat := (L[k]?).getD 0
/-- Bit i of a list. -/
def bitL (L : List Nat) (i : Nat) : Bool := (wAt L (i / 64)).testBit (i % 64)
def hasV (L : List Nat) (i : Int) : Bool := decide (0 ≤ i) && bitL L i.toNat
def heldN (L : List Nat) (n : Int) : Nat := (min (max n 0) (64 * L.length : Nat)).toNat
def Words64 (L : List Nat) : Prop := ∀ x ∈ L, x < 18446744073709551616
theorem wAt_lt {L : List Nat} (h : Words64 L) (k : Nat) : wAt L k < 18446744073709551616 := by
  unfold wAt
  cases e : L[k]? with
  | none => simp
  | some x => exact h x (List.mem_of_getElem? e)
theorem wAt_some {L : List Nat} {k : Nat} (h : k < L.length) : L[k]? = some (wAt L k) := by
  rw [wAt, List.getElem?_eq_getElem h]; rfl
theorem bitL_out {L : List Nat} {i : Nat} (h : 64 * L.length ≤ i) : bitL L i = false := by
  rw [bitL, wAt, List.getElem?_eq_none (by omega)]; simp
theorem hasV_neg {L : List Nat} {i : Int} (h : i < 0) : hasV L i = false := by
  have : ¬ (0 ≤ i) := by omega
  simp [hasV, this]
theorem hasV_nat (L : List Nat) (i : Nat) : hasV L (i : Int) = bitL L i := by simp [hasV]
theorem bit_set {x i : Nat} (hx : x < 18446744073709551616) (h : x.testBit i = true) : bits .and .u64 ((x : Int) / 2 ^ i) 1 = 1 := by
  have e : ((x : Int) / 2 ^ i) = ((x / 2 ^ i : Nat) : Int) := by rw [Int.natCast_ediv, Int.natCast_pow]; rfl
  rw [e]
  have e1 : (1 : Int) = ((1 : Nat) : Int) := rfl
  rw [e1, u64_and_nat _ 1 (div_lt x i hx) (by decide), Nat.and_one_is_mod]
  have := Nat.testBit_eq_decide_div_mod_eq (x := x) (i := i)
  rw [h] at this
  have : x / 2 ^ i % 2 = 1 := by simpa using this.symm
  omega
theorem bit_read (x p : Nat) (hx : x < 18446744073709551616) : (bits .and .u64 ((x : Int) / 2 ^ p) 1 == 1) = x.testBit p := by
  cases e : x.testBit p with
  | true => rw [bit_set hx e]; rfl
  | false => rw [bit_clear hx e]; rfl
theorem wordsAt_cell {w : World} {v : Value} {L : List Nat} (h : WordsAt w v L) {k : Nat} (hk : k < L.length) :
    ∃ g cap, v = .slice (some ⟨g, 0, none⟩) L.length cap ∧ g < w.heap.size ∧ w.cell? ⟨g, k, none⟩ = some (.int .u64 (wAt L k)) := by
  obtain ⟨ad, cap, rfl, rfl | ⟨g, rfl, hg, hc⟩⟩ := h
  · simp at hk
  · exact ⟨g, cap, rfl, hg, hc k _ (wAt_some hk)⟩

set_option maxHeartbeats 1000000 in
theorem has_any (L : List Nat) (hL : Words64 L) (hlen : L.length ≤ 1024) (v : Value) (i : Int) (h0 : -9223372036854775808 ≤ i) (h1 : i ≤ 9223372036854775807) (w : World) (h : WordsAt w v L) :
    Calls Tryd.prog 29 #[v, .int .i64 i] w fun e w' => e = .returned (.bool (hasV L i)) ∧ w = w' := by
  by_cases hn : i < 0
  · rw [hasV_neg hn]
    obtain ⟨ad, cap, rfl, _⟩ := h
    go_enter Tryd.func29, Tryd.ntmps29
    go_wp2
    go_ret
    exact ⟨rfl, rfl⟩
  obtain ⟨I, rfl⟩ := Int.eq_ofNat_of_zero_le (show 0 ≤ i by omega)
  rw [hasV_nat]
  by_cases ht : 64 * L.length ≤ I
  · rw [bitL_out ht]
    obtain ⟨ad, cap, rfl, _⟩ := h
    have f1 : IntKind.i64.wrap (64 * (L.length : Int)) = 64 * L.length := by rw [IntKind.wrap_i64]; omega
    have f2 : ¬ ((I : Int) < 64 * L.length) := by omega
    go_enter Tryd.func29, Tryd.ntmps29
    go_wp2
    go_ret
    exact ⟨rfl, rfl⟩
  · obtain ⟨g, cap, rfl, hg, hc⟩ := wordsAt_cell h (show I / 64 < L.length by omega)
    have f1 : IntKind.i64.wrap (64 * (L.length : Int)) = 64 * L.length := by rw [IntKind.wrap_i64]; omega
    have f2 : ((I : Int) < 64 * L.length) := by omega
    have f3 : (I : Int) / 64 = (I / 64 : Nat) := by omega
    have f4 : (I : Int).tmod 64 = (I % 64 : Nat) := by rw [Int.tmod_eq_emod_of_nonneg (by omega)]; omega
    have f4' : (I : Int).tdiv 64 = (I / 64 : Nat) := by rw [Int.tdiv_eq_ediv_of_nonneg (by omega)]; omega
    have f5 : min (I % 64) 64 = I % 64 := by omega
    have hk : I / 64 < L.length := by omega
    have hx := wAt_lt hL (I / 64)
    have E' := Lib.hid (show bitL L I = (wAt L (I / 64)).testBit (I % 64) from rfl)
    obtain ⟨k, ek⟩ : ∃ k, I / 64 = k := ⟨_, rfl⟩
    obtain ⟨q, eq⟩ : ∃ q, I % 64 = q := ⟨_, rfl⟩
    obtain ⟨x, ex⟩ : ∃ x, wAt L k = x := ⟨_, rfl⟩
    rw [ek] at hc f3 f4' hk hx E'
    rw [eq] at f4 f5 E'
    rw [ex] at hc hx E'
    have hq : q < 64 := by omega
    clear h ht hn
    go_enter Tryd.func29, Tryd.ntmps29
    go_wp2
    go_ret
    exact ⟨ret_bool (by rw [E'.out]; exact bit_read x q hx), rfl⟩

set_option maxHeartbeats 400000 in
theorem held_any (L : List Nat) (hlen : L.length ≤ 1024) (v : Value) (n : Int) (h0 : -9223372036854775808 ≤ n) (h1 : n ≤ 9223372036854775807) (w : World) (h : WordsAt w v L) :
    Calls Tryd.prog 41 #[v, .int .i64 n] w fun e w' => e = .returned (.int .i64 (heldN L n)) ∧ w = w' := by
  obtain ⟨ad, cap, rfl, _⟩ := h
  have f1 : IntKind.i64.wrap (64 * (L.length : Int)) = 64 * L.length := by rw [IntKind.wrap_i64]; omega
  have E : ((heldN L n : Nat) : Int) = min (max n 0) (64 * L.length) := by unfold heldN; omega
  have E' := Lib.hid E
  clear E
  go_enter Tryd.func41, Tryd.ntmps41
  go_wp2
  all_goals
    go_ret
    refine ⟨ret_int ?_, rfl⟩
    have e := E'.out
    omega
end Go.Proofs.YtjgadfeplaiclaaDoor
