/-
  The contracts of r1.SameParts and r1.SameRuns, where both read alike.
-/
import Derived.Test.YtjgadfeplaiclaaDoorRuns
namespace Go.Proofs.YtjgadfeplaiclaaDoor
open Go Go.RowKit Go.Shelf

/-- A slice of structs of two cells that reads so. -/
def CellsAt (w : World) (v : Value) (n : Nat) (cs : List Value) : Prop :=
  ∃ ad cap, v = .slice ad n cap ∧ (n = 0 ∨ ∃ g, ad = some ⟨g, 0, none⟩ ∧ g < w.heap.size ∧ ∀ (j : Nat) u, cs[j]? = some u → w.cell? ⟨g, j, none⟩ = some u)
theorem CellsAt.kept {w w' : World} {v : Value} {n : Nat} {cs : List Value} (h : CellsAt w v n cs) (hb : Below w.heap.size w w') : CellsAt w' v n cs := by
  obtain ⟨ad, cap, rfl, h | ⟨g, rfl, hg, hc⟩⟩ := h
  · exact ⟨_, _, rfl, .inl h⟩
  · exact ⟨_, _, rfl, .inr ⟨g, rfl, Nat.lt_of_lt_of_le hg hb.size, fun j i hi => by rw [hb.cell (p := ⟨g, j, none⟩) hg]; exact hc j i hi⟩⟩
theorem cells_of_owns {w : World} {base e n : Nat} {v : Value} {cs : List Value} (h : w.ownsRow base e 2 v n cs) : CellsAt w v n cs := by
  have hl := h.1
  rcases h.2 with ⟨rfl, h0⟩ | ⟨g, cap, cur, rfl, hg, hh, _⟩
  · exact ⟨none, 0, by rw [h0], .inl h0⟩
  · refine ⟨_, _, rfl, .inr ⟨g, rfl, (Array.getElem?_eq_some_iff.1 hh).1, fun j u hu => ?_⟩⟩
    rw [World.ownsRow.cellAt h j (by have := (List.getElem?_eq_some_iff.1 hu).1; omega), hu]
theorem pair_get {V : Nat × Nat → List Value} (h2 : ∀ q, (V q).length = 2) : ∀ (qs : List (Nat × Nat)) (k : Nat) (q : Nat × Nat), qs[k]? = some q →
    (qs.flatMap V)[k * 2]? = (V q)[0]? ∧ (qs.flatMap V)[k * 2 + 1]? = (V q)[1]? := by
  intro qs
  induction qs with
  | nil => intro k q h; simp at h
  | cons a qs ih =>
    intro k q h
    rw [List.flatMap_cons]
    cases k with
    | zero =>
      simp at h; subst h
      exact ⟨List.getElem?_append_left (by rw [h2]; omega), List.getElem?_append_left (by rw [h2]; omega)⟩
    | succ k =>
      have := ih k q (by simpa using h)
      rw [List.getElem?_append_right (by rw [h2]; omega), List.getElem?_append_right (by rw [h2]; omega), h2]
      rw [show (k + 1) * 2 - 2 = k * 2 by omega, show (k + 1) * 2 + 1 - 2 = k * 2 + 1 by omega]
      exact this

set_option maxHeartbeats 1600000 in
theorem sameParts_any (qs : List (Nat × Nat)) (hlen : qs.length ≤ 65536) (a b : Value) (w : World) (ha : CellsAt w a qs.length (qs.flatMap partV)) (hb : CellsAt w b qs.length (qs.flatMap partV)) :
    Calls Tryd.prog 23 #[a, b] w fun e w' => e = .returned (.bool true) ∧ Below w.heap.size w w' := by
  have HA := Lib.hid ha
  have HB := Lib.hid hb
  obtain ⟨ad, cap, rfl, _⟩ := ha
  obtain ⟨bd, bcap, rfl, _⟩ := hb
  go_enter Tryd.func23, Tryd.ntmps23
  go_wp2_with fail
  go_loopw [5] (fun i wr => ∃ k : Nat, k ≤ qs.length ∧ i = .int .i64 k ∧ Below w.heap.size w wr) (fun i _ => qs.length - (intOf i).toNat)
  case atStart => exact ⟨0, Nat.zero_le _, rfl, Below.refl _ _⟩
  case round =>
    obtain ⟨k, hk, rfl, hbw⟩ := hrel
    by_cases hlt : k < qs.length
    · obtain ⟨q, hq⟩ : ∃ q, qs[k]? = some q := ⟨_, List.getElem?_eq_getElem hlt⟩
      obtain ⟨p0, p1⟩ := pair_get (V := partV) (fun _ => rfl) qs k q hq
      obtain ⟨ad', cap', hv, h0 | ⟨g, rfl, hg, hc⟩⟩ := HA.out.kept hbw
      · omega
      obtain ⟨bd', bcap', hv', h0 | ⟨g', rfl, hg', hc'⟩⟩ := HB.out.kept hbw
      · omega
      obtain ⟨rfl, rfl⟩ : ad = some ⟨g, 0, none⟩ ∧ cap = cap' := by injection hv with h1 h2 h3; exact ⟨h1, h3⟩
      obtain ⟨rfl, rfl⟩ : bd = some ⟨g', 0, none⟩ ∧ bcap = bcap' := by injection hv' with h1 h2 h3; exact ⟨h1, h3⟩
      have c0 : wr.cell? ⟨g, k * 2, none⟩ = some (.int .i64 q.1) := hc _ _ p0
      have c1 : wr.cell? ⟨g, k * 2 + 1, none⟩ = some (.int .u64 q.2) := hc _ _ p1
      have c0' : wr.cell? ⟨g', k * 2, none⟩ = some (.int .i64 q.1) := hc' _ _ p0
      have c1' : wr.cell? ⟨g', k * 2 + 1, none⟩ = some (.int .u64 q.2) := hc' _ _ p1
      have Hbw := Lib.hid hbw
      clear hc hc' p0 p1 hv hv' hbw hq
      go_wp2_with fail
      go_quiet (fail)
      go_wp2
      go_roundw
      case rel => exact ⟨k + 1, hlt, by go_num, (have h := Hbw.out; ⟨h.os, h.tape, h.output, h.size, h.block⟩)⟩
      case measure => simp [intOf]; omega
    · obtain rfl : k = qs.length := by omega
      have Hbw := Lib.hid hbw
      clear hbw
      go_wp2
      go_ret
      exact ⟨rfl, Hbw.out⟩

set_option maxHeartbeats 1600000 in
theorem sameRuns_any (qs : List (Nat × Nat)) (hlen : qs.length ≤ 65536) (a b : Value) (w : World) (ha : CellsAt w a qs.length (qs.flatMap runV)) (hb : CellsAt w b qs.length (qs.flatMap runV)) :
    Calls Tryd.prog 40 #[a, b] w fun e w' => e = .returned (.bool true) ∧ Below w.heap.size w w' := by
  have HA := Lib.hid ha
  have HB := Lib.hid hb
  obtain ⟨ad, cap, rfl, _⟩ := ha
  obtain ⟨bd, bcap, rfl, _⟩ := hb
  go_enter Tryd.func40, Tryd.ntmps40
  go_wp2_with fail
  go_loopw [5] (fun i wr => ∃ k : Nat, k ≤ qs.length ∧ i = .int .i64 k ∧ Below w.heap.size w wr) (fun i _ => qs.length - (intOf i).toNat)
  case atStart => exact ⟨0, Nat.zero_le _, rfl, Below.refl _ _⟩
  case round =>
    obtain ⟨k, hk, rfl, hbw⟩ := hrel
    by_cases hlt : k < qs.length
    · obtain ⟨q, hq⟩ : ∃ q, qs[k]? = some q := ⟨_, List.getElem?_eq_getElem hlt⟩
      obtain ⟨p0, p1⟩ := pair_get (V := runV) (fun _ => rfl) qs k q hq
      obtain ⟨ad', cap', hv, h0 | ⟨g, rfl, hg, hc⟩⟩ := HA.out.kept hbw
      · omega
      obtain ⟨bd', bcap', hv', h0 | ⟨g', rfl, hg', hc'⟩⟩ := HB.out.kept hbw
      · omega
      obtain ⟨rfl, rfl⟩ : ad = some ⟨g, 0, none⟩ ∧ cap = cap' := by injection hv with h1 h2 h3; exact ⟨h1, h3⟩
      obtain ⟨rfl, rfl⟩ : bd = some ⟨g', 0, none⟩ ∧ bcap = bcap' := by injection hv' with h1 h2 h3; exact ⟨h1, h3⟩
      have c0 : wr.cell? ⟨g, k * 2, none⟩ = some (.int .i64 q.1) := hc _ _ p0
      have c1 : wr.cell? ⟨g, k * 2 + 1, none⟩ = some (.int .i64 q.2) := hc _ _ p1
      have c0' : wr.cell? ⟨g', k * 2, none⟩ = some (.int .i64 q.1) := hc' _ _ p0
      have c1' : wr.cell? ⟨g', k * 2 + 1, none⟩ = some (.int .i64 q.2) := hc' _ _ p1
      have Hbw := Lib.hid hbw
      clear hc hc' p0 p1 hv hv' hbw hq
      go_wp2_with fail
      go_quiet (fail)
      go_wp2
      go_roundw
      case rel => exact ⟨k + 1, hlt, by go_num, (have h := Hbw.out; ⟨h.os, h.tape, h.output, h.size, h.block⟩)⟩
      case measure => simp [intOf]; omega
    · obtain rfl : k = qs.length := by omega
      have Hbw := Lib.hid hbw
      clear hbw
      go_wp2
      go_ret
      exact ⟨rfl, Hbw.out⟩
end Go.Proofs.YtjgadfeplaiclaaDoor
