/-
  Memory whose numbers and calls were overwritten, and no more: what a caller may do to a script that is its own.
-/
import Derived.Test.YtkdigojjeiidmaaDoorDecode
import Derived.Test.YtkdigojjeiidmaaDoorSameScript
namespace Go.Proofs.YtkdigojjeiidmaaDoor
open Go Go.RowKit Go.Shelf

/-- Numbers lie where numbers lay, calls where calls lay. -/
structure Turned (B : Nat) (a w : World) : Prop where
  below : Below B a w
  other : ∀ (g : Nat) (cs : Array Value) (e : TypeId), a.heap[g]? = some (.cells cs e (0, 0)) → e ≠ 3 → e ≠ 36 → w.heap[g]? = some (.cells cs e (0, 0))
  ints : ∀ (g : Nat) (cs : Array Value), a.heap[g]? = some (.cells cs 3 (0, 0)) → ∃ cs', w.heap[g]? = some (.cells cs' 3 (0, 0)) ∧ ∀ (j : Nat) (x : Int), cs[j]? = some (.int .i64 x) → ∃ y, cs'[j]? = some (.int .i64 y)
  calls : ∀ (g : Nat) (cs : Array Value), a.heap[g]? = some (.cells cs 36 (0, 0)) → ∃ cs', w.heap[g]? = some (.cells cs' 36 (0, 0)) ∧
    ∀ (i : Nat) (k x : Int) (lv : Value), cs[i * 3]? = some (.int .i64 k) → cs[i * 3 + 1]? = some (.int .i64 x) → cs[i * 3 + 2]? = some lv →
      ∃ k' x' lv', cs'[i * 3]? = some (.int .i64 k') ∧ cs'[i * 3 + 1]? = some (.int .i64 x') ∧ cs'[i * 3 + 2]? = some lv' ∧ (lv' = lv ∨ lv' = .slice none 0 0)
theorem Turned.refl (B : Nat) (w : World) : Turned B w w :=
  ⟨Below.refl _ _, fun _ _ _ h _ _ => h, fun _ cs h => ⟨cs, h, fun _ x hx => ⟨x, hx⟩⟩, fun _ cs h => ⟨cs, h, fun _ k x lv h0 h1 h2 => ⟨k, x, lv, h0, h1, h2, .inl rfl⟩⟩⟩
theorem blk_type {w : World} {g g' : Nat} {cs cs' : Array Value} {e e' : TypeId} {f f' : Nat × Nat} (h : w.heap[g]? = some (.cells cs e f)) (h' : w.heap[g']? = some (.cells cs' e' f')) (hne : e ≠ e') : g ≠ g' := by
  rintro rfl
  have := Option.some.inj (h.symm.trans h')
  injection this with _ e2
  exact hne e2
theorem blk_same {w : World} {g : Nat} {cs cs' : Array Value} {e : TypeId} (h : w.heap[g]? = some (.cells cs e (0, 0))) (h' : w.heap[g]? = some (.cells cs' e (0, 0))) : cs = cs' := by
  have := Option.some.inj (h.symm.trans h')
  injection this with e1
theorem Turned.setInt {B : Nat} {a w : World} (h : Turned B a w) {g : Nat} {cs : Array Value} (hg : B ≤ g) (hw : w.heap[g]? = some (.cells cs 3 (0, 0))) (j : Nat) (y : Int) : Turned B a (w.setCell ⟨g, j, none⟩ (.int .i64 y)) := by
  refine ⟨h.below.setCell (p := ⟨g, j, none⟩) hg _, fun g' cs' e hg' h3 h36 => ?_, fun g' cs0 hg' => ?_, fun g' cs0 hg' => ?_⟩
  · have h1 := h.other g' cs' e hg' h3 h36
    rw [Below.heap_setCell _ _ _ _ (show g' ≠ g from blk_type h1 hw h3)]
    exact h1
  · obtain ⟨cs1, h1, h2⟩ := h.ints g' cs0 hg'
    by_cases e : g' = g
    · subst e
      obtain rfl := blk_same h1 hw
      refine ⟨_, blk_set h1 j _, fun j' x hx => ?_⟩
      obtain ⟨y', hy'⟩ := h2 j' x hx
      rw [Array.getElem?_setIfInBounds]
      have hlt := (Array.getElem?_eq_some_iff.1 hy').1
      by_cases ej : j = j'
      · subst ej; exact ⟨y, by simp [hlt]⟩
      · exact ⟨y', by rw [if_neg ej]; exact hy'⟩
    · rw [Below.heap_setCell _ _ _ _ e]
      exact ⟨cs1, h1, h2⟩
  · obtain ⟨cs1, h1, h2⟩ := h.calls g' cs0 hg'
    rw [Below.heap_setCell _ _ _ _ (show g' ≠ g from blk_type h1 hw (by decide))]
    exact ⟨cs1, h1, h2⟩
theorem Turned.setCall {B : Nat} {a w : World} (h : Turned B a w) {g : Nat} {cs : Array Value} (hg : B ≤ g) (hw : w.heap[g]? = some (.cells cs 36 (0, 0))) (i : Nat) :
    Turned B a (((w.setCell ⟨g, i * 3, none⟩ (.int .i64 0)).setCell ⟨g, i * 3 + 1, none⟩ (.int .i64 0)).setCell ⟨g, i * 3 + 2, none⟩ (.slice none 0 0)) := by
  have hother : ∀ g', g' ≠ g → (((w.setCell ⟨g, i * 3, none⟩ (.int .i64 0)).setCell ⟨g, i * 3 + 1, none⟩ (.int .i64 0)).setCell ⟨g, i * 3 + 2, none⟩ (.slice none 0 0)).heap[g']? = w.heap[g']? := fun g' hne => by
    rw [Below.heap_setCell _ _ _ _ (show g' ≠ g from hne), Below.heap_setCell _ _ _ _ (show g' ≠ g from hne), Below.heap_setCell _ _ _ _ (show g' ≠ g from hne)]
  refine ⟨((h.below.setCell (p := ⟨g, i * 3, none⟩) hg _).setCell (p := ⟨g, i * 3 + 1, none⟩) hg _).setCell (p := ⟨g, i * 3 + 2, none⟩) hg _, fun g' cs' e hg' h3 h36 => ?_, fun g' cs0 hg' => ?_, fun g' cs0 hg' => ?_⟩
  · have h1 := h.other g' cs' e hg' h3 h36
    rw [hother _ (blk_type h1 hw h36)]
    exact h1
  · obtain ⟨cs1, h1, h2⟩ := h.ints g' cs0 hg'
    rw [hother _ (blk_type h1 hw (by decide))]
    exact ⟨cs1, h1, h2⟩
  · obtain ⟨cs1, h1, h2⟩ := h.calls g' cs0 hg'
    by_cases e : g' = g
    · subst e
      obtain rfl := blk_same h1 hw
      refine ⟨_, blk_set (blk_set (blk_set h1 _ _) _ _) _ _, fun i' k x lv k0 k1 k2 => ?_⟩
      obtain ⟨k', x', lv', e0, e1, e2, e3⟩ := h2 i' k x lv k0 k1 k2
      have l0 := (Array.getElem?_eq_some_iff.1 e0).1
      have l1 := (Array.getElem?_eq_some_iff.1 e1).1
      have l2 := (Array.getElem?_eq_some_iff.1 e2).1
      by_cases ei : i = i'
      · subst ei
        refine ⟨0, 0, .slice none 0 0, ?_, ?_, ?_, .inr rfl⟩
        · simp [l0]
        · simp [l1]
        · simp [l2]
      · refine ⟨k', x', lv', ?_, ?_, ?_, e3⟩
        · simp only [Array.getElem?_setIfInBounds]
          rw [if_neg (by omega), if_neg (by omega), if_neg (by omega)]; exact e0
        · simp only [Array.getElem?_setIfInBounds]
          rw [if_neg (by omega), if_neg (by omega), if_neg (by omega)]; exact e1
        · simp only [Array.getElem?_setIfInBounds]
          rw [if_neg (by omega), if_neg (by omega), if_neg (by omega)]; exact e2
    · rw [hother _ e]
      exact ⟨cs1, h1, h2⟩

/-- What list t of the script that was overwritten is: the slice that it was. -/
theorem ListsOwn.turned {B : Nat} {a : World} {v : Value} {ls : List (List CallP)} (h : ListsOwn a B v ls) {j : Nat} (hj : j < ls.length) :
    ∃ (cl : List CallP) (g cap : Nat) (cv : Value), ls[j]? = some cl ∧ v = .slice (some ⟨g, 0, none⟩) ls.length cap ∧ (∀ B' w, Turned B' a w → w.cell? ⟨g, j, none⟩ = some cv) ∧ CallsOwn a B cv cl := by
  obtain ⟨xs, h1, h2⟩ := h
  have ho : ls[j]? = some ls[j] := List.getElem?_eq_getElem hj
  obtain ⟨cv, hx, hc⟩ := h2 j _ ho
  rcases h1.2 with ⟨rfl, h0⟩ | ⟨g, cap, cur, rfl, _, hh, _, _, _, htk⟩
  · omega
  · refine ⟨_, g, cap, cv, ho, rfl, fun B' w ht => ?_, hc⟩
    rw [blk_cell (ht.other _ _ _ hh (by decide) (by decide))]
    rw [← htk, List.getElem?_take, Nat.mul_one, if_pos hj] at hx
    simpa using hx
/-- Call j of a list that was overwritten: a call; its numbers are those that it had, or none. -/
theorem CallsOwn.turned {B B' : Nat} {a w : World} {v : Value} {cl : List CallP} (h : CallsOwn a B v cl) (ht : Turned B' a w) {j : Nat} (hj : j < cl.length) :
    ∃ (o : CallP) (g cap : Nat) (k x : Int) (lv : Value) (cs : Array Value), cl[j]? = some o ∧ v = .slice (some ⟨g, 0, none⟩) cl.length cap ∧ B ≤ g ∧ w.heap[g]? = some (.cells cs 36 (0, 0)) ∧ cs[j * 3]? = some (.int .i64 k) ∧ cs[j * 3 + 1]? = some (.int .i64 x) ∧ cs[j * 3 + 2]? = some lv ∧
      (lv = .slice none 0 0 ∨ a.ownsRow B 3 1 lv o.L.length (o.L.map iV)) := by
  obtain ⟨xs, h1, h2⟩ := h
  have ho : cl[j]? = some cl[j] := List.getElem?_eq_getElem hj
  obtain ⟨lv, x0, x1, x2, hl⟩ := h2 j _ ho
  rcases h1.2 with ⟨rfl, h0⟩ | ⟨g, cap, cur, rfl, hB, hh, _, _, _, htk⟩
  · omega
  · obtain ⟨cs, hw, hc⟩ := ht.calls g cur hh
    have cut : ∀ (i : Nat) (u : Value), i < cl.length * 3 → xs[i]? = some u → cur[i]? = some u := fun i u hi hu => by
      rw [← htk, List.getElem?_take, if_pos hi] at hu
      simpa using hu
    obtain ⟨k', x', lv', e0, e1, e2, e3⟩ := hc j _ _ _ (cut _ _ (by omega) x0) (cut _ _ (by omega) x1) (cut _ _ (by omega) x2)
    exact ⟨_, g, cap, k', x', lv', cs, ho, rfl, hB, hw, e0, e1, e2, e3.elim (fun e => .inr (by rw [e]; exact hl)) .inl⟩
theorem ints_turned {B B' n : Nat} {a w : World} {v : Value} {L : List Int} (h : a.ownsRow B 3 1 v n (L.map iV)) (ht : Turned B' a w) {j : Nat} (hj : j < n) :
    ∃ (g cap : Nat) (x : Int) (cs : Array Value), v = .slice (some ⟨g, 0, none⟩) n cap ∧ B ≤ g ∧ w.heap[g]? = some (.cells cs 3 (0, 0)) ∧ cs[j]? = some (.int .i64 x) := by
  have hl := h.1
  rw [List.length_map, Nat.mul_one] at hl
  rcases h.2 with ⟨rfl, h0⟩ | ⟨g, cap, cur, rfl, hB, hh, _, _, _, htk⟩
  · omega
  · obtain ⟨cs, hw, hc⟩ := ht.ints g cur hh
    obtain ⟨x, _, hx⟩ := map_get (f := iV) (l := L) (j := j) (by omega)
    rw [← htk, List.getElem?_take, Nat.mul_one, if_pos hj] at hx
    obtain ⟨y, hy⟩ := hc j x (by simpa [iV] using hx)
    exact ⟨g, cap, y, cs, rfl, hB, hw, hy⟩

theorem callM_small (x y z : Nat) : (callM x y z).L.length ≤ 8 := by
  unfold callM
  split
  · simp
  · split
    · simp
    · split
      · exact bitsM_len z 8
      · split <;> simp
theorem calls_small (ns : List Nat) (k : Nat) : ∀ n, ∀ o ∈ callsM ns k n, o.L.length ≤ 8
  | 0, o, h => by simp [callsM] at h
  | n + 1, o, h => by
    simp only [callsM, List.mem_append, List.mem_singleton] at h
    rcases h with h | rfl
    · exact calls_small ns k n o h
    · exact callM_small _ _ _
theorem lists_small (ns : List Nat) : ∀ t, ∀ cl ∈ listsM ns t, cl.length ≤ 11 ∧ ∀ o ∈ cl, o.L.length ≤ 8
  | 0, cl, h => by simp [listsM] at h
  | t + 1, cl, h => by
    simp only [listsM, List.mem_append, List.mem_singleton] at h
    rcases h with h | rfl
    · exact lists_small ns t cl h
    · exact ⟨by rw [listM_len]; have := Nat.mod_lt (bt ns (posM ns t)) (show 12 > 0 by decide); omega, fun o ho => calls_small _ _ _ o ho⟩
end Go.Proofs.YtkdigojjeiidmaaDoor
