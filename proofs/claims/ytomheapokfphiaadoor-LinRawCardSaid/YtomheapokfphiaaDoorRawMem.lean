/-
  How lists of numbers and of calls lie in memory; what a call that lays nothing but new blocks leaves of them. No function in sight.
-/
import Derived.Test.YtomheapokfphiaaDoorLinRise
import Derived.RangeFuncOwn
import Derived.RangeFuncLeaves
import Derived.RangeFuncCalls
import Derived.RangeFuncBound
import Derived.Shelf.Abstract
import Derived.Maps.AppendAt
import Derived.Laws.OwnMore
import Derived.Deep.DeepCutAuto
import Derived.Lib.SliceRun
import Derived.BigRegion
import Derived.BigQuiet
import Derived.Deep.QuietTactic
namespace Go.Proofs.YtomheapokfphiaaDoor
open Go Go.RowKit Go.Shelf

/-- Whatever holds cells lies as it lay. -/
def CellsKept (w w' : World) : Prop := w.heap.size ≤ w'.heap.size ∧ ∀ (g : Nat) (o : Obj), w.heap[g]? = some o → o.isCells = true → w'.heap[g]? = some o
theorem CellsKept.refl (w : World) : CellsKept w w := ⟨Nat.le_refl _, fun _ _ h _ => h⟩
theorem CellsKept.trans {a b c : World} (h : CellsKept a b) (k : CellsKept b c) : CellsKept a c := ⟨Nat.le_trans h.1 k.1, fun g o h1 h2 => k.2 g o (h.2 g o h1 h2) h2⟩
theorem CellsKept.of {w w' : World} (h : Below w.heap.size w w') : CellsKept w w' := ⟨h.size, fun g _ hg _ => (h.block g (Array.getElem?_eq_some_iff.1 hg).1).trans hg⟩
theorem CellsKept.cell {w w' : World} (h : CellsKept w w') {a : Addr} {v : Value} (hc : w.cell? a = some v) : w'.cell? a = some v := by
  cases ho : w.heap[a.block]? with
  | none => simp [World.cell?, ho] at hc
  | some o =>
    have hi : o.isCells = true := by
      cases o with
      | cells => rfl
      | _ => simp [World.cell?, ho] at hc
    rw [World.cell?_of_block (a := a) ((h.2 _ o ho hi).trans ho.symm)]
    exact hc

/-- A block of numbers. -/
def IntBlk (w : World) (g : Nat) : Prop := ∃ cur fr, w.heap[g]? = some (.cells cur 3 fr)
theorem IntBlk.lt {w : World} {g : Nat} (h : IntBlk w g) : g < w.heap.size := by
  obtain ⟨_, _, h⟩ := h
  exact (Array.getElem?_eq_some_iff.1 h).1
theorem IntBlk.kept {w w' : World} {g : Nat} (h : IntBlk w g) (hb : CellsKept w w') : IntBlk w' g := by
  obtain ⟨_, _, h⟩ := h
  exact ⟨_, _, hb.2 g _ h rfl⟩
theorem IntBlk.set {w : World} {g : Nat} (h : IntBlk w g) (a : Addr) (v : Value) : IntBlk (w.setCell a v) g := by
  obtain ⟨cur, fr, h⟩ := h
  unfold IntBlk World.setCell
  simp only [Array.getElem?_modify, h]
  split
  · exact ⟨_, _, rfl⟩
  · exact ⟨_, _, rfl⟩
/-- A slice that reads so. -/
def IntsAt (w : World) (v : Value) (L : List Int) : Prop :=
  ∃ ad cap, v = .slice ad L.length cap ∧ (L = [] ∨ ∃ g c, ad = some ⟨g, c, none⟩ ∧ g < w.heap.size ∧ (∀ (j : Nat) (x : Int), L[j]? = some x → w.cell? ⟨g, c + j, none⟩ = some (.int .i64 x)) ∧ L.length ≤ cap)
theorem IntsAt.kept {w w' : World} {v : Value} {L : List Int} (h : IntsAt w v L) (hb : CellsKept w w') : IntsAt w' v L := by
  obtain ⟨ad, cap, rfl, h | ⟨g, c, rfl, hg, hc, hcap⟩⟩ := h
  · exact ⟨_, _, rfl, .inl h⟩
  · exact ⟨_, _, rfl, .inr ⟨g, c, rfl, Nat.lt_of_lt_of_le hg hb.1, fun j x hx => hb.cell (hc j x hx), hcap⟩⟩
theorem intsAt_nil (w : World) : IntsAt w (.slice none 0 0) [] := ⟨none, 0, rfl, .inl rfl⟩
theorem getD_get {L : List Int} {k : Nat} (h : k < L.length) : L[k]? = some (L.getD k 0) := by
  rw [List.getD_eq_getElem?_getD, List.getElem?_eq_getElem h]; rfl
theorem intsAt_cell {w : World} {v : Value} {L : List Int} (h : IntsAt w v L) {k : Nat} (hk : k < L.length) :
    ∃ g c cap, v = .slice (some ⟨g, c, none⟩) L.length cap ∧ g < w.heap.size ∧ w.cell? ⟨g, c + k, none⟩ = some (.int .i64 (L.getD k 0)) := by
  obtain ⟨ad, cap, rfl, rfl | ⟨g, c, rfl, hg, hc, _⟩⟩ := h
  · simp at hk
  · exact ⟨g, c, cap, rfl, hg, hc k _ (getD_get hk)⟩
theorem intsAt_cap {w : World} {ad : Option Addr} {n cap : Nat} {L : List Int} (h : IntsAt w (.slice ad n cap) L) : n ≤ cap ∨ L = [] := by
  obtain ⟨ad', cap', hv, h⟩ := h
  injection hv with h1 h2 h3
  subst h3
  rcases h with rfl | ⟨g, _, _, _, _, hc⟩
  · exact .inr rfl
  · exact .inl (by rw [h2]; exact hc)
theorem intsAt_take {w : World} {ad : Option Addr} {n cap : Nat} {L : List Int} (h : IntsAt w (.slice ad n cap) L) {k : Nat} (hk : k ≤ L.length) : IntsAt w (.slice ad k cap) (L.take k) := by
  obtain ⟨ad', cap', hv, h⟩ := h
  injection hv with h1 h2 h3
  subst h1; subst h3
  refine ⟨_, _, by rw [List.length_take, Nat.min_eq_left hk], ?_⟩
  rcases h with rfl | ⟨g, c, rfl, hg, hc, hcap⟩
  · exact .inl (by simp)
  · refine .inr ⟨g, c, rfl, hg, fun j x hx => hc j x ?_, by rw [List.length_take]; omega⟩
    have hj : j < k := by have := (List.getElem?_eq_some_iff.1 hx).1; simp at this; omega
    rw [List.getElem?_take_of_lt hj] at hx
    exact hx
def iV (x : Int) : Value := .int .i64 x
theorem ints_of_owns {w : World} {base n : Nat} {v : Value} {L : List Int} (h : w.ownsRow base 3 1 v n (L.map iV)) : IntsAt w v L := by
  have hl := h.1
  rw [List.length_map, Nat.mul_one] at hl
  rcases h.2 with ⟨rfl, h0⟩ | ⟨g, cap, cur, rfl, hg, hh, hnc, _⟩
  · exact ⟨none, 0, by rw [hl, h0], .inl (List.length_eq_zero_iff.1 (by omega))⟩
  · refine ⟨_, _, by rw [hl], .inr ⟨g, 0, rfl, (Array.getElem?_eq_some_iff.1 hh).1, fun j x hx => ?_, by omega⟩⟩
    rw [Nat.zero_add]
    have hj := (List.getElem?_eq_some_iff.1 hx).1
    rw [World.ownsRow.cellAt h j (by omega), List.getElem?_map, hx]
    rfl

/-- A list of calls that reads so. -/
def OpCells (w : World) (g a : Nat) (o : OpP) (lv : Value) : Prop :=
  w.cell? ⟨g, a, none⟩ = some (.int .i64 o.kind) ∧ w.cell? ⟨g, a + 1, none⟩ = some (.int .i64 o.size) ∧ w.cell? ⟨g, a + 2, none⟩ = some (.int .i64 o.at_) ∧ w.cell? ⟨g, a + 3, none⟩ = some (.int .i64 o.code)
  ∧ w.cell? ⟨g, a + 4, none⟩ = some lv ∧ w.cell? ⟨g, a + 5, none⟩ = some (.int .i64 o.b) ∧ w.cell? ⟨g, a + 6, none⟩ = some (.int .i64 o.e)
theorem OpCells.kept {w w' : World} {g a : Nat} {o : OpP} {lv : Value} (h : OpCells w g a o lv) (hb : CellsKept w w') : OpCells w' g a o lv := by
  obtain ⟨h0, h1, h2, h3, h4, h5, h6⟩ := h
  exact ⟨hb.cell h0, hb.cell h1, hb.cell h2, hb.cell h3, hb.cell h4, hb.cell h5, hb.cell h6⟩
def OpsAt (w : World) (v : Value) (l : List OpP) : Prop :=
  ∃ ad cap, v = .slice ad l.length cap ∧ (l = [] ∨ ∃ g c, ad = some ⟨g, c, none⟩ ∧ g < w.heap.size ∧ ∀ (j : Nat) (o : OpP), l[j]? = some o → ∃ lv, IntsAt w lv o.L ∧ OpCells w g (c + j * 7) o lv)
theorem OpsAt.kept {w w' : World} {v : Value} {l : List OpP} (h : OpsAt w v l) (hb : CellsKept w w') : OpsAt w' v l := by
  obtain ⟨ad, cap, rfl, h | ⟨g, c, rfl, hg, hc⟩⟩ := h
  · exact ⟨_, _, rfl, .inl h⟩
  · exact ⟨_, _, rfl, .inr ⟨g, c, rfl, Nat.lt_of_lt_of_le hg hb.1, fun j o ho => by
      obtain ⟨lv, h1, h2⟩ := hc j o ho
      exact ⟨lv, h1.kept hb, h2.kept hb⟩⟩⟩
theorem opAt_get {l : List OpP} {k : Nat} (h : k < l.length) : l[k]? = some (opAt l k) := by
  unfold opAt
  rw [List.getD_eq_getElem?_getD, List.getElem?_eq_getElem h]; rfl
theorem opsAt_cell {w : World} {v : Value} {l : List OpP} (h : OpsAt w v l) {k : Nat} (hk : k < l.length) :
    ∃ g c cap lv, v = .slice (some ⟨g, c, none⟩) l.length cap ∧ g < w.heap.size ∧ IntsAt w lv (opAt l k).L ∧ OpCells w g (c + k * 7) (opAt l k) lv := by
  obtain ⟨ad, cap, rfl, rfl | ⟨g, c, rfl, hg, hc⟩⟩ := h
  · simp at hk
  · obtain ⟨lv, h1, h2⟩ := hc k _ (opAt_get hk)
    exact ⟨g, c, cap, lv, rfl, hg, h1, h2⟩
theorem doesM_lengthR {pages : Int} {s s' : LiveP} {o : OpP} (h : doesM pages s o = some s') : s'.length ≤ s.length + 1 ∨ s'.length = 0 := by
  left
  unfold doesM at h
  split at h
  · unfold allocM at h
    split at h
    · cases h
    · split at h
      · injection h with h; subst h; simp
      · cases h
  · split at h
    · unfold cycleM at h
      split at h
      · rename_i ha
        injection h with h
        subst h
        have := ok_le (Nat.le_refl _) (fun j hj => List.all_eq_true.1 ha j (List.mem_range.2 hj))
        simp
        omega
      · cases h
    · split at h
      · injection h with h; subst h; omega
      · cases h
/-- A call, as a value. -/
def opVal (o : OpP) (lv : Value) : Value := .agg #[.int .i64 o.kind, .int .i64 o.size, .int .i64 o.at_, .int .i64 o.code, lv, .int .i64 o.b, .int .i64 o.e]
/-- What lives, as a value. -/
def LiveAt (w : World) (v : Value) (pages : Int) (s : LiveP) : Prop := ∃ a n, v = .agg #[.int .i64 pages, a, n] ∧ IntsAt w a (s.map (·.1)) ∧ IntsAt w n (s.map (·.2))
theorem LiveAt.kept {w w' : World} {v : Value} {pages : Int} {s : LiveP} (h : LiveAt w v pages s) (hb : CellsKept w w') : LiveAt w' v pages s := by
  obtain ⟨a, n, rfl, h1, h2⟩ := h
  exact ⟨a, n, rfl, h1.kept hb, h2.kept hb⟩
end Go.Proofs.YtomheapokfphiaaDoor
