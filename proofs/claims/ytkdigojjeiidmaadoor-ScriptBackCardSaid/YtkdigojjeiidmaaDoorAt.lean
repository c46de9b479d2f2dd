/-
  Calls, and lists of calls, that memory holds, wherever; those of one's own are such.
-/
import Derived.Test.YtkdigojjeiidmaaDoorTurned
import Derived.Test.YtkdigojjeiidmaaDoorText
namespace Go.Proofs.YtkdigojjeiidmaaDoor
open Go Go.RowKit Go.Shelf

def CallsAt (w : World) (v : Value) (cl : List CallP) : Prop :=
  ∃ ad cap, v = .slice ad cl.length cap ∧ (cl = [] ∨ ∃ g c, ad = some ⟨g, c, none⟩ ∧ g < w.heap.size ∧ ∀ (j : Nat) (o : CallP), cl[j]? = some o →
    ∃ lv, w.cell? ⟨g, c + j * 3, none⟩ = some (.int .i64 o.kind) ∧ w.cell? ⟨g, c + j * 3 + 1, none⟩ = some (.int .i64 o.a) ∧ w.cell? ⟨g, c + j * 3 + 2, none⟩ = some lv ∧ IntsAt w lv o.L)
theorem CallsAt.kept {w w' : World} {v : Value} {cl : List CallP} (h : CallsAt w v cl) (k : CellsKept w w') : CallsAt w' v cl := by
  obtain ⟨ad, cap, rfl, h⟩ := h
  refine ⟨ad, cap, rfl, h.imp id ?_⟩
  rintro ⟨g, c, e, hg, hc⟩
  refine ⟨g, c, e, Nat.lt_of_lt_of_le hg k.1, fun j o hj => ?_⟩
  obtain ⟨lv, a, b, d, i⟩ := hc j o hj
  exact ⟨lv, k.cell a, k.cell b, k.cell d, i.kept k⟩
theorem CallsAt.shape {w : World} {v : Value} {cl : List CallP} (h : CallsAt w v cl) : ∃ ad cap, v = .slice ad cl.length cap := by
  obtain ⟨ad, cap, rfl, _⟩ := h
  exact ⟨ad, cap, rfl⟩
theorem CallsAt.at {w : World} {v : Value} {cl : List CallP} (h : CallsAt w v cl) {k : Nat} (hk : k < cl.length) :
    ∃ (o : CallP) (g c cap : Nat) (lv : Value), cl[k]? = some o ∧ v = .slice (some ⟨g, c, none⟩) cl.length cap ∧ w.cell? ⟨g, c + k * 3, none⟩ = some (.int .i64 o.kind) ∧ w.cell? ⟨g, c + k * 3 + 1, none⟩ = some (.int .i64 o.a) ∧ w.cell? ⟨g, c + k * 3 + 2, none⟩ = some lv ∧ IntsAt w lv o.L := by
  obtain ⟨ad, cap, rfl, rfl | ⟨g, c, rfl, hg, hc⟩⟩ := h
  · simp at hk
  · obtain ⟨lv, a, b, d, i⟩ := hc k cl[k] (List.getElem?_eq_getElem hk)
    exact ⟨cl[k], g, c, cap, lv, List.getElem?_eq_getElem hk, rfl, a, b, d, i⟩
def ListsAt (w : World) (v : Value) (ls : List (List CallP)) : Prop :=
  ∃ ad cap, v = .slice ad ls.length cap ∧ (ls = [] ∨ ∃ g c, ad = some ⟨g, c, none⟩ ∧ g < w.heap.size ∧ ∀ (j : Nat) (cl : List CallP), ls[j]? = some cl → ∃ cv, w.cell? ⟨g, c + j, none⟩ = some cv ∧ CallsAt w cv cl)
theorem ListsAt.kept {w w' : World} {v : Value} {ls : List (List CallP)} (h : ListsAt w v ls) (k : CellsKept w w') : ListsAt w' v ls := by
  obtain ⟨ad, cap, rfl, h⟩ := h
  refine ⟨ad, cap, rfl, h.imp id ?_⟩
  rintro ⟨g, c, e, hg, hc⟩
  refine ⟨g, c, e, Nat.lt_of_lt_of_le hg k.1, fun j cl hj => ?_⟩
  obtain ⟨cv, a, i⟩ := hc j cl hj
  exact ⟨cv, k.cell a, i.kept k⟩
theorem ListsAt.shape {w : World} {v : Value} {ls : List (List CallP)} (h : ListsAt w v ls) : ∃ ad cap, v = .slice ad ls.length cap := by
  obtain ⟨ad, cap, rfl, _⟩ := h
  exact ⟨ad, cap, rfl⟩
theorem ListsAt.at {w : World} {v : Value} {ls : List (List CallP)} (h : ListsAt w v ls) {k : Nat} (hk : k < ls.length) :
    ∃ (cl : List CallP) (g c cap : Nat) (cv : Value), ls[k]? = some cl ∧ v = .slice (some ⟨g, c, none⟩) ls.length cap ∧ w.cell? ⟨g, c + k, none⟩ = some cv ∧ CallsAt w cv cl := by
  obtain ⟨ad, cap, rfl, rfl | ⟨g, c, rfl, hg, hc⟩⟩ := h
  · simp at hk
  · obtain ⟨cv, a, i⟩ := hc k ls[k] (List.getElem?_eq_getElem hk)
    exact ⟨ls[k], g, c, cap, cv, List.getElem?_eq_getElem hk, rfl, a, i⟩
theorem CallsOwn.at {w : World} {base : Nat} {v : Value} {cl : List CallP} (h : CallsOwn w base v cl) : CallsAt w v cl := by
  rcases Nat.eq_zero_or_pos cl.length with h0 | h0
  · obtain ⟨ad, cap, e⟩ := h.slice
    exact ⟨ad, cap, e, .inl (List.eq_nil_of_length_eq_zero h0)⟩
  · obtain ⟨_, g, cap, _, _, hv, hg, _⟩ := h.get h0
    refine ⟨_, cap, hv, .inr ⟨g, 0, rfl, hg, fun j o hj => ?_⟩⟩
    obtain ⟨o', g', cap', lv, ho, hv', _, a, b, c, d⟩ := h.get (List.getElem?_eq_some_iff.1 hj).1
    obtain rfl : o = o' := Option.some.inj (hj.symm.trans ho)
    obtain rfl : g = g' := by have := hv.symm.trans hv'; injection this with e; injection e with e; injection e
    rw [Nat.zero_add]
    exact ⟨lv, a, b, c, ints_of_owns d⟩
theorem ListsOwn.at {w : World} {base : Nat} {v : Value} {ls : List (List CallP)} (h : ListsOwn w base v ls) : ListsAt w v ls := by
  rcases Nat.eq_zero_or_pos ls.length with h0 | h0
  · obtain ⟨ad, cap, e⟩ := h.slice
    exact ⟨ad, cap, e, .inl (List.eq_nil_of_length_eq_zero h0)⟩
  · obtain ⟨_, g, cap, _, _, hv, hg, _⟩ := h.get h0
    refine ⟨_, cap, hv, .inr ⟨g, 0, rfl, hg, fun j cl hj => ?_⟩⟩
    obtain ⟨cl', g', cap', cv, ho, hv', _, a, b⟩ := h.get (List.getElem?_eq_some_iff.1 hj).1
    obtain rfl : cl = cl' := Option.some.inj (hj.symm.trans ho)
    obtain rfl : g = g' := by have := hv.symm.trans hv'; injection this with e; injection e with e; injection e
    rw [Nat.zero_add]
    exact ⟨cv, a, b.at⟩
def most : Nat := 9223372036854775807
def CallsLen (cl : List CallP) : Prop := cl.length ≤ 9223372036854775807 ∧ ∀ o ∈ cl, o.L.length ≤ 9223372036854775807
def ListsLen (ls : List (List CallP)) : Prop := ls.length ≤ 9223372036854775807 ∧ ∀ cl ∈ ls, CallsLen cl
end Go.Proofs.YtkdigojjeiidmaaDoor
