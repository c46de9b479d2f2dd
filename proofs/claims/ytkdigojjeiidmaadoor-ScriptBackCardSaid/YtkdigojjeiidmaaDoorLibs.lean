/-
  strconv.Atoi at any text; strings.Split at a blank.
-/
import Derived.Test.YtkdigojjeiidmaaDoorSplit
namespace Go.Proofs.YtkdigojjeiidmaaDoor
open Go Go.RowKit Go.Shelf

/-- What the listed variables hold, as far as it is used. -/
structure Vars (w : World) : Prop where
  pow : Pow w
  syn : ∃ te pe, w.cell? ⟨0, 0, none⟩ = some (.iface te pe)
  ran : ∃ te pe, w.cell? ⟨1, 0, none⟩ = some (.iface te pe)
  mx : ∃ m, w.cell? ⟨3, 0, none⟩ = some (.int .i64 m)
theorem Vars.below {w w' : World} (h : Vars w) (hb : Below w.heap.size w w') : Vars w' := by
  have kp : ∀ {a : Addr} {v : Value}, w.cell? a = some v → w'.cell? a = some v := fun {a} {v} hc => (hb.cell (World.block_lt_of_cell? _ _ hc)).trans hc
  obtain ⟨t1, p1, e1⟩ := h.syn
  obtain ⟨t2, p2, e2⟩ := h.ran
  obtain ⟨m, e3⟩ := h.mx
  exact ⟨h.pow.below hb, ⟨t1, p1, kp e1⟩, ⟨t2, p2, kp e2⟩, ⟨m, kp e3⟩⟩
theorem below_bytesWorld (w : World) (t : TypeId) (x : ByteArray) : Below w.heap.size w (Lib.bytesWorld w t x) := Joins.below_bytesWorld _ w t x (Nat.le_refl _)
/-- How Atoi ends. -/
def AtoiEnds (l : List UInt8) (n : Int) (err : Value) : Prop := (Lib.atoiAll l = .ok n ∧ err = .nilIface) ∨ ((∀ v, Lib.atoiAll l ≠ .ok v) ∧ ∃ t p, err = .iface t p)
theorem atoi_any (s : ByteArray) (hlim : s.size ≤ 281474976710656) (w : World) (hv : Vars w) :
    Calls Tryd.prog 39 #[.string s] w fun e w' => ∃ n err, e = .returned (.tuple #[.int .i64 n, err]) ∧ AtoiEnds s.data.toList n err ∧ Below w.heap.size w w' := by
  obtain ⟨t1, p1, e1⟩ := hv.syn
  obtain ⟨t2, p2, e2⟩ := hv.ran
  rcases h : Lib.atoiAll s.data.toList with v | _ | _
  · refine (Any.strconv_Atoi_ok Tryd.lays172 s (by omega) v h w).mono ?_
    rintro e w' ⟨rfl, hw⟩
    refine ⟨v, .nilIface, rfl, .inl ⟨h, rfl⟩, ?_⟩
    rcases hw with rfl | ⟨t, rfl⟩
    · exact Below.refl _ _
    · exact below_bytesWorld _ _ _
  · refine (Any.strconv_Atoi_syntax Tryd.lays172 s hlim h _ w e1 (.inr ⟨_, _, rfl⟩)).mono ?_
    rintro e w' ⟨N, rfl, _, _, hb⟩
    exact ⟨_, _, rfl, .inr ⟨(fun v hv => by rw [h] at hv; cases hv), _, _, rfl⟩, hb⟩
  · refine (Any.strconv_Atoi_range Tryd.lays172 s hlim h _ w e2 (.inr ⟨_, _, rfl⟩)).mono ?_
    rintro e w' ⟨N, rfl, _, _, hb⟩
    exact ⟨_, _, rfl, .inr ⟨(fun v hv => by rw [h] at hv; cases hv), _, _, rfl⟩, hb⟩
def blank : ByteArray := ⟨#[32]⟩
def piecesB (s : ByteArray) : List ByteArray := Lib.splitB blank 0 (Lib.countB s blank) s
theorem pieces_len (s : ByteArray) : (piecesB s).length = Lib.countB s blank + 1 := Lib.splitB_all blank (by decide) 0 _ s rfl
theorem split_any (s : ByteArray) (hs : s.size < 4294967281) (w : World) (hv : Vars w) :
    Calls Tryd.prog 38 #[.string s, .string ⟨#[32]⟩] w fun e w' => e = .returned (.slice (some ⟨w.heap.size, 0, none⟩) (piecesB s).length (piecesB s).length) ∧ w' = w.alloc (.cells ((piecesB s).map Value.string).toArray 9) := by
  obtain ⟨m, hm⟩ := hv.mx
  rw [pieces_len]
  exact Any.strings_Split Tryd.lays146 (by kernel_rfl) s blank m w hs hm (by decide)
end Go.Proofs.YtkdigojjeiidmaaDoor
