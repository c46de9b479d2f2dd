/-
  A region that draws its order, whose operations read and whose callees may lay new blocks: one walk in the text's order, at the class of all worlds in which the old blocks lie as they lay. No program in sight.
-/
import Derived.Test.YtkdigojjeiidmaaDoorSameCall
namespace Go.Proofs.YtkdigojjeiidmaaDoor
open Go Go.RowKit

/-- The worlds in which all that lay in w lies as it lay. -/
def Later (w : World) : Type := { w' : World // Below w.heap.size w w' }
instance (w : World) : Nonempty (Later w) := ⟨⟨w, Below.refl _ _⟩⟩
def Later.to {w : World} (x : Later w) : World := x.1
theorem Later.below {w : World} (x : Later w) : Below w.heap.size w x.to := x.2
theorem Later.cell {w : World} (x : Later w) {a : Addr} (h : a.block < w.heap.size) : x.to.cell? a = w.cell? a := x.below.cell h

theorem wp_region_later {P : Program} {id : Nat} {Q : Exit → Act → World → Prop} {a : Act} {w : World} {l : List Oper} (hm : P.follows .mixedOrders = true) (hB : Region.lexB .any l.toArray = true)
    (h : wpQuiet P l.toArray (fun w' => ∃ x : Later w, w' = x.to) (fun a' => ∀ w', (∃ x : Later w, w' = x.to) → Q .normal a' w') l a) : (Code.region id l.toArray true).wp P Q a w :=
  wp_region_quiet (C := fun w' => ∃ x : Later w, w' = x.to) hm hB ⟨⟨{ w with drawn := w.drawn + 1 }, ⟨rfl, rfl, rfl, Nat.le_refl _, fun _ _ => rfl⟩⟩, rfl⟩ (by simpa using h)

/-- A callee's contract in such a world. -/
theorem later_call {P : Program} {f : FuncId} {args : Array Value} {w : World} {x : Later w} {v : Value} (h : Calls P f args x.to fun e w' => e = .returned v ∧ Below x.to.heap.size x.to w') :
    Calls P f args x.to fun e w'' => e = .returned v ∧ ∃ y : Later w, w'' = y.to :=
  h.mono fun _ w'' ⟨he, hb⟩ => ⟨he, ⟨w'', x.below.trans (hb.mono x.below.size)⟩, rfl⟩
end Go.Proofs.YtkdigojjeiidmaaDoor
