/-
  LinRaw over what came in.
-/
import Derived.Test.YtomheapokfphiaaDoorLinRaw
import Derived.Test.YtomheapokfphiaaDoorRawArgs
namespace Go.Proofs.YtomheapokfphiaaDoor
open Go Go.RowKit Go.Shelf

theorem linRaw_row (pages : Int) (a1 : Option Addr) (n1 c1 : Nat) (l : List OpP) (a2 : Option Addr) (n2 c2 : Nat) (order : List Int) (_ : -9223372036854775808 ≤ pages) (_ : pages ≤ 9223372036854775807) (W : World)
    (hl : OpsAt W (.slice a1 n1 c1) l ∧ ∀ i, i < l.length → (opAt l i).fits) (ho : IntsAt W (.slice a2 n2 c2) order) (hT : Tab W) :
    Calls Tryd.prog 12 #[.int .i64 pages, .slice a1 n1 c1, .slice a2 n2 c2] W fun e w' => e = .returned (.bool true) ∧ Below W.heap.size W w' :=
  linRaw_any pages l hl.2 order _ _ W hl.1 ho hT
end Go.Proofs.YtomheapokfphiaaDoor
