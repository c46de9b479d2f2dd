/-
  What the laws' rows share: the table off the row's list, the witness's world, the row's last step.
-/
import Derived.Test.YtomheapokfphiaaDoorCards
import Derived.Test.YtomheapokfphiaaDoorTie
import Derived.Test.YtomheapokfphiaaDoorClass
import Derived.OpenShut
import Derived.Below
import Derived.Deep.DeepHandedRow
namespace Go.Proofs.YtomheapokfphiaaDoor
open Go.ChangeShapes Go.WideShapes Go.ChangeAt Go.RowKit

theorem own : ownKnob Tryd.prog.godebug = none := by kernel_rfl
theorem gTab : Tryd.prog.globalNamed "dustpan/class.table" = some 0 := by kernel_rfl
theorem gTabType : (Tryd.prog.globals[0]?).map (·.type) = some 55 := by kernel_rfl
theorem cells54 : Tryd.prog.cellsOf 54 = 2 := by kernel_rfl
theorem cells3 : Tryd.prog.cellsOf 3 = 1 := by kernel_rfl
theorem laidOut : laidOutB Tryd.prog = true := by kernel_rfl

def rowData {H : Type} (c : Nat) : DataW H := .agg [.lit (.int .i64 (sz c)), .lit (.int .i64 (pg c))]
theorem laid_is {H : Type} : (Rows.laid_dustpan_class_table : DataW H) = .agg ((List.range 14).map rowData) := rfl

theorem two_of_row {H : Type} {enc : TypeId × Value → H} {w : World} {sp : Nat → Bool} {held : Bool} {m : Nat} {l : List Value} {c : Nat} {p : List MemPlace}
    (h : DataW.trod enc Tryd.prog w 0 sp held m 54 l = some (rowData c, p)) : l = [.int .i64 (sz c), .int .i64 (pg c)] := by
  obtain ⟨y0, y1, n, hx, hlen, h0, h1⟩ := trod_struct2 Tryd.underlying54 h
  rw [cells54] at hlen
  match l, hlen with
  | [a, b], _ =>
    simp only [cells3] at h0 h1
    obtain ⟨z0, e0, rfl, _⟩ := DataW.trod_int Tryd.underlying3 h0
    obtain ⟨z1, e1, rfl, _⟩ := DataW.trod_int Tryd.underlying3 h1
    simp at e0 e1
    subst e0 e1
    simp only [rowData, Prod.mk.injEq, DataW.agg.injEq, List.cons.injEq, DataW.lit.injEq, Lit.int.injEq, true_and, and_true] at hx
    rw [← hx.1.1, ← hx.1.2]

theorem tab_of_laid {W : World} (h : laidMetH Tryd.prog [("dustpan/class.table", Rows.laid_dustpan_class_table)] W) : Tab W := by
  obtain ⟨ps, ⟨g', t', cs, fuel, p, q, hg', ht', hvar, hd, _, _⟩, _⟩ := h
  obtain rfl := Option.some.inj (gTab.symm.trans hg')
  obtain rfl := Option.some.inj (gTabType.symm.trans ht')
  rw [laid_is] at hd
  obtain ⟨xs, m, _, hx, hl, hlen, hf⟩ := DataW.trod_array Tryd.underlying55 hd
  have hxs : xs.map (·.1) = (List.range 14).map rowData := by
    have := congrArg Prod.fst hx
    simpa using this.symm
  have key : ∀ c, c < 14 → ((cs.toList.drop (c * 2)).take 2) = [.int .i64 (sz c), .int .i64 (pg c)] := by
    intro c hc
    have hfc := hf c hc
    rw [cells54] at hfc
    have hxc : (xs[c]?).map (·.1) = some (rowData c) := by
      have := congrArg (·[c]?) hxs
      simpa [hc] using this
    obtain ⟨x, hx1, hx2⟩ := Option.map_eq_some_iff.1 hxc
    obtain ⟨d, p⟩ := x
    simp only at hx2
    subst hx2
    exact two_of_row (hfc.trans hx1)
  have hcell := World.var?_cell gTab hvar
  have h0 : ∀ c, c < 14 → W.cell? ⟨0, c * 2, none⟩ = some (.int .i64 (sz c)) := by
    intro c hc
    rw [hcell]
    have := congrArg (·[0]?) (key c hc)
    simpa [List.getElem?_take, List.getElem?_drop] using this
  have h1 : ∀ c, c < 14 → W.cell? ⟨0, c * 2 + 1, none⟩ = some (.int .i64 (pg c)) := by
    intro c hc
    rw [hcell]
    have := congrArg (·[1]?) (key c hc)
    simpa [List.getElem?_take, List.getElem?_drop] using this
  refine ⟨h0, h1, ?_⟩
  have := h0 0 (by decide)
  rcases Nat.eq_zero_or_pos W.heap.size with hz | hz
  · simp [World.cell?, hz] at this
  · exact hz

/-- The row's last step where the walk says that all old blocks are as they were. -/
theorem post_below {H : Type} {enc : TypeId × Value → H} {P : Program} {f : Func} {s : ChangeSpec} {apart fresh handsOn again : Bool} {W W' : World} {args : Array Value} {v : Value} {ds gs : List (DataW H)} {before pa pv : List MemPlace}
    (hW : DataW.Whole enc P f.params.toList s.vars apart W args.toList ds gs before)
    (hres : ∀ (b : Nat) (sp : Nat → Bool) (hd : Bool), DataW.TrodAll enc P W' b sp hd f.resultTypes.toList (v.resultList f.resultTypes.size) (s.fn H (ds ++ gs)).results [])
    (hargs : ∀ sp : Nat → Bool, (∀ p ∈ before, sp p.block = true) → DataW.TrodAll enc P W' 0 sp true f.params.toList args.toList (s.fn H (ds ++ gs)).args pa)
    (hvars : ∀ sp : Nat → Bool, (∀ p ∈ before, sp p.block = true) → DataW.TrodVars enc P W' sp s.vars (s.fn H (ds ++ gs)).vars pv)
    (hps : before = pa ++ pv) (hb : Below W.heap.size W W')
    (hok : ∀ (j : Nat) (t : TypeId) (r : Value), f.resultTypes[j]? = some t → (v.resultList f.resultTypes.size)[j]? = some r → Value.okWide P W' .any 0 t r) :
    s.post enc P f apart fresh handsOn again W args v W' := by
  have hlt : ∀ p ∈ before, p.block < W.heap.size := fun p hp => hW.lt p hp
  have hold : ∀ p ∈ before, (fun b => decide (b < W.heap.size)) p.block = true := fun p hp => by simpa using hlt p hp
  refine ⟨ds, gs, before, [], pa, pv, hW, hres _ _ _, hargs _ hold, hvars _ hold, World.keptBut_mono (fun p hp => ⟨hp, ?_⟩) (hb.frame (· ∈ before)), fun _ => ?_⟩
  · rw [hps, List.mem_append] at hp
    exact Or.inr hp
  · obtain ⟨_, _, _, _, _, hz, hn⟩ := hW
    refine ⟨hok, _, _, ([] ++ pa) ++ pv, ⟨[] ++ pa, pv, trodAll_append (hargs _ (fun _ _ => rfl)) (hres _ _ _), hvars _ (fun _ _ => rfl), rfl, ?_, ?_⟩, ?_⟩
    · intro b off hp
      have hin : MemPlace.cell b off ∈ before := by rw [hps]; simpa using hp
      rw [hb.frozen (hlt _ hin)]
      exact hz b off hin
    · intro ha
      have := hn ha
      rw [hps] at this
      simpa using this
    · intro p hp _
      rw [hps]
      simpa using hp

theorem below_drewN {B : Nat} {a w : World} (h : Below B a w) (n : Nat) : Below B a (w.drewN n) := ⟨h.os, h.tape, h.output, h.size, h.block⟩

/-- A world for a witness: the settled one, the table (block 0) holding what its initialiser lays. -/
noncomputable def laidWorld (os : Os) : World :=
  { World.holding Tryd.prog os ⟨#[], #[], []⟩ with heap := (World.holding Tryd.prog os ⟨#[], #[], []⟩).heap.modify 0 fun
      | .cells _ t frozen => .cells #[.int .i64 128, .int .i64 1, .int .i64 192, .int .i64 1, .int .i64 256, .int .i64 1, .int .i64 384, .int .i64 1, .int .i64 512, .int .i64 1, .int .i64 768, .int .i64 1, .int .i64 1024, .int .i64 1, .int .i64 1536, .int .i64 3, .int .i64 2048, .int .i64 1, .int .i64 3072, .int .i64 3, .int .i64 4096, .int .i64 1, .int .i64 6144, .int .i64 3, .int .i64 8192, .int .i64 2, .int .i64 12288, .int .i64 3] t frozen
      | o => o }

end Go.Proofs.YtomheapokfphiaaDoor
