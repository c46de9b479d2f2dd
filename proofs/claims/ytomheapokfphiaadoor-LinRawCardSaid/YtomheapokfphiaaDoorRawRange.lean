/-
  A range over an iterator whose values lie in memory: the iterator's contract, and the law for the caller. No program in sight.
  Conditions: every call goes in the widest fence; a round may go on, return, or leave by an exit.
-/
import Derived.Test.YtomheapokfphiaaDoorRawMem
namespace Go.Proofs.YtomheapokfphiaaDoor
open Go Go.RowKit

theorem cellsKept_put {W : World} {L : Nat} {o : Obj} (h : ∃ o', W.heap[L]? = some o' ∧ o'.isCells = false) : CellsKept W (W.putObj L o) := by
  obtain ⟨o', h1, h2⟩ := h
  refine ⟨by simp, fun g x hg hx => ?_⟩
  by_cases e : g = L
  · subst e
    rw [h1] at hg
    cases hg
    rw [h2] at hx; cases hx
  · exact (World.putObj_heap_other e).trans hg

/-- THE ITERATOR's CONTRACT: called in whatever later world, at whatever yield, it hands out xs, one by one. -/
def Gives2 {α : Type} (P : Program) (gf : Nat) (lb : Array Value) (enc : α → World → Value → Prop) (xs : List α) (w : World) : Prop :=
  ∀ (l : Nat) (J Jx : Nat → World → Prop) (W : World), CellsKept w W → (∀ k W W', J k W → Below W.heap.size W W' → J k W') →
    (∀ k x u W1, xs[k]? = some x → enc x W1 u → CellsKept w W1 → J k W1 → YieldAt Fence.wide 8 P l #[u] W1 fun e W' =>
      (e = .returned (.bool true) ∧ J (k + 1) W' ∧ CellsKept W1 W') ∨ (e = .returned (.bool false) ∧ Jx k W')) →
    J 0 W →
    CallsIn Fence.wide 9 P gf (#[.func (.yield l) #[] #[]] ++ lb) W fun e W' => (∃ v, e = .returned v) ∧ (J xs.length W' ∨ ∃ k, k < xs.length ∧ Jx k W')

/-- How a round's body may be left. -/
def roundEnds2 (I : Nat → World → Prop) (Ix : Code → Nat → World → Prop) (k : Nat) (W : World) : Exit → Act → World → Prop
  | .normal, _, W' => KeepsOthers W W' ∧ CellsKept W W' ∧ I (k + 1) W'
  | .ret, _, W' => KeepsOthers W W' ∧ Ix .ret k W'
  | .exit id, _, W' => KeepsOthers W W' ∧ Ix (.exit id) k W'
  | .goto _, _, _ => False
  | .panic _, _, _ => False
  | .outgrown, _, _ => False

/-- THE LAW. -/
theorem range_law2 {α : Type} {P : Program} {g : Operand} {p : Tmp} {assign body : Code} {Q : Exit → Act → World → Prop} {a : Act} {w : World}
    {gf : Nat} {lb : Array Value} (hg : a.eval g = .func (.func gf) #[] lb) (eg : ∀ args w, (callFunc gf args).run P w = .ok (.enter gf args) w)
    {enc : α → World → Value → Prop} {xs : List α} (henc : ∀ x W W' u, enc x W u → CellsKept W W' → enc x W' u)
    (hseq : Gives2 P gf lb enc xs w)
    (I : Nat → World → Prop) (Ix : Code → Nat → World → Prop) (hI : ∀ k W W', I k W → Below W.heap.size W W' → I k W')
    (hIp : ∀ k W r o, I k W → w.heap.size ≤ r → (∃ o', W.heap[r]? = some o' ∧ o'.isCells = false) → I k (W.putObj r o))
    (hIx : ∀ c k W r o, Ix c k W → w.heap.size ≤ r → (∃ o', W.heap[r]? = some o' ∧ o'.isCells = false) → Ix c k (W.putObj r o))
    (h0 : I 0 w) (a₁ : Value → Act)
    (hassign : ∀ (l : Nat) (u : Value) (W : World) (K : Act → World → Prop), K (a₁ u) W →
      assign.wpIn (Fence.wide.inRound l) 8 P (Exit.then K (fun _ _ _ => False)) { tmps := (#[p].zip #[u]).foldl (fun t (p, v) => t.setIfInBounds p v) a.tmps, defers := [] } W)
    (hbody : ∀ (l k : Nat) (x : α) (u : Value) (W : World), xs[k]? = some x → enc x W u → CellsKept w W → I k W → w.heap.size ≤ W.heap.size → body.wpIn (Fence.wide.inRound l) 8 P (roundEnds2 I Ix k W) (a₁ u) W)
    (hdone : ∀ (D : Nat) (W : World), w.heap.size ≤ D → I xs.length W → W.heap[D]? = some (.deferred (some [])) → Q .normal { a with defers := { target := .collected D, args := #[] } :: a.defers } W)
    (hstop : ∀ (D : Nat) (c : Code) (k : Nat) (W : World), w.heap.size ≤ D → k < xs.length → Ix c k W → W.heap[D]? = some (.deferred (some [])) →
      c.wpIn Fence.wide 10 P Q { a with defers := { target := .collected D, args := #[] } :: a.defers } W) :
    (Code.rangeFunc g #[p] assign body).wpIn Fence.wide 10 P Q a w := by
  refine wpIn_rangeFunc ?_
  intro fn hfn
  let rc : LoopState → Option Code → Obj := fun st pe => .loop { state := st, pending := pe, fn, tmps := a.tmps, params := #[p], assign, body, defers := w.heap.size }
  let L := w.heap.size + 1
  let W1 : World := (w.alloc (.deferred (some []))).alloc (rc .ready none)
  have hs1 : W1.heap.size = w.heap.size + 2 := by simp [W1]
  have hL1 : W1.heap[L]? = some (rc .ready none) := by
    have := World.alloc_heap_new (w.alloc (.deferred (some []))) (rc .ready none); rwa [World.size_alloc] at this
  have hD1 : W1.heap[w.heap.size]? = some (.deferred (some [])) := (Below.heap_alloc _ _ _ (by simp)).trans (World.alloc_heap_new w _)
  have hbw1 : Below w.heap.size w W1 := ((Below.refl _ w).alloc (Nat.le_refl _) _).alloc (by simp) _
  let Bk : LoopState → Option Code → World → Prop := fun st pe W => W.heap[L]? = some (rc st pe) ∧ W.heap[w.heap.size]? = some (.deferred (some [])) ∧ w.heap.size ≤ W.heap.size ∧ CellsKept w W
  have bkStep : ∀ {st pe W W'}, Bk st pe W → Below W.heap.size W W' → Bk st pe W' := fun ⟨h1, h2, h3, h4⟩ hb =>
    ⟨(hb.block _ (Array.getElem?_eq_some_iff.1 h1).1).trans h1, (hb.block _ (Array.getElem?_eq_some_iff.1 h2).1).trans h2, Nat.le_trans h3 hb.size, h4.trans (CellsKept.of hb)⟩
  have bkL : ∀ {st pe W}, Bk st pe W → ∃ o', W.heap[L]? = some o' ∧ o'.isCells = false := fun h => ⟨_, h.1, rfl⟩
  have bkPut : ∀ {st pe W} (st' : LoopState) (pe' : Option Code), Bk st pe W → Bk st' pe' (W.putObj L (rc st' pe')) := fun st' pe' h =>
    ⟨World.putObj_heap_same (Array.getElem?_eq_some_iff.1 h.1).1, (World.putObj_heap_other (by simp only [L]; omega)).trans h.2.1, by simpa using h.2.2.1, h.2.2.2.trans (cellsKept_put (bkL h))⟩
  have hLb : w.heap.size ≤ L := by simp only [L]; omega
  refine ⟨L, [{ target := .collected w.heap.size, args := #[] }], W1, { target := .fn (.func gf) lb, args := #[.func (.yield L) #[] #[]] }, W1, gf, #[.func (.yield L) #[] #[]] ++ lb, W1, ?_, ?_, ?_, ?_, (fun h => by cases h), ?_⟩
  · exact run_enterLoop_outer _ _ _ _ _
  · simp only [resolve, hg]
    simp [go_sem]
  · intro f' _; trivial
  · simp [invoke, go_sem, eg]
  refine (hseq L (fun k W => I k W ∧ Bk .ready none W) (fun k W => ∃ c, Ix c k W ∧ W.heap[L]? = some (rc .done (some c)) ∧ W.heap[w.heap.size]? = some (.deferred (some [])) ∧ w.heap.size ≤ W.heap.size) W1 (CellsKept.of hbw1)
    (fun k A A' hs hb => ⟨hI k A A' hs.1 hb, bkStep hs.2 hb⟩)
    ?_ ⟨hI _ _ _ (hI _ _ _ h0 ((Below.refl _ w).alloc (Nat.le_refl _) _)) ((Below.refl _ (w.alloc (.deferred (some [])))).alloc (Nat.le_refl _) _), hL1, hD1, by omega, CellsKept.of hbw1⟩).mono ?_
  · rintro k x u W hx hu _ ⟨hi, hb⟩
    have hy : (Instr.yield L #[u]).run P W = .ok (.round L fn ((#[p].zip #[u]).foldl (fun t (p, v) => t.setIfInBounds p v) a.tmps) assign body) W := run_yield (P := P) (args := #[u]) hb.1 rfl
    refine ⟨fn, _, assign, body, hy, roundIn_of_wpIn hfn (hassign _ u W _ ⟨_, run_beginRound hb.1 rfl, ?_⟩)⟩
    have hb2 : Bk .busy none (W.putObj L (rc .busy none)) := bkPut _ _ hb
    have hk1 := cellsKept_put (o := rc .busy none) (bkL hb)
    refine wpIn_mono (hbody L k x u _ hx (henc x _ _ u hu hk1) hb2.2.2.2 (hIp _ _ _ _ hi hLb (bkL hb)) hb2.2.2.1) ?_
    have after : ∀ (W3 : World), KeepsOthers (W.putObj L (rc .busy none)) W3 → W3.heap[L]? = some (rc .busy none) ∧ W3.heap[w.heap.size]? = some (.deferred (some [])) ∧ w.heap.size ≤ W3.heap.size := fun W3 hk =>
      ⟨hk.same _ _ hb2.1 rfl, hk.same _ _ hb2.2.1 rfl, Nat.le_trans hb2.2.2.1 hk.size⟩
    rintro e a3 W3 hp
    cases e with
    | normal =>
      obtain ⟨hk3, hkc, hi3⟩ := hp
      obtain ⟨q1, q2, q3⟩ := after W3 hk3
      have hb3 : Bk .busy none W3 := ⟨q1, q2, q3, hb2.2.2.2.trans hkc⟩
      exact ⟨_, _, run_endRound (P := P) none hb3.1, .inl ⟨rfl, ⟨hIp _ _ _ _ hi3 hLb (bkL hb3), bkPut .ready none hb3⟩, (hk1.trans hkc).trans (cellsKept_put (bkL hb3))⟩⟩
    | ret =>
      obtain ⟨hk3, hi3⟩ := hp
      obtain ⟨q1, q2, q3⟩ := after W3 hk3
      have hL3 : ∃ o', W3.heap[L]? = some o' ∧ o'.isCells = false := ⟨_, q1, rfl⟩
      exact ⟨_, _, run_endRound (P := P) (some .ret) q1, .inr ⟨rfl, .ret, hIx _ _ _ _ _ hi3 hLb hL3, World.putObj_heap_same (Array.getElem?_eq_some_iff.1 q1).1, (World.putObj_heap_other (by simp only [L]; omega)).trans q2, by simpa using q3⟩⟩
    | exit id =>
      obtain ⟨hk3, hi3⟩ := hp
      obtain ⟨q1, q2, q3⟩ := after W3 hk3
      have hL3 : ∃ o', W3.heap[L]? = some o' ∧ o'.isCells = false := ⟨_, q1, rfl⟩
      exact ⟨_, _, run_endRound (P := P) (some (.exit id)) q1, .inr ⟨rfl, .exit id, hIx _ _ _ _ _ hi3 hLb hL3, World.putObj_heap_same (Array.getElem?_eq_some_iff.1 q1).1, (World.putObj_heap_other (by simp only [L]; omega)).trans q2, by simpa using q3⟩⟩
    | goto t => exact hp.elim
    | panic ch => exact hp.elim
    | outgrown => exact hp.elim
  · rintro e W2 ⟨⟨v, rfl⟩, (⟨hi, hb⟩ | ⟨k, hk, c, hi, q1, q2, q3⟩)⟩
    · exact ⟨none, _, run_endLoop (P := P) hb.1 (by simp), hdone _ _ (Nat.le_refl _) (hIp _ _ _ _ hi hLb (bkL hb)) ((bkPut .exhausted none hb).2.1)⟩
    · have hL3 : ∃ o', W2.heap[L]? = some o' ∧ o'.isCells = false := ⟨_, q1, rfl⟩
      exact ⟨some c, _, run_endLoop (P := P) q1 (by simp), hstop _ c k _ (Nat.le_refl _) hk (hIx _ _ _ _ _ hi hLb hL3) ((World.putObj_heap_other (by simp only [L]; omega)).trans q2)⟩
end Go.Proofs.YtomheapokfphiaaDoor
