/-
  A range over an iterator that keeps its place in a captured variable (one cell of a block of its own): the iterator's contract, and the law for the caller. No program in sight.
  Conditions: every call goes in the widest fence; a round may go on, return, or leave by an exit.
-/
import Derived.RangeFuncOwn
import Derived.RangeFuncLeaves
import Derived.RangeFuncCalls
import Derived.RangeFuncBound
import Derived.Shelf.Abstract
namespace Go.Proofs.YtjgadfeplaiclaaDoor
open Go Go.RowKit

/-- These blocks lie as they lay. -/
def KeptB (bs : List Nat) (W W' : World) : Prop := ∀ b ∈ bs, W'.heap[b]? = W.heap[b]?
theorem KeptB.refl (bs : List Nat) (W : World) : KeptB bs W W := fun _ _ => rfl
theorem KeptB.trans {bs : List Nat} {A B C : World} (h : KeptB bs A B) (k : KeptB bs B C) : KeptB bs A C := fun b hb => (k b hb).trans (h b hb)
theorem KeptB.alloc {bs : List Nat} {W : World} (h : ∀ b ∈ bs, b < W.heap.size) (o : Obj) : KeptB bs W (W.alloc o) := fun b hb => Below.heap_alloc W o b (h b hb)
theorem KeptB.setCell {bs : List Nat} {W : World} {a : Addr} (h : ¬ a.block ∈ bs) (v : Value) : KeptB bs W (W.setCell a v) := fun b hb => Below.heap_setCell W a v b (fun e => h (by rw [← e]; exact hb))
theorem KeptB.putObj {bs : List Nat} {W : World} {l : Nat} (h : ¬ l ∈ bs) (o : Obj) : KeptB bs W (W.putObj l o) := fun b hb => World.putObj_heap_other (fun e => h (by rw [← e]; exact hb))
theorem KeptB.drew {bs : List Nat} (W : World) : KeptB bs W W.drew := fun _ _ => rfl
theorem KeptB.below {bs : List Nat} {n : Nat} {W W' : World} (h : Below n W W') (hb : ∀ b ∈ bs, b < n) : KeptB bs W W' := fun b hm => h.block b (hb b hm)

/-- The iterator's steps: new blocks, and turns of its own block B. -/
def Steps (B : Nat) (J : Nat → World → Prop) : Prop := ∀ k W W', J k W → W.grownBy W' (some B) → J k W'

/-- THE ITERATOR's CONTRACT: called in whatever later world that keeps its blocks, at whatever yield, it hands out xs, one by one. -/
def Gives {α : Type} (P : Program) (n gf : Nat) (lb : Array Value) (encs : α → Array Value) (B : Nat) (bs : List Nat) (xs : List α) (w : World) : Prop :=
  ∀ (l : Nat) (J Jx : Nat → World → Prop) (W : World), KeptB bs w W → w.heap.size ≤ W.heap.size → Steps B J → Steps B Jx →
    (∀ k x W1, xs[k]? = some x → J k W1 → YieldAt Fence.wide (n - 1) P l (encs x) W1 fun e W' =>
      (e = .returned (.bool true) ∧ J (k + 1) W' ∧ KeptB bs W1 W') ∨ (e = .returned (.bool false) ∧ Jx k W')) →
    J 0 W →
    CallsIn Fence.wide n P gf (#[.func (.yield l) #[] #[]] ++ lb) W fun e W' => (∃ v, e = .returned v) ∧ (J xs.length W' ∨ ∃ k, k < xs.length ∧ Jx k W')

theorem Gives.later {α : Type} {P : Program} {n gf : Nat} {lb : Array Value} {encs : α → Array Value} {B : Nat} {bs : List Nat} {xs : List α} {w w' : World}
    (h : Gives P n gf lb encs B bs xs w) (hk : KeptB bs w w') (hs : w.heap.size ≤ w'.heap.size) : Gives P n gf lb encs B bs xs w' :=
  fun l J Jx W hW hW2 hJ hJx hY h0 => h l J Jx W (hk.trans hW) (Nat.le_trans hs hW2) hJ hJx hY h0

/-- THE CALLER's INVARIANT: it abides the turn of the iterator's block, and of a block from base on that holds no cells. -/
def OwnAt (B base : Nat) (I : Nat → World → Prop) : Prop :=
  ∀ k W W' r, I k W → W.grownBy W' (some r) → (r = B ∨ (base ≤ r ∧ ∃ o : Obj, W.heap[r]? = some o ∧ o.isCells = false)) → I k W'

theorem grown_some {W W' : World} {row : Option Nat} (r : Nat) (h : W.grownBy W' row) (hr : row = none ∨ row = some r) : W.grownBy W' (some r) :=
  ⟨h.os, h.tape, h.output, h.size, fun k hk hne => h.block k hk (by rcases hr with e | e <;> rw [e]; simp; exact hne)⟩

/-- How a round's body may be left. -/
def roundEnds (bs : List Nat) (I : Nat → World → Prop) (Ix : Code → Nat → World → Prop) (k : Nat) (W : World) : Exit → Act → World → Prop
  | .normal, _, W' => KeepsOthers W W' ∧ KeptB bs W W' ∧ I (k + 1) W'
  | .ret, _, W' => KeepsOthers W W' ∧ Ix .ret k W'
  | .exit id, _, W' => KeepsOthers W W' ∧ Ix (.exit id) k W'
  | .goto _, _, _ => False
  | .panic _, _, _ => False
  | .outgrown, _, _ => False

/-- THE LAW. -/
theorem range_law {α : Type} {P : Program} {n : Nat} {g : Operand} {ps : Array Tmp} {assign body : Code} {Q : Exit → Act → World → Prop} {a : Act} {w : World}
    {gf : Nat} {lb : Array Value} (hg : a.eval g = .func (.func gf) #[] lb) (eg : ∀ args w, (callFunc gf args).run P w = .ok (.enter gf args) w)
    {encs : α → Array Value} {B : Nat} {bs : List Nat} {xs : List α} (hB : B < w.heap.size) (hbs : ∀ b ∈ bs, b < w.heap.size)
    (hseq : Gives P (n - 1) gf lb encs B bs xs w) (hps : ∀ x, (encs x).size = ps.size)
    (I : Nat → World → Prop) (Ix : Code → Nat → World → Prop) (hI : OwnAt B w.heap.size I) (hIx : ∀ c, OwnAt B w.heap.size (Ix c)) (h0 : I 0 w) (a₁ : α → Act)
    (hassign : ∀ (l : Nat) (x : α) (W : World) (K : Act → World → Prop), K (a₁ x) W →
      assign.wpIn (Fence.wide.inRound l) (n - 1 - 1) P (Exit.then K (fun _ _ _ => False)) { tmps := (ps.zip (encs x)).foldl (fun t (p, v) => t.setIfInBounds p v) a.tmps, defers := [] } W)
    (hbody : ∀ (l k : Nat) (x : α) (W : World), xs[k]? = some x → I k W → w.heap.size ≤ W.heap.size → body.wpIn (Fence.wide.inRound l) (n - 1 - 1) P (roundEnds bs I Ix k W) (a₁ x) W)
    (hdone : ∀ (D : Nat) (W : World), w.heap.size ≤ D → I xs.length W → W.heap[D]? = some (.deferred (some [])) → Q .normal { a with defers := { target := .collected D, args := #[] } :: a.defers } W)
    (hstop : ∀ (D : Nat) (c : Code) (k : Nat) (W : World), w.heap.size ≤ D → k < xs.length → Ix c k W → W.heap[D]? = some (.deferred (some [])) →
      c.wpIn Fence.wide n P Q { a with defers := { target := .collected D, args := #[] } :: a.defers } W) :
    (Code.rangeFunc g ps assign body).wpIn Fence.wide n P Q a w := by
  refine wpIn_rangeFunc ?_
  intro fn hfn
  -- the record, in each of its states
  let rc : LoopState → Option Code → Obj := fun st pe => .loop { state := st, pending := pe, fn, tmps := a.tmps, params := ps, assign, body, defers := w.heap.size }
  let L := w.heap.size + 1
  let W1 : World := (w.alloc (.deferred (some []))).alloc (rc .ready none)
  have hs1 : W1.heap.size = w.heap.size + 2 := by simp [W1]
  have hL1 : W1.heap[L]? = some (rc .ready none) := by
    have := World.alloc_heap_new (w.alloc (.deferred (some []))) (rc .ready none); rwa [World.size_alloc] at this
  have hD1 : W1.heap[w.heap.size]? = some (.deferred (some [])) := (Below.heap_alloc _ _ _ (by simp)).trans (World.alloc_heap_new w _)
  -- what the law itself carries along: the record stands so, the block of deferred calls is empty
  let Bk : LoopState → Option Code → World → Prop := fun st pe W => W.heap[L]? = some (rc st pe) ∧ W.heap[w.heap.size]? = some (.deferred (some [])) ∧ w.heap.size ≤ W.heap.size
  have bkStep : ∀ {st pe W W'}, Bk st pe W → W.grownBy W' (some B) → Bk st pe W' := fun ⟨h1, h2, h3⟩ hgr =>
    ⟨(hgr.block _ (Array.getElem?_eq_some_iff.1 h1).1 (by simp only [ne_eq, Option.some.injEq, L]; omega)).trans h1,
      (hgr.block _ (Array.getElem?_eq_some_iff.1 h2).1 (by simp only [ne_eq, Option.some.injEq]; omega)).trans h2, Nat.le_trans h3 hgr.size⟩
  have bkPut : ∀ {st pe W} (st' : LoopState) (pe' : Option Code), Bk st pe W → Bk st' pe' (W.putObj L (rc st' pe')) := fun st' pe' ⟨h1, h2, h3⟩ =>
    ⟨World.putObj_heap_same (Array.getElem?_eq_some_iff.1 h1).1, (World.putObj_heap_other (by simp only [L]; omega)).trans h2, by simpa using h3⟩
  have iPut : ∀ {J : Nat → World → Prop} {k st pe W} (o : Obj), OwnAt B w.heap.size J → Bk st pe W → J k W → J k (W.putObj L o) := fun o hJ hb hj =>
    hJ _ _ _ L hj (grownBy_putObj' _ _ _) (.inr ⟨by simp only [L]; omega, _, hb.1, rfl⟩)
  have iAlloc : ∀ {W : World} (o : Obj), I 0 W → I 0 (W.alloc o) := fun o hj =>
    hI _ _ _ B hj (grown_some B (World.grownBy_alloc _ o none) (.inl rfl)) (.inl rfl)
  have kPut : ∀ (W : World) (o : Obj), KeptB bs W (W.putObj L o) := fun W o => KeptB.putObj (fun hm => by have := hbs _ hm; simp only [L] at this; omega) o
  have kStart : KeptB bs w W1 := (KeptB.alloc hbs _).trans (KeptB.alloc (fun b hb => by have := hbs b hb; simp; omega) _)
  refine ⟨L, [{ target := .collected w.heap.size, args := #[] }], W1, { target := .fn (.func gf) lb, args := #[.func (.yield L) #[] #[]] }, W1, gf, #[.func (.yield L) #[] #[]] ++ lb, W1, ?_, ?_, ?_, ?_, (fun h => by cases h), ?_⟩
  · exact run_enterLoop_outer _ _ _ _ _
  · simp only [resolve, hg]
    simp [go_sem]
  · intro f' _; trivial
  · simp [invoke, go_sem, eg]
  refine (hseq L (fun k W => I k W ∧ Bk .ready none W) (fun k W => ∃ c, Ix c k W ∧ Bk .done (some c) W) W1 kStart (by omega)
    (fun k A A' hs hgr => ⟨hI k A A' B hs.1 hgr (.inl rfl), bkStep hs.2 hgr⟩)
    (fun k A A' hs hgr => by obtain ⟨c, hc, hb⟩ := hs; exact ⟨c, hIx c k A A' B hc hgr (.inl rfl), bkStep hb hgr⟩)
    ?_ ⟨iAlloc _ (iAlloc _ h0), hL1, hD1, by omega⟩).mono ?_
  · -- one round
    rintro k x W hx ⟨hi, hb⟩
    have hy : (Instr.yield L (encs x)).run P W = .ok (.round L fn ((ps.zip (encs x)).foldl (fun t (p, v) => t.setIfInBounds p v) a.tmps) assign body) W := run_yield (P := P) (args := encs x) hb.1 (hps x)
    refine ⟨fn, _, assign, body, hy, roundIn_of_wpIn hfn (hassign _ x W _ ⟨_, run_beginRound hb.1 rfl, ?_⟩)⟩
    have hb2 : Bk .busy none (W.putObj L (rc .busy none)) := bkPut _ _ hb
    refine wpIn_mono (hbody L k x _ hx (iPut _ hI hb hi) hb2.2.2) ?_
    have after : ∀ (jump : Option Code) (W3 : World), KeepsOthers (W.putObj L (rc .busy none)) W3 → Bk .busy none W3 := fun jump W3 hk =>
      ⟨hk.same _ _ hb2.1 rfl, hk.same _ _ hb2.2.1 rfl, Nat.le_trans hb2.2.2 hk.size⟩
    rintro e a3 W3 hp
    cases e with
    | normal =>
      obtain ⟨hk3, hkb, hi3⟩ := hp
      have hb3 := after none W3 hk3
      exact ⟨_, _, run_endRound (P := P) none hb3.1, .inl ⟨rfl, ⟨iPut _ hI hb3 hi3, bkPut .ready none hb3⟩, ((kPut W _).trans hkb).trans (kPut W3 _)⟩⟩
    | ret =>
      obtain ⟨hk3, hi3⟩ := hp
      have hb3 := after (some .ret) W3 hk3
      exact ⟨_, _, run_endRound (P := P) (some .ret) hb3.1, .inr ⟨rfl, .ret, iPut _ (hIx .ret) hb3 hi3, bkPut .done (some .ret) hb3⟩⟩
    | exit id =>
      obtain ⟨hk3, hi3⟩ := hp
      have hb3 := after (some (.exit id)) W3 hk3
      exact ⟨_, _, run_endRound (P := P) (some (.exit id)) hb3.1, .inr ⟨rfl, .exit id, iPut _ (hIx (.exit id)) hb3 hi3, bkPut .done (some (.exit id)) hb3⟩⟩
    | goto t => exact hp.elim
    | panic ch => exact hp.elim
    | outgrown => exact hp.elim
  · -- behind the iterator
    rintro e W2 ⟨⟨v, rfl⟩, (⟨hi, hb⟩ | ⟨k, hk, c, hi, hb⟩)⟩
    · exact ⟨none, _, run_endLoop (P := P) hb.1 (by simp), hdone _ _ (Nat.le_refl _) (iPut _ hI hb hi) ((bkPut .exhausted none hb).2.1)⟩
    · exact ⟨some c, _, run_endLoop (P := P) hb.1 (by simp), hstop _ c k _ (Nat.le_refl _) hk (iPut _ (hIx c) hb hi) ((bkPut .exhausted (some c) hb).2.1)⟩

end Go.Proofs.YtjgadfeplaiclaaDoor
