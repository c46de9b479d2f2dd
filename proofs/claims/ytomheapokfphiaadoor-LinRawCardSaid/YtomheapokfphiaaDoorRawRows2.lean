/-
  Rows of pairs of the function's own, made by operations that may come up in whatever order; and what holds whichever comes up next: LinRows' and LinStep's laws, turned to rows of pairs. No program in sight.
-/
import Derived.Test.YtomheapokfphiaaDoorRawStep
namespace Go.Proofs.YtomheapokfphiaaDoor
open Go Go.RowKit

/-- Row j lies in a slot (or was there ahead of the region: 'pre'); it is xs; it is used up by operation 'con j'. -/
structure Rows2 where
  row : Nat → Option (Operand × List Value)
  con : Nat → Nat
  inj : ∀ j k d xs ys, row j = some (.tmp d, xs) → row k = some (.tmp d, ys) → j = k
  pre : Nat → Bool
def Rows2.live (R : Rows2) (l : Array Bool) (j : Nat) : Prop := (R.pre j = true ∨ Lst l j) ∧ ¬ Lst l (R.con j)
structure Rows2.Ok (R : Rows2) (B : Nat) (l : Array Bool) (a : Act) (w : World) : Prop where
  own : ∀ j d xs, R.row j = some (d, xs) → R.live l j → w.ownsRow B 84 2 (a.eval d) (xs.length / 2) xs
  apart : ∀ j k d e xs ys, R.row j = some (d, xs) → R.row k = some (e, ys) → j ≠ k → R.live l j → R.live l k → Apart (a.eval d) (a.eval e)

/-- An operation that makes no row and uses none up. -/
theorem Rows2.Ok.other {R : Rows2} {B : Nat} {l : Array Bool} {a a' : Act} {w w' : World} (h : R.Ok B l a w) {i : Nat} (hi : l.getD i true = false) (hr : R.row i = none) (hc : ∀ j d xs, R.row j = some (d, xs) → R.con j ≠ i)
    (ha : ∀ j d xs, R.row j = some (d, xs) → a'.eval d = a.eval d) (hw : ∀ g, B ≤ g → w'.heap[g]? = w.heap[g]?) : R.Ok B (l.setIfInBounds i true) a' w' := by
  have hl : ∀ j d xs, R.row j = some (d, xs) → R.live (l.setIfInBounds i true) j → R.live l j := fun j d xs hj ⟨h1, h2⟩ => by
    rw [lst_set hi] at h1 h2
    refine ⟨?_, fun h => h2 (.inl h)⟩
    rcases h1 with h1 | h1 | h1
    · exact .inl h1
    · exact .inr h1
    · subst h1; rw [hr] at hj; cases hj
  refine ⟨fun j d xs hj hlv => ?_, fun j k d e xs ys hj hk hne h1 h2 => ?_⟩
  · rw [ha j d xs hj]
    have ho := h.own j d xs hj (hl j d xs hj hlv)
    exact own_kept ho fun g hg => hw g (own_lt ho hg).2
  · rw [ha j d xs hj, ha k e ys hk]
    exact h.apart j k d e xs ys hj hk hne (hl j d xs hj h1) (hl k e ys hk h2)

/-- An operation that makes row i: it turns but the blocks of the rows that it uses up; the new one lies in a new block, or in one of those. -/
theorem Rows2.Ok.make {R : Rows2} {B : Nat} {l : Array Bool} {a : Act} {w w' : World} (h : R.Ok B l a w) {i d : Nat} {xs : List Value} {v : Value} (hi : l.getD i true = false) (hr : R.row i = some (.tmp d, xs)) (hd : d < a.tmps.size) (hp : ∀ j, R.pre j = true → j ≠ i) (hci : ¬ Lst l (R.con i)) (hcn : R.con i ≠ i)
    (hv : w'.ownsRow B 84 2 v (xs.length / 2) xs)
    (hk : ∀ g, g < w.heap.size → (∀ j e ys, R.row j = some (e, ys) → R.con j = i → R.live l j → (a.eval e).ownBlock ≠ some g) → w'.heap[g]? = w.heap[g]?)
    (hn : ∀ g, v.ownBlock = some g → w.heap.size ≤ g ∨ ∃ j e ys, R.row j = some (e, ys) ∧ R.con j = i ∧ R.live l j ∧ (a.eval e).ownBlock = some g) :
    R.Ok B (l.setIfInBounds i true) (a.put (some d) v) w' := by
  have hl : ∀ j, j ≠ i → R.live (l.setIfInBounds i true) j → R.live l j ∧ R.con j ≠ i := fun j hne ⟨h1, h2⟩ => by
    rw [lst_set hi] at h1 h2
    refine ⟨⟨?_, fun h => h2 (.inl h)⟩, fun h => h2 (.inr h)⟩
    rcases h1 with h1 | h1 | h1
    · exact .inl h1
    · exact .inr h1
    · exact absurd h1 hne
  have hT : ∀ j e ys, R.row j = some (e, ys) → j ≠ i → (a.put (some d) v).eval e = a.eval e := fun j e ys hj hne => by
    cases e with
    | tmp t =>
      show Tm (a.put (some d) v) t = Tm a t
      rw [tm_put hd, if_neg]
      intro he
      subst he
      exact hne (R.inj j i t ys xs hj hr)
    | _ => rfl
  have hTi : (a.put (some d) v).eval (.tmp d) = v := by
    show Tm (a.put (some d) v) d = v
    rw [tm_put hd, if_pos rfl]
  have hnew : ∀ j e ys, R.row j = some (e, ys) → j ≠ i → R.live (l.setIfInBounds i true) j → Apart v (a.eval e) := fun j e ys hj hne hlv g hg hg2 => by
    obtain ⟨h1, h2⟩ := hl j hne hlv
    rcases hn g hg with hge | ⟨c, f, zs, hc, hci, hcl, hcb⟩
    · have := (own_lt (h.own j e ys hj h1) hg2).1
      omega
    · exact h.apart c j f e zs ys hc hj (fun e' => by subst e'; exact h2 hci) hcl h1 g hcb hg2
  refine ⟨fun j e ys hj hlv => ?_, fun j k e f ys zs hj hk' hne h1 h2 => ?_⟩
  · by_cases e1 : j = i
    · subst e1
      rw [hr] at hj
      cases hj
      rw [hTi]
      exact hv
    · obtain ⟨h1, h2⟩ := hl j e1 hlv
      rw [hT j e ys hj e1]
      have ho := h.own j e ys hj h1
      refine own_kept ho fun g hg => hk g (own_lt ho hg).1 fun c f zs hc hci' hcl hcb => ?_
      exact h.apart c j f e zs ys hc hj (fun e' => by subst e'; exact h2 hci') hcl h1 g hcb hg
  · by_cases e1 : j = i
    · subst e1
      rw [hr] at hj
      cases hj
      rw [hTi, hT k f zs hk' (Ne.symm hne)]
      exact hnew k f zs hk' (Ne.symm hne) h2
    · by_cases e2 : k = i
      · subst e2
        rw [hr] at hk'
        cases hk'
        rw [hTi, hT j e ys hj e1]
        exact fun g hg hg2 => hnew j e ys hj e1 h1 g hg2 hg
      · rw [hT j e ys hj e1, hT k f zs hk' e2]
        exact h.apart j k e f ys zs hj hk' hne (hl j e1 h1).1 (hl k e2 h2).1
structure RSpec2 where
  D : Nat → Option (Option Nat × Op × List Nat)
  triv : Nat → Option (Nat × Value)
  R : Rows2
  s1 : Nat
  s2 : Nat
  v1 : Nat
  v2 : Nat
  A1 : Addr
  A2 : Addr
  lo : Nat
  hi : Nat
  N : Nat
  base : Nat
/-- What the region's text says, as far as it is wanted. -/
def RSpec2.Text (S : RSpec2) (ops : Array Oper) : Prop := ∀ i o, ops[i]? = some o → ∃ d p ds, S.D i = some (d, p, ds) ∧ o.dst = d ∧ o.op = p ∧ o.guard = none ∧ (ds.all fun j => o.after.toList.any fun e => Region.binds .any e && e.on == j) = true ∧ (o.after.toList.any fun e => !Nat.ble (e.on + 1) i) = false
structure RInv2 (S : RSpec2) (a0 : Act) (w0 : World) (l : Array Bool) (a : Act) (w : World) : Prop where
  defers : a.defers = a0.defers
  size : a.tmps.size = a0.tmps.size
  lsz : l.size = S.N
  out : ∀ t, (t < S.lo ∨ S.hi < t) → Tm a t = Tm a0 t
  clo : ∀ i d p ds, S.D i = some (d, p, ds) → Lst l i → ∀ j ∈ ds, Lst l j
  dom : ∀ i, Lst l i → S.D i ≠ none
  tri : ∀ i t c, S.triv i = some (t, c) → Lst l i → Tm a t = c
  mem : ∃ Wm, Below S.base w0 Wm ∧ (¬ Lst l S.s1 → w = Wm) ∧ (Lst l S.s1 → ¬ Lst l S.s2 → w = Wm.setCell S.A1 (Tm a S.v1)) ∧ (Lst l S.s2 → w = (Wm.setCell S.A1 (Tm a S.v1)).setCell S.A2 (Tm a S.v2)) ∧ S.R.Ok S.base l a Wm

variable {S : RSpec2} {a0 : Act} {w0 : World} {l : Array Bool} {a : Act} {w : World}

theorem RInv2.clo' (h : RInv2 S a0 w0 l a w) {i : Nat} (hun : l.getD i true = false) {d p ds} (hD : S.D i = some (d, p, ds)) (hpre : ∀ j ∈ ds, Lst l j) :
    ∀ k d p ds, S.D k = some (d, p, ds) → Lst (l.setIfInBounds i true) k → ∀ j ∈ ds, Lst (l.setIfInBounds i true) j := fun k d' p' ds' hk hL j hj => by
  rw [lst_set hun] at hL ⊢
  rcases hL with hL | rfl
  · exact .inl (h.clo k d' p' ds' hk hL j hj)
  · rw [hD] at hk; cases hk
    exact .inl (hpre j hj)

theorem RInv2.dom' (h : RInv2 S a0 w0 l a w) {i : Nat} (hun : l.getD i true = false) {d p ds} (hD : S.D i = some (d, p, ds)) : ∀ k, Lst (l.setIfInBounds i true) k → S.D k ≠ none := fun k hL => by
  rw [lst_set hun] at hL
  rcases hL with hL | rfl
  · exact h.dom k hL
  · rw [hD]; exact fun h => by cases h

/-- A plain operation. -/
theorem RInv2.plain (h : RInv2 S a0 w0 l a w) {i t : Nat} {c : Value} {p ds} (hun : l.getD i true = false) (hD : S.D i = some (some t, p, ds)) (hpre : ∀ j ∈ ds, Lst l j) (ht : S.triv i = some (t, c))
    (hlo : S.lo ≤ t ∧ t ≤ S.hi) (hsz : t < a0.tmps.size) (hin : ∀ k c', S.triv k = some (t, c') → k = i) (hr : S.R.row i = none) (hc : ∀ j d xs, S.R.row j = some (d, xs) → S.R.con j ≠ i) (hrow : ∀ j xs, S.R.row j ≠ some (.tmp t, xs))
    (hv1 : S.v1 ≠ t) (hv2 : S.v2 ≠ t) (hs1 : S.s1 ≠ i) (hs2 : S.s2 ≠ i) : RInv2 S a0 w0 (l.setIfInBounds i true) (a.put (some t) c) w := by
  have hsz' : t < a.tmps.size := by rw [h.size]; exact hsz
  obtain ⟨Wm, m1, m2, m3, m4, m5⟩ := h.mem
  refine ⟨h.defers, by simpa [Act.put] using h.size, by simpa using h.lsz, fun u hu => ?_, h.clo' hun hD hpre, h.dom' hun hD, fun k u c' hk hL => ?_, Wm, m1, fun hn => m2 fun hh => hn ((lst_set hun).2 (.inl hh)), fun h1 h2 => ?_, fun h2 => ?_, m5.other hun hr hc (fun j d xs hj => ?_) (fun _ _ => rfl)⟩
  · rw [tm_put hsz', if_neg (by omega)]; exact h.out u hu
  · rw [tm_put hsz']
    by_cases e : u = t
    · subst e
      obtain rfl := hin k c' hk
      rw [ht] at hk; cases hk
      rw [if_pos rfl]
    · rw [if_neg e]
      rw [lst_set hun] at hL
      rcases hL with hL | rfl
      · exact h.tri k u c' hk hL
      · rw [ht] at hk; cases hk; exact absurd rfl e
  · rw [lst_set hun] at h1 h2
    rw [tm_put hsz', if_neg hv1]
    exact m3 (h1.resolve_right hs1) fun hh => h2 (.inl hh)
  · rw [lst_set hun] at h2
    rw [tm_put hsz', if_neg hv1, tm_put hsz', if_neg hv2]
    exact m4 (h2.resolve_right hs2)
  · cases d with
    | tmp u =>
      show Tm (a.put (some t) c) u = Tm a u
      rw [tm_put hsz', if_neg]
      intro e; subst e
      exact hrow j xs hj
    | _ => rfl

/-- An operation that makes a row, ahead of the stores. -/
theorem RInv2.make (h : RInv2 S a0 w0 l a w) {i d : Nat} {xs : List Value} {v : Value} {w' : World} {p ds} (hun : l.getD i true = false) (hD : S.D i = some (some d, p, ds)) (hpre : ∀ j ∈ ds, Lst l j) (hns1 : ¬ Lst l S.s1) (hns2 : ¬ Lst l S.s2)
    (hlo : S.lo ≤ d ∧ d ≤ S.hi) (hsz : d < a0.tmps.size) (htr : ∀ k c', S.triv k ≠ some (d, c')) (hti : S.triv i = none) (hr : S.R.row i = some (.tmp d, xs)) (hp : ∀ j, S.R.pre j = true → j ≠ i) (hci : ¬ Lst l (S.R.con i)) (hcn : S.R.con i ≠ i)
    (hs1 : S.s1 ≠ i) (hs2 : S.s2 ≠ i)
    (hb : Below S.base w0 w')
    (hv : w'.ownsRow S.base 84 2 v (xs.length / 2) xs)
    (hkp : ∀ g, g < w.heap.size → (∀ j e ys, S.R.row j = some (e, ys) → S.R.con j = i → S.R.live l j → (a.eval e).ownBlock ≠ some g) → w'.heap[g]? = w.heap[g]?)
    (hn : ∀ g, v.ownBlock = some g → w.heap.size ≤ g ∨ ∃ j e ys, S.R.row j = some (e, ys) ∧ S.R.con j = i ∧ S.R.live l j ∧ (a.eval e).ownBlock = some g) :
    RInv2 S a0 w0 (l.setIfInBounds i true) (a.put (some d) v) w' := by
  have hsz' : d < a.tmps.size := by rw [h.size]; exact hsz
  obtain ⟨Wm, m1, m2, m3, m4, m5⟩ := h.mem
  obtain rfl := m2 hns1
  have q1 : ¬ Lst (l.setIfInBounds i true) S.s1 := by rw [lst_set hun]; exact fun hh => hh.elim hns1 hs1
  have q2 : ¬ Lst (l.setIfInBounds i true) S.s2 := by rw [lst_set hun]; exact fun hh => hh.elim hns2 hs2
  refine ⟨h.defers, by simpa [Act.put] using h.size, by simpa using h.lsz, fun u hu => ?_, h.clo' hun hD hpre, h.dom' hun hD, fun k u c' hk hL => ?_, w', hb, fun _ => rfl, fun h1 _ => absurd h1 q1, fun h2 => absurd h2 q2, m5.make hun hr hsz' hp hci hcn hv hkp hn⟩
  · rw [tm_put hsz', if_neg (by omega)]; exact h.out u hu
  · rw [tm_put hsz', if_neg (fun e => by subst e; exact htr k c' hk)]
    rw [lst_set hun] at hL
    rcases hL with hL | rfl
    · exact h.tri k u c' hk hL
    · rw [hti] at hk; cases hk

theorem RInv2.world (h : RInv2 S a0 w0 l a w) (hns1 : ¬ Lst l S.s1) : Below S.base w0 w ∧ S.R.Ok S.base l a w := by
  obtain ⟨Wm, m1, m2, m3, m4, m5⟩ := h.mem
  obtain rfl := m2 hns1
  exact ⟨m1, m5⟩

/-- The first store. -/
theorem RInv2.store1 (h : RInv2 S a0 w0 l a w) {p ds} (hun : l.getD S.s1 true = false) (hD : S.D S.s1 = some (none, p, ds)) (hpre : ∀ j ∈ ds, Lst l j) (hns2 : ¬ Lst l S.s2) (hne : S.s2 ≠ S.s1)
    (hti : S.triv S.s1 = none) (hr : S.R.row S.s1 = none) (hc : ∀ j d xs, S.R.row j = some (d, xs) → S.R.con j ≠ S.s1) : RInv2 S a0 w0 (l.setIfInBounds S.s1 true) a (w.setCell S.A1 (Tm a S.v1)) := by
  obtain ⟨Wm, m1, m2, m3, m4, m5⟩ := h.mem
  obtain rfl := m2 (lst_not hun)
  refine ⟨h.defers, h.size, by simpa using h.lsz, h.out, h.clo' hun hD hpre, h.dom' hun hD, fun k u c' hk hL => ?_, w, m1, fun hn => absurd ((lst_set hun).2 (.inr rfl)) hn, fun _ _ => rfl, fun h2 => ?_, m5.other hun hr hc (fun _ _ _ _ => rfl) (fun _ _ => rfl)⟩
  · rw [lst_set hun] at hL
    rcases hL with hL | rfl
    · exact h.tri k u c' hk hL
    · rw [hti] at hk; cases hk
  · rw [lst_set hun] at h2
    exact h2.elim (fun h => absurd h hns2) (fun h => absurd h hne)
/-- The second store. -/
theorem RInv2.store2 (h : RInv2 S a0 w0 l a w) {p ds} (hun : l.getD S.s2 true = false) (hD : S.D S.s2 = some (none, p, ds)) (hpre : ∀ j ∈ ds, Lst l j) (h1 : Lst l S.s1)
    (hti : S.triv S.s2 = none) (hr : S.R.row S.s2 = none) (hc : ∀ j d xs, S.R.row j = some (d, xs) → S.R.con j ≠ S.s2) : RInv2 S a0 w0 (l.setIfInBounds S.s2 true) a (w.setCell S.A2 (Tm a S.v2)) := by
  obtain ⟨Wm, m1, m2, m3, m4, m5⟩ := h.mem
  obtain rfl := m3 h1 (lst_not hun)
  refine ⟨h.defers, h.size, by simpa using h.lsz, h.out, h.clo' hun hD hpre, h.dom' hun hD, fun k u c' hk hL => ?_, Wm, m1, fun hn => absurd ((lst_set hun).2 (.inl h1)) hn, fun _ hn => absurd ((lst_set hun).2 (.inr rfl)) hn, fun _ => rfl, m5.other hun hr hc (fun _ _ _ _ => rfl) (fun _ _ => rfl)⟩
  rw [lst_set hun] at hL
  rcases hL with hL | rfl
  · exact h.tri k u c' hk hL
  · rw [hti] at hk; cases hk

/-- Where nothing may come up any more, all has come up. -/
theorem RInv2.all (h : RInv2 S a0 w0 l a w) {ops : Array Oper} (hn : ops.size = S.N) (hT : S.Text ops) (hr : Region.ready .any ops l = []) : ∀ i, i < S.N → Lst l i := by
  intro i
  induction i using Nat.strongRecOn with
  | ind i ih =>
    intro hi
    obtain ⟨o, ho⟩ : ∃ o, ops[i]? = some o := ⟨_, Array.getElem?_eq_getElem (by omega)⟩
    obtain ⟨d, p, ds, _, _, _, _, _, hlt'⟩ := hT i o ho
    have hlt := late_of hlt'
    cases hb : l.getD i true with
    | true =>
      unfold Lst
      have hs := h.lsz
      simp only [Array.getD_eq_getD_getElem?, Array.getElem?_eq_getElem (show i < l.size by omega), Option.getD_some] at hb ⊢
      exact hb
    | false =>
      have hm : i ∈ Region.ready .any ops l := mem_ready.2 ⟨hb, o, ho, fun e he _ => ih e.on (hlt e he) (by have := hlt e he; omega)⟩
      rw [hr] at hm; cases hm


/-- An operation that gives slot t some value. -/
theorem RInv2.free (h : RInv2 S a0 w0 l a w) {i t : Nat} {v : Value} {p ds} (hun : l.getD i true = false) (hD : S.D i = some (some t, p, ds)) (hpre : ∀ j ∈ ds, Lst l j) (ht : S.triv i = none)
    (hlo : S.lo ≤ t ∧ t ≤ S.hi) (hsz : t < a0.tmps.size) (hin : ∀ k c', S.triv k ≠ some (t, c')) (hr : S.R.row i = none) (hc : ∀ j d xs, S.R.row j = some (d, xs) → S.R.con j ≠ i) (hrow : ∀ j xs, S.R.row j ≠ some (.tmp t, xs))
    (hv1 : S.v1 ≠ t) (hv2 : S.v2 ≠ t) (hs1 : S.s1 ≠ i) (hs2 : S.s2 ≠ i) : RInv2 S a0 w0 (l.setIfInBounds i true) (a.put (some t) v) w := by
  have hsz' : t < a.tmps.size := by rw [h.size]; exact hsz
  obtain ⟨Wm, m1, m2, m3, m4, m5⟩ := h.mem
  refine ⟨h.defers, by simpa [Act.put] using h.size, by simpa using h.lsz, fun u hu => ?_, h.clo' hun hD hpre, h.dom' hun hD, fun k u c' hk hL => ?_, Wm, m1, fun hn => m2 fun hh => hn ((lst_set hun).2 (.inl hh)), fun h1 h2 => ?_, fun h2 => ?_, m5.other hun hr hc (fun j d xs hj => ?_) (fun _ _ => rfl)⟩
  · rw [tm_put hsz', if_neg (by omega)]; exact h.out u hu
  · rw [tm_put hsz', if_neg (fun e => by subst e; exact hin k c' hk)]
    rw [lst_set hun] at hL
    rcases hL with hL | rfl
    · exact h.tri k u c' hk hL
    · rw [ht] at hk; cases hk
  · rw [lst_set hun] at h1 h2
    rw [tm_put hsz', if_neg hv1]
    exact m3 (h1.resolve_right hs1) fun hh => h2 (.inl hh)
  · rw [lst_set hun] at h2
    rw [tm_put hsz', if_neg hv1, tm_put hsz', if_neg hv2]
    exact m4 (h2.resolve_right hs2)
  · cases d with
    | tmp u =>
      show Tm (a.put (some t) v) u = Tm a u
      rw [tm_put hsz', if_neg]
      intro e; subst e
      exact hrow j xs hj
    | _ => rfl
end Go.Proofs.YtomheapokfphiaaDoor
