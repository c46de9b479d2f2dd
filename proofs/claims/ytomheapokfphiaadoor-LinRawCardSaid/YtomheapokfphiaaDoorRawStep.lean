/-
  A region of loads, of rows that are made and used up, and of two stores at its end: what holds whichever operation comes up next. No program in sight.
-/
import Derived.Test.YtomheapokfphiaaDoorRawRows
namespace Go.Proofs.YtomheapokfphiaaDoor
open Go Go.RowKit

structure RSpec where
  D : Nat → Option (Option Nat × Op × List Nat)
  triv : Nat → Option (Nat × Value)
  R : Rows
  s1 : Nat
  s2 : Nat
  v1 : Nat
  v2 : Nat
  A1 : Addr
  A2 : Addr
  lo : Nat
  hi : Nat
  N : Nat
  base : Nat
/-- What the region's text says, as far as it is wanted. -/
def RSpec.Text (S : RSpec) (ops : Array Oper) : Prop := ∀ i o, ops[i]? = some o → ∃ d p ds, S.D i = some (d, p, ds) ∧ o.dst = d ∧ o.op = p ∧ o.guard = none ∧ (ds.all fun j => o.after.toList.any fun e => Region.binds .any e && e.on == j) = true ∧ (o.after.toList.any fun e => !Nat.ble (e.on + 1) i) = false
theorem deps_of {o : Oper} {ds : List Nat} (h : (ds.all fun j => o.after.toList.any fun e => Region.binds .any e && e.on == j) = true) : ∀ j ∈ ds, ∃ e ∈ o.after, Region.binds .any e = true ∧ e.on = j := fun j hj => by
  have := List.all_eq_true.1 h j hj
  rw [List.any_eq_true] at this
  obtain ⟨e, hm, he⟩ := this
  rw [Bool.and_eq_true, beq_iff_eq] at he
  exact ⟨e, by simpa using hm, he.1, he.2⟩
theorem late_of {o : Oper} {i : Nat} (h : (o.after.toList.any fun e => !Nat.ble (e.on + 1) i) = false) : ∀ e ∈ o.after, e.on < i := fun e he => by
  rw [List.any_eq_false] at h
  have := h e (by simpa using he)
  exact Nat.le_of_ble_eq_true (by simpa using this)

structure RInv (S : RSpec) (a0 : Act) (w0 : World) (l : Array Bool) (a : Act) (w : World) : Prop where
  defers : a.defers = a0.defers
  size : a.tmps.size = a0.tmps.size
  lsz : l.size = S.N
  out : ∀ t, (t < S.lo ∨ S.hi < t) → Tm a t = Tm a0 t
  clo : ∀ i d p ds, S.D i = some (d, p, ds) → Lst l i → ∀ j ∈ ds, Lst l j
  dom : ∀ i, Lst l i → S.D i ≠ none
  tri : ∀ i t c, S.triv i = some (t, c) → Lst l i → Tm a t = c
  mem : ∃ Wm, Below S.base w0 Wm ∧ (¬ Lst l S.s1 → w = Wm) ∧ (Lst l S.s1 → ¬ Lst l S.s2 → w = Wm.setCell S.A1 (Tm a S.v1)) ∧ (Lst l S.s2 → w = (Wm.setCell S.A1 (Tm a S.v1)).setCell S.A2 (Tm a S.v2)) ∧ S.R.Ok S.base l a Wm

variable {S : RSpec} {a0 : Act} {w0 : World} {l : Array Bool} {a : Act} {w : World}

theorem RInv.clo' (h : RInv S a0 w0 l a w) {i : Nat} (hun : l.getD i true = false) {d p ds} (hD : S.D i = some (d, p, ds)) (hpre : ∀ j ∈ ds, Lst l j) :
    ∀ k d p ds, S.D k = some (d, p, ds) → Lst (l.setIfInBounds i true) k → ∀ j ∈ ds, Lst (l.setIfInBounds i true) j := fun k d' p' ds' hk hL j hj => by
  rw [lst_set hun] at hL ⊢
  rcases hL with hL | rfl
  · exact .inl (h.clo k d' p' ds' hk hL j hj)
  · rw [hD] at hk; cases hk
    exact .inl (hpre j hj)

theorem RInv.dom' (h : RInv S a0 w0 l a w) {i : Nat} (hun : l.getD i true = false) {d p ds} (hD : S.D i = some (d, p, ds)) : ∀ k, Lst (l.setIfInBounds i true) k → S.D k ≠ none := fun k hL => by
  rw [lst_set hun] at hL
  rcases hL with hL | rfl
  · exact h.dom k hL
  · rw [hD]; exact fun h => by cases h

/-- A plain operation. -/
theorem RInv.plain (h : RInv S a0 w0 l a w) {i t : Nat} {c : Value} {p ds} (hun : l.getD i true = false) (hD : S.D i = some (some t, p, ds)) (hpre : ∀ j ∈ ds, Lst l j) (ht : S.triv i = some (t, c))
    (hlo : S.lo ≤ t ∧ t ≤ S.hi) (hsz : t < a0.tmps.size) (hin : ∀ k c', S.triv k = some (t, c') → k = i) (hr : S.R.row i = none) (hc : ∀ j d xs, S.R.row j = some (d, xs) → S.R.con j ≠ i) (hrow : ∀ j xs, S.R.row j ≠ some (.tmp t, xs))
    (hv1 : S.v1 ≠ t) (hv2 : S.v2 ≠ t) (hs1 : S.s1 ≠ i) (hs2 : S.s2 ≠ i) : RInv S a0 w0 (l.setIfInBounds i true) (a.put (some t) c) w := by
  have hsz' : t < a.tmps.size := by rw [h.size]; exact hsz
  obtain ⟨Wm, m1, m2, m3, m4, m5⟩ := h.mem
  refine ⟨h.defers, by simpa [Act.put] using h.size, by simpa using h.lsz, fun u hu => ?_, h.clo' hun hD hpre, h.dom' hun hD, fun k u c' hk hL => ?_, Wm, m1, fun hn => m2 fun hh => hn ((lst_set hun).2 (.inl hh)), fun h1 h2 => ?_, fun h2 => ?_, m5.other hun hr hc (fun j d xs hj => ?_) (fun _ _ => rfl)⟩
  · rw [tm_put hsz', if_neg (by omega)]; exact h.out u hu
  · rw [tm_put hsz']
    by_cases e : u = t
    · subst e
      obtain rfl := hin k c' hk
      rw [ht] at hk; cases hk
      rw [if_pos rfl]
    · rw [if_neg e]
      rw [lst_set hun] at hL
      rcases hL with hL | rfl
      · exact h.tri k u c' hk hL
      · rw [ht] at hk; cases hk; exact absurd rfl e
  · rw [lst_set hun] at h1 h2
    rw [tm_put hsz', if_neg hv1]
    exact m3 (h1.resolve_right hs1) fun hh => h2 (.inl hh)
  · rw [lst_set hun] at h2
    rw [tm_put hsz', if_neg hv1, tm_put hsz', if_neg hv2]
    exact m4 (h2.resolve_right hs2)
  · cases d with
    | tmp u =>
      show Tm (a.put (some t) c) u = Tm a u
      rw [tm_put hsz', if_neg]
      intro e; subst e
      exact hrow j xs hj
    | _ => rfl

/-- An operation that makes a row, ahead of the stores. -/
theorem RInv.make (h : RInv S a0 w0 l a w) {i d : Nat} {xs : List Value} {v : Value} {w' : World} {p ds} (hun : l.getD i true = false) (hD : S.D i = some (some d, p, ds)) (hpre : ∀ j ∈ ds, Lst l j) (hns1 : ¬ Lst l S.s1) (hns2 : ¬ Lst l S.s2)
    (hlo : S.lo ≤ d ∧ d ≤ S.hi) (hsz : d < a0.tmps.size) (htr : ∀ k c', S.triv k ≠ some (d, c')) (hti : S.triv i = none) (hr : S.R.row i = some (.tmp d, xs)) (hp : ∀ j, S.R.pre j = true → j ≠ i) (hci : ¬ Lst l (S.R.con i)) (hcn : S.R.con i ≠ i)
    (hs1 : S.s1 ≠ i) (hs2 : S.s2 ≠ i)
    (hb : Below S.base w0 w')
    (hv : w'.ownsRow S.base 3 1 v xs.length xs)
    (hkp : ∀ g, g < w.heap.size → (∀ j e ys, S.R.row j = some (e, ys) → S.R.con j = i → S.R.live l j → (a.eval e).ownBlock ≠ some g) → w'.heap[g]? = w.heap[g]?)
    (hn : ∀ g, v.ownBlock = some g → w.heap.size ≤ g ∨ ∃ j e ys, S.R.row j = some (e, ys) ∧ S.R.con j = i ∧ S.R.live l j ∧ (a.eval e).ownBlock = some g) :
    RInv S a0 w0 (l.setIfInBounds i true) (a.put (some d) v) w' := by
  have hsz' : d < a.tmps.size := by rw [h.size]; exact hsz
  obtain ⟨Wm, m1, m2, m3, m4, m5⟩ := h.mem
  obtain rfl := m2 hns1
  have q1 : ¬ Lst (l.setIfInBounds i true) S.s1 := by rw [lst_set hun]; exact fun hh => hh.elim hns1 hs1
  have q2 : ¬ Lst (l.setIfInBounds i true) S.s2 := by rw [lst_set hun]; exact fun hh => hh.elim hns2 hs2
  refine ⟨h.defers, by simpa [Act.put] using h.size, by simpa using h.lsz, fun u hu => ?_, h.clo' hun hD hpre, h.dom' hun hD, fun k u c' hk hL => ?_, w', hb, fun _ => rfl, fun h1 _ => absurd h1 q1, fun h2 => absurd h2 q2, m5.make hun hr hsz' hp hci hcn hv hkp hn⟩
  · rw [tm_put hsz', if_neg (by omega)]; exact h.out u hu
  · rw [tm_put hsz', if_neg (fun e => by subst e; exact htr k c' hk)]
    rw [lst_set hun] at hL
    rcases hL with hL | rfl
    · exact h.tri k u c' hk hL
    · rw [hti] at hk; cases hk

theorem RInv.world (h : RInv S a0 w0 l a w) (hns1 : ¬ Lst l S.s1) : Below S.base w0 w ∧ S.R.Ok S.base l a w := by
  obtain ⟨Wm, m1, m2, m3, m4, m5⟩ := h.mem
  obtain rfl := m2 hns1
  exact ⟨m1, m5⟩

/-- The first store. -/
theorem RInv.store1 (h : RInv S a0 w0 l a w) {p ds} (hun : l.getD S.s1 true = false) (hD : S.D S.s1 = some (none, p, ds)) (hpre : ∀ j ∈ ds, Lst l j) (hns2 : ¬ Lst l S.s2) (hne : S.s2 ≠ S.s1)
    (hti : S.triv S.s1 = none) (hr : S.R.row S.s1 = none) (hc : ∀ j d xs, S.R.row j = some (d, xs) → S.R.con j ≠ S.s1) : RInv S a0 w0 (l.setIfInBounds S.s1 true) a (w.setCell S.A1 (Tm a S.v1)) := by
  obtain ⟨Wm, m1, m2, m3, m4, m5⟩ := h.mem
  obtain rfl := m2 (lst_not hun)
  refine ⟨h.defers, h.size, by simpa using h.lsz, h.out, h.clo' hun hD hpre, h.dom' hun hD, fun k u c' hk hL => ?_, w, m1, fun hn => absurd ((lst_set hun).2 (.inr rfl)) hn, fun _ _ => rfl, fun h2 => ?_, m5.other hun hr hc (fun _ _ _ _ => rfl) (fun _ _ => rfl)⟩
  · rw [lst_set hun] at hL
    rcases hL with hL | rfl
    · exact h.tri k u c' hk hL
    · rw [hti] at hk; cases hk
  · rw [lst_set hun] at h2
    exact h2.elim (fun h => absurd h hns2) (fun h => absurd h hne)
/-- The second store. -/
theorem RInv.store2 (h : RInv S a0 w0 l a w) {p ds} (hun : l.getD S.s2 true = false) (hD : S.D S.s2 = some (none, p, ds)) (hpre : ∀ j ∈ ds, Lst l j) (h1 : Lst l S.s1)
    (hti : S.triv S.s2 = none) (hr : S.R.row S.s2 = none) (hc : ∀ j d xs, S.R.row j = some (d, xs) → S.R.con j ≠ S.s2) : RInv S a0 w0 (l.setIfInBounds S.s2 true) a (w.setCell S.A2 (Tm a S.v2)) := by
  obtain ⟨Wm, m1, m2, m3, m4, m5⟩ := h.mem
  obtain rfl := m3 h1 (lst_not hun)
  refine ⟨h.defers, h.size, by simpa using h.lsz, h.out, h.clo' hun hD hpre, h.dom' hun hD, fun k u c' hk hL => ?_, Wm, m1, fun hn => absurd ((lst_set hun).2 (.inl h1)) hn, fun _ hn => absurd ((lst_set hun).2 (.inr rfl)) hn, fun _ => rfl, m5.other hun hr hc (fun _ _ _ _ => rfl) (fun _ _ => rfl)⟩
  rw [lst_set hun] at hL
  rcases hL with hL | rfl
  · exact h.tri k u c' hk hL
  · rw [hti] at hk; cases hk

/-- Where nothing may come up any more, all has come up. -/
theorem RInv.all (h : RInv S a0 w0 l a w) {ops : Array Oper} (hn : ops.size = S.N) (hT : S.Text ops) (hr : Region.ready .any ops l = []) : ∀ i, i < S.N → Lst l i := by
  intro i
  induction i using Nat.strongRecOn with
  | ind i ih =>
    intro hi
    obtain ⟨o, ho⟩ : ∃ o, ops[i]? = some o := ⟨_, Array.getElem?_eq_getElem (by omega)⟩
    obtain ⟨d, p, ds, _, _, _, _, _, hlt'⟩ := hT i o ho
    have hlt := late_of hlt'
    cases hb : l.getD i true with
    | true =>
      unfold Lst
      have hs := h.lsz
      simp only [Array.getD_eq_getD_getElem?, Array.getElem?_eq_getElem (show i < l.size by omega), Option.getD_some] at hb ⊢
      exact hb
    | false =>
      have hm : i ∈ Region.ready .any ops l := mem_ready.2 ⟨hb, o, ho, fun e he _ => ih e.on (hlt e he) (by have := hlt e he; omega)⟩
      rw [hr] at hm; cases hm

/-- Slots that are given anew. -/
def putL : List Nat → (Nat → Value) → Act → Act
  | [], _, a => a
  | t :: ts, u, a => putL ts u (a.put (some t) (u t))
theorem putL_size : ∀ (ts : List Nat) (u : Nat → Value) (a : Act), (putL ts u a).tmps.size = a.tmps.size
  | [], _, _ => rfl
  | t :: ts, u, a => by rw [putL, putL_size ts u]; simp [Act.put]
theorem putL_defers : ∀ (ts : List Nat) (u : Nat → Value) (a : Act), (putL ts u a).defers = a.defers
  | [], _, _ => rfl
  | t :: ts, u, a => by rw [putL, putL_defers ts u]; rfl
theorem putL_tm : ∀ (ts : List Nat) (u : Nat → Value) (a : Act) (t : Nat), t < a.tmps.size → Tm (putL ts u a) t = if t ∈ ts then u t else Tm a t
  | [], _, _, _, _ => by simp [putL]
  | s :: ts, u, a, t, ht => by
    rw [putL, putL_tm ts u _ t (by simpa [Act.put] using ht)]
    by_cases e : t ∈ ts
    · rw [if_pos e, if_pos (List.mem_cons_of_mem _ e)]
    · rw [if_neg e]
      by_cases e2 : t = s
      · subst e2
        rw [tm_put ht, if_pos rfl, if_pos List.mem_cons_self]
      · by_cases hs : s < a.tmps.size
        · rw [tm_put hs, if_neg e2, if_neg (by simp [e, e2])]
        · rw [if_neg (by simp [e, e2])]
          have : a.put (some s) (u s) = a := by
            unfold Act.put
            simp only []
            rw [Array.setIfInBounds_eq_of_size_le (by omega)]
          rw [this]
theorem act_eq (ts : List Nat) {a a0 : Act} (hd : a.defers = a0.defers) (hs : a.tmps.size = a0.tmps.size) (h : ∀ t, t ∉ ts → Tm a t = Tm a0 t) : a = putL ts (Tm a) a0 := by
  have h1 := putL_size ts (Tm a) a0
  have h2 := putL_defers ts (Tm a) a0
  have h3 := putL_tm ts (Tm a) a0
  obtain ⟨tm, df⟩ := a
  obtain ⟨b, hx⟩ : ∃ x, putL ts (Tm ⟨tm, df⟩) a0 = x := ⟨_, rfl⟩
  rw [hx] at h1 h2 h3 ⊢
  obtain ⟨tn, dn⟩ := b
  simp only [] at h1 h2 h3 hd hs
  rw [hd, h2]
  congr 1
  apply Array.ext (hs.trans h1.symm)
  intro i hi1 hi2
  have := h3 i (by omega)
  unfold Tm at this
  simp only [Array.getD_eq_getD_getElem?, Array.getElem?_eq_getElem hi2, Option.getD_some] at this
  rw [this]
  by_cases e : i ∈ ts
  · rw [if_pos e]; simp [Array.getElem?_eq_getElem hi1]
  · rw [if_neg e]
    have := h i e
    unfold Tm at this
    simp only [Array.getD_eq_getD_getElem?, Array.getElem?_eq_getElem hi1, Option.getD_some] at this
    rw [this]
end Go.Proofs.YtomheapokfphiaaDoor
