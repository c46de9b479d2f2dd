/-
  What the texts of Script share: regions that draw their order, rows of one's own, slices that were handed in. No program in sight but for the numbers of its types.
-/
import Derived.Test.YtkdigojjeiidmaaDoorChecked
import Derived.WalkKit
import Derived.ProofKit
import Derived.Lib.Hide
import Derived.Below
import Derived.Deep.Cut
import Derived.Deep.CutBlock
import Derived.RangeFuncOwn
import Derived.RangeFuncLeaves
import Derived.RangeFuncCalls
import Derived.RangeFuncBound
import Derived.Shelf.Abstract
import Derived.Maps.AppendAt
import Derived.Laws.OwnMore
import Derived.Deep.DeepCutAuto
import Derived.Lib.SliceRun
import Derived.BigRegion
import Derived.BigQuiet
import Derived.Deep.QuietTactic
import Derived.Deep.AppendLies
namespace Go.Proofs.YtkdigojjeiidmaaDoor
open Go Go.RowKit Go.Shelf


/-- How many below n are not listed. -/
def unl (l : Array Bool) : Nat → Nat
  | 0 => 0
  | n + 1 => unl l n + if l.getD n true = false then 1 else 0
theorem unl_set_ge {l : Array Bool} {i : Nat} : ∀ {n : Nat}, n ≤ i → unl (l.setIfInBounds i true) n = unl l n
  | 0, _ => rfl
  | n + 1, h => by
    simp only [unl]
    rw [unl_set_ge (by omega)]
    have : (l.setIfInBounds i true).getD n true = l.getD n true := by
      simp only [Array.getD_eq_getD_getElem?]
      rw [Array.getElem?_setIfInBounds_ne (by omega)]
    rw [this]
theorem unl_set {l : Array Bool} {i : Nat} (hi : l.getD i true = false) : ∀ {n : Nat}, i < n → unl (l.setIfInBounds i true) n + 1 = unl l n
  | 0, h => absurd h (Nat.not_lt_zero i)
  | n + 1, h => by
    simp only [unl]
    have hlt : i < l.size := by
      rcases Nat.lt_or_ge i l.size with h | h
      · exact h
      · simp [Array.getD_eq_getD_getElem?, Array.getElem?_eq_none h] at hi
    by_cases e : i = n
    · subst e
      rw [unl_set_ge (Nat.le_refl _), if_pos hi, if_neg]
      simp [Array.getD_eq_getD_getElem?, hlt]
    · have ih := unl_set hi (n := n) (by omega)
      have : (l.setIfInBounds i true).getD n true = l.getD n true := by
        simp only [Array.getD_eq_getD_getElem?]
        rw [Array.getElem?_setIfInBounds_ne e]
      rw [this]
      omega
theorem unl_zero {l : Array Bool} : ∀ {n : Nat}, unl l n = 0 → ∀ i, i < n → l.getD i true = true
  | 0, _, i, h => absurd h (Nat.not_lt_zero i)
  | n + 1, h0, i, h => by
    simp only [unl] at h0
    by_cases e : i = n
    · subst e
      cases hb : l.getD i true with
      | true => rfl
      | false => rw [hb] at h0; simp at h0
    · exact unl_zero (l := l) (n := n) (by omega) i (by omega)
theorem unl_all (m : Nat) : ∀ n, unl (Array.replicate m false) n ≤ n
  | 0 => Nat.le_refl _
  | n + 1 => by have := unl_all m n; simp only [unl]; split <;> omega

theorem wpAny_inv {P : Program} {md : Region.Mode} {ops : Array Oper} {Q : Exit → Act → World → Prop} {I : Array Bool → Act → World → Prop}
    (hdone : ∀ listed a w, I listed a w → Region.ready md ops listed = [] → Q .normal a w)
    (hstep : ∀ listed a w i o, I listed a w → ops[i]? = some o → listed.getD i true = false → (∀ e ∈ o.after, Region.binds md e = true → listed.getD e.on false = true) → wpOp P ops Q i (fun a' w' => I (listed.setIfInBounds i true) a' w') a w) :
    ∀ fuel listed a w, unl listed ops.size ≤ fuel → I listed a w → wpAny P md ops Q fuel listed a w := by
  intro fuel
  induction fuel with
  | zero =>
    intro listed a w hu hI
    have hr : Region.ready md ops listed = [] := by
      cases hr : Region.ready md ops listed with
      | nil => rfl
      | cons i t =>
        exfalso
        have hm : i ∈ Region.ready md ops listed := by rw [hr]; exact List.mem_cons_self
        obtain ⟨h1, o, ho, _⟩ := mem_ready.1 hm
        have := unl_zero (l := listed) (n := ops.size) (by omega) i (Array.getElem?_eq_some_iff.1 ho).1
        rw [h1] at this; cases this
    exact ⟨hr, hdone _ _ _ hI hr⟩
  | succ fuel ih =>
    intro listed a w hu hI
    refine ⟨hdone _ _ _ hI, fun i hi => ?_⟩
    obtain ⟨h1, o, ho, hall⟩ := mem_ready.1 hi
    refine wpOp_mono (fun a' w' h' => ih _ a' w' ?_ h') (hstep _ _ _ i o hI ho h1 hall)
    have := unl_set h1 (Array.getElem?_eq_some_iff.1 ho).1
    omega

theorem wp_region_inv {P : Program} {ops : Array Oper} {Q : Exit → Act → World → Prop} {id : Nat} {a : Act} {w : World} (hm : P.follows .mixedOrders = true) (I : Array Bool → Act → World → Prop)
    (h0 : I (Array.replicate ops.size false) a w.drew)
    (hdone : ∀ listed a w, I listed a w → Region.ready .any ops listed = [] → Q .normal a w)
    (hstep : ∀ listed a w i o, I listed a w → ops[i]? = some o → listed.getD i true = false → (∀ e ∈ o.after, Region.binds .any e = true → listed.getD e.on false = true) → wpOp P ops Q i (fun a' w' => I (listed.setIfInBounds i true) a' w') a w) :
    (Code.region id ops true).wp P Q a w :=
  wp_region_any hm (wpAny_inv hdone hstep _ _ _ _ (unl_all _ _) h0)

/-- An operation without a guard. -/
theorem wpOp_plain {P : Program} {ops : Array Oper} {Q : Exit → Act → World → Prop} {i : Nat} {o : Oper} {K : Act → World → Prop} {a : Act} {w : World} (ho : ops[i]? = some o) (hg : o.guard = none) (h : Oper.wp P o a w K Q) : wpOp P ops Q i K a w := by
  unfold wpOp
  rw [ho]
  have hw : Region.wanted o (yielded ops a.tmps) = true := by simp [Region.wanted, hg]
  simp only [hw, if_true]
  exact .inl h

abbrev Lst (l : Array Bool) (i : Nat) : Prop := l.getD i false = true
theorem lst_set {l : Array Bool} {i j : Nat} (h : l.getD i true = false) : Lst (l.setIfInBounds i true) j ↔ Lst l j ∨ j = i := by
  have hlt : i < l.size := by
    rcases Nat.lt_or_ge i l.size with h' | h'
    · exact h'
    · simp [Array.getD_eq_getD_getElem?, Array.getElem?_eq_none h'] at h
  unfold Lst
  simp only [Array.getD_eq_getD_getElem?]
  by_cases e : j = i
  · subst e; simp [hlt]
  · rw [Array.getElem?_setIfInBounds_ne (fun h => e h.symm)]; simp [e]
theorem lst_not {l : Array Bool} {i : Nat} (h : l.getD i true = false) : ¬ Lst l i := by
  unfold Lst
  have hlt : i < l.size := by
    rcases Nat.lt_or_ge i l.size with h' | h'
    · exact h'
    · simp [Array.getD_eq_getD_getElem?, Array.getElem?_eq_none h'] at h
  simp [Array.getD_eq_getD_getElem?, hlt] at h ⊢
  exact h
theorem lst_none (m j : Nat) : ¬ Lst (Array.replicate m false) j := by
  unfold Lst
  simp only [Array.getD_eq_getD_getElem?, Array.getElem?_replicate]
  split <;> simp
/-- What a slot holds. -/
abbrev Tm (a : Act) (t : Nat) : Value := a.tmps.getD t undef
theorem tm_put {a : Act} {d t : Nat} {v : Value} (hd : d < a.tmps.size) : Tm (a.put (some d) v) t = if t = d then v else Tm a t := by
  unfold Tm Act.put
  simp only [Array.getD_eq_getD_getElem?]
  by_cases e : t = d
  · subst e; simp [hd]
  · rw [Array.getElem?_setIfInBounds_ne (fun h => e h.symm), if_neg e]


theorem own_lt {w : World} {B e s n : Nat} {v : Value} {xs : List Value} (h : w.ownsRow B e s v n xs) {g : Nat} (hg : v.ownBlock = some g) : g < w.heap.size ∧ B ≤ g := by
  rcases h.2 with ⟨rfl, _⟩ | ⟨g', cap, cur, rfl, hb, hh, _⟩
  · simp [Value.ownBlock] at hg
  · simp only [Value.ownBlock, Option.some.injEq] at hg
    subst hg
    exact ⟨(Array.getElem?_eq_some_iff.1 hh).1, hb⟩

theorem own_kept {w w' : World} {B e s n : Nat} {v : Value} {xs : List Value} (h : w.ownsRow B e s v n xs) (hk : ∀ g, v.ownBlock = some g → w'.heap[g]? = w.heap[g]?) : w'.ownsRow B e s v n xs := by
  refine ⟨h.1, ?_⟩
  rcases h.2 with hn | ⟨g, cap, cur, rfl, hg, hgg, rest⟩
  · exact .inl hn
  · exact .inr ⟨g, cap, cur, rfl, hg, (hk g rfl).trans hgg, rest⟩


theorem deps_of {o : Oper} {ds : List Nat} (h : (ds.all fun j => o.after.toList.any fun e => Region.binds .any e && e.on == j) = true) : ∀ j ∈ ds, ∃ e ∈ o.after, Region.binds .any e = true ∧ e.on = j := fun j hj => by
  have := List.all_eq_true.1 h j hj
  rw [List.any_eq_true] at this
  obtain ⟨e, hm, he⟩ := this
  rw [Bool.and_eq_true, beq_iff_eq] at he
  exact ⟨e, by simpa using hm, he.1, he.2⟩

theorem late_of {o : Oper} {i : Nat} (h : (o.after.toList.any fun e => !Nat.ble (e.on + 1) i) = false) : ∀ e ∈ o.after, e.on < i := fun e he => by
  rw [List.any_eq_false] at h
  have := h e (by simpa using he)
  exact Nat.le_of_ble_eq_true (by simpa using this)


def putL : List Nat → (Nat → Value) → Act → Act
  | [], _, a => a
  | t :: ts, u, a => putL ts u (a.put (some t) (u t))
theorem putL_size : ∀ (ts : List Nat) (u : Nat → Value) (a : Act), (putL ts u a).tmps.size = a.tmps.size
  | [], _, _ => rfl
  | t :: ts, u, a => by rw [putL, putL_size ts u]; simp [Act.put]
theorem putL_defers : ∀ (ts : List Nat) (u : Nat → Value) (a : Act), (putL ts u a).defers = a.defers
  | [], _, _ => rfl
  | t :: ts, u, a => by rw [putL, putL_defers ts u]; rfl
theorem putL_tm : ∀ (ts : List Nat) (u : Nat → Value) (a : Act) (t : Nat), t < a.tmps.size → Tm (putL ts u a) t = if t ∈ ts then u t else Tm a t
  | [], _, _, _, _ => by simp [putL]
  | s :: ts, u, a, t, ht => by
    rw [putL, putL_tm ts u _ t (by simpa [Act.put] using ht)]
    by_cases e : t ∈ ts
    · rw [if_pos e, if_pos (List.mem_cons_of_mem _ e)]
    · rw [if_neg e]
      by_cases e2 : t = s
      · subst e2
        rw [tm_put ht, if_pos rfl, if_pos List.mem_cons_self]
      · by_cases hs : s < a.tmps.size
        · rw [tm_put hs, if_neg e2, if_neg (by simp [e, e2])]
        · rw [if_neg (by simp [e, e2])]
          have : a.put (some s) (u s) = a := by
            unfold Act.put
            simp only []
            rw [Array.setIfInBounds_eq_of_size_le (by omega)]
          rw [this]
theorem act_eq (ts : List Nat) {a a0 : Act} (hd : a.defers = a0.defers) (hs : a.tmps.size = a0.tmps.size) (h : ∀ t, t ∉ ts → Tm a t = Tm a0 t) : a = putL ts (Tm a) a0 := by
  have h1 := putL_size ts (Tm a) a0
  have h2 := putL_defers ts (Tm a) a0
  have h3 := putL_tm ts (Tm a) a0
  obtain ⟨tm, df⟩ := a
  obtain ⟨b, hx⟩ : ∃ x, putL ts (Tm ⟨tm, df⟩) a0 = x := ⟨_, rfl⟩
  rw [hx] at h1 h2 h3 ⊢
  obtain ⟨tn, dn⟩ := b
  simp only [] at h1 h2 h3 hd hs
  rw [hd, h2]
  congr 1
  apply Array.ext (hs.trans h1.symm)
  intro i hi1 hi2
  have := h3 i (by omega)
  unfold Tm at this
  simp only [Array.getD_eq_getD_getElem?, Array.getElem?_eq_getElem hi2, Option.getD_some] at this
  rw [this]
  by_cases e : i ∈ ts
  · rw [if_pos e]; simp [Array.getElem?_eq_getElem hi1]
  · rw [if_neg e]
    have := h i e
    unfold Tm at this
    simp only [Array.getD_eq_getD_getElem?, Array.getElem?_eq_getElem hi1, Option.getD_some] at this
    rw [this]

theorem op_of {o : Oper} {P : Program} {a : Act} {w : World} {K : Act → World → Prop} {Q : Exit → Act → World → Prop} {d : Option Nat} (hd : o.dst = d) {v : Value} (hr : (execOp a.eval o).run P w = .ok (.value v) w) (h : K (a.put d v) w) : Oper.wp P o a w K Q := by
  unfold Oper.wp
  rw [hr, Oper.upon_value, hd]
  exact h

theorem tm_get {a : Act} {t : Nat} {v : Value} (h : Tm a t = v) : a.tmps[t]?.getD undef = v := by simpa [Tm, Array.getD_eq_getD_getElem?] using h

theorem run_move {o : Oper} {a : Act} {w : World} {t : Nat} {v : Value} (hp : o.op = .move (.tmp t)) (h : Tm a t = v) : (execOp a.eval o).run Tryd.prog w = .ok (.value v) w := by
  have h' := tm_get h
  simp [execOp, hp, h', go_sem]

theorem nle {a b : Nat} (h : Nat.ble a b = true) : a ≤ b := Nat.le_of_ble_eq_true h

theorem nlt {a b : Nat} (h : Nat.ble (a + 1) b = true) : a < b := Nat.le_of_ble_eq_true h

theorem nne {a b : Nat} (h : Nat.beq a b = false) : a ≠ b := Nat.ne_of_beq_eq_false h

theorem op_ofW {o : Oper} {P : Program} {a : Act} {w w' : World} {K : Act → World → Prop} {Q : Exit → Act → World → Prop} {d : Option Nat} (hd : o.dst = d) {v : Value} (hr : (execOp a.eval o).run P w = .ok (.value v) w') (h : K (a.put d v) w') : Oper.wp P o a w K Q := by
  unfold Oper.wp
  rw [hr, Oper.upon_value, hd]
  exact h

theorem own_weaken {W : World} {n m e size k : Nat} {v : Value} {xs : List Value} (h : W.ownsRow n e size v k xs) (hm : m ≤ n) : W.ownsRow m e size v k xs := by
  obtain ⟨h1, h2⟩ := h
  refine ⟨h1, ?_⟩
  rcases h2 with h2 | ⟨g, cap, cur, hv, hg, r⟩
  · exact .inl h2
  · exact .inr ⟨g, cap, cur, hv, Nat.le_trans hm hg, r⟩

theorem own_later {W : World} {B e size n : Nat} {v : Value} {xs : List Value} (h : W.ownsRow B e size v n xs) : ∀ k, v.ownBlock = some k → B ≤ k := fun _ hk => (own_lt h hk).2

theorem own_slice {W : World} {B e size n : Nat} {v : Value} {xs : List Value} (h : W.ownsRow B e size v n xs) : ∃ ad cap, v = .slice ad n cap := by
  rcases h.2 with ⟨rfl, rfl⟩ | ⟨g, cap, cur, rfl, _⟩
  · exact ⟨_, _, rfl⟩
  · exact ⟨_, _, rfl⟩

theorem new_below {w : World} (o : Obj) : Below w.heap.size w (w.alloc o) := (Below.refl _ w).alloc (Nat.le_refl _) _


theorem add0 (g j : Nat) : (⟨g, 0, none⟩ : Addr).add j = ⟨g, j, none⟩ := by
  unfold Addr.add
  by_cases h : j = 0
  · subst h; simp
  · simp [h]

theorem info_parts' {t : TypeId} {z : Value} {s b : Nat} (h : (Tryd.prog.info? t).map (fun i => (i.zero, i.size, i.bytes)) = some (some z, s, b)) : ∃ i, Tryd.prog.info? t = some i ∧ i.zero = some z ∧ i.size = s ∧ i.bytes = b := by
  obtain ⟨i, hi, he⟩ := Option.map_eq_some_iff.1 h
  injection he with h1 h2
  injection h2 with h2 h3
  exact ⟨i, hi, h1, h2, h3⟩


theorem blk_cell {w : World} {g : Nat} {c : Array Value} {t : TypeId} (h : w.heap[g]? = some (.cells c t (0, 0))) (j : Nat) : w.cell? ⟨g, j, none⟩ = c[j]? := by simp [World.cell?, h]

theorem blk_frozen {w : World} {g : Nat} {c : Array Value} {t : TypeId} (h : w.heap[g]? = some (.cells c t (0, 0))) (j : Nat) : w.frozen? ⟨g, j, none⟩ = false := by simp [World.frozen?, h]

theorem below_more {w a b : World} (h : Below w.heap.size w a) (k : Below a.heap.size a b) : Below w.heap.size w b := h.trans (k.mono h.size)

structure TSpec where
  D : Nat → Option (Option Nat × Op × List Nat)
  triv : Nat → Option (Nat × Value)
  lo : Nat
  hi : Nat
  odd : List Nat
  N : Nat
def TSpec.Text (S : TSpec) (ops : Array Oper) : Prop := ∀ i o, ops[i]? = some o → ∃ d p ds, S.D i = some (d, p, ds) ∧ o.dst = d ∧ o.op = p ∧ o.guard = none ∧ (ds.all fun j => o.after.toList.any fun e => Region.binds .any e && e.on == j) = true ∧ (o.after.toList.any fun e => !Nat.ble (e.on + 1) i) = false
/-- A slot that the region gives a value. -/
def TSpec.turns (S : TSpec) (t : Nat) : Prop := (S.lo ≤ t ∧ t ≤ S.hi) ∨ t ∈ S.odd

structure TInv (S : TSpec) (a0 : Act) (l : Array Bool) (a : Act) : Prop where
  defers : a.defers = a0.defers
  size : a.tmps.size = a0.tmps.size
  lsz : l.size = S.N
  out : ∀ t, ¬ S.turns t → Tm a t = Tm a0 t
  clo : ∀ i d p ds, S.D i = some (d, p, ds) → Lst l i → ∀ j ∈ ds, Lst l j
  dom : ∀ i, Lst l i → S.D i ≠ none
  tri : ∀ i t c, S.triv i = some (t, c) → Lst l i → Tm a t = c

variable {S : TSpec} {a0 : Act} {l : Array Bool} {a : Act}

theorem TInv.start {ops : Array Oper} (hn : ops.size = S.N) : TInv S a0 (Array.replicate ops.size false) a0 :=
  ⟨rfl, rfl, by rw [Array.size_replicate]; exact hn, fun _ _ => rfl, fun i _ _ _ _ hL => absurd hL (lst_none _ i), fun i hL => absurd hL (lst_none _ i), fun i _ _ _ hL => absurd hL (lst_none _ i)⟩
theorem TInv.clo' (h : TInv S a0 l a) {i : Nat} (hun : l.getD i true = false) {d p ds} (hD : S.D i = some (d, p, ds)) (hpre : ∀ j ∈ ds, Lst l j) :
    ∀ k d p ds, S.D k = some (d, p, ds) → Lst (l.setIfInBounds i true) k → ∀ j ∈ ds, Lst (l.setIfInBounds i true) j := fun k d' p' ds' hk hL j hj => by
  rw [lst_set hun] at hL ⊢
  rcases hL with hL | rfl
  · exact .inl (h.clo k d' p' ds' hk hL j hj)
  · rw [hD] at hk; cases hk
    exact .inl (hpre j hj)
theorem TInv.dom' (h : TInv S a0 l a) {i : Nat} (hun : l.getD i true = false) {d p ds} (hD : S.D i = some (d, p, ds)) : ∀ k, Lst (l.setIfInBounds i true) k → S.D k ≠ none := fun k hL => by
  rw [lst_set hun] at hL
  rcases hL with hL | rfl
  · exact h.dom k hL
  · rw [hD]; exact fun h => by cases h
/-- An operation that gives slot t its value. -/
theorem TInv.plain (h : TInv S a0 l a) {i t : Nat} {c : Value} {p ds} (hun : l.getD i true = false) (hD : S.D i = some (some t, p, ds)) (hpre : ∀ j ∈ ds, Lst l j) (ht : S.triv i = some (t, c))
    (hin : ∀ k c', S.triv k = some (t, c') → k = i) (htu : S.turns t) (hsz : t < a0.tmps.size) : TInv S a0 (l.setIfInBounds i true) (a.put (some t) c) := by
  have hsz' : t < a.tmps.size := by rw [h.size]; exact hsz
  refine ⟨h.defers, by simpa [Act.put] using h.size, by simpa using h.lsz, fun u hu => ?_, h.clo' hun hD hpre, h.dom' hun hD, fun k u c' hk hL => ?_⟩
  · rw [tm_put hsz', if_neg (fun e => hu (by rw [e]; exact htu))]; exact h.out u hu
  · rw [tm_put hsz']
    by_cases e : u = t
    · subst e
      obtain rfl := hin k c' hk
      rw [ht] at hk; cases hk
      rw [if_pos rfl]
    · rw [if_neg e]
      rw [lst_set hun] at hL
      rcases hL with hL | rfl
      · exact h.tri k u c' hk hL
      · rw [ht] at hk; cases hk; exact absurd rfl e
/-- An operation that gives slot t some value. -/
theorem TInv.some (h : TInv S a0 l a) {i t : Nat} {v : Value} {p ds} (hun : l.getD i true = false) (hD : S.D i = Option.some (Option.some t, p, ds)) (hpre : ∀ j ∈ ds, Lst l j) (ht : S.triv i = none)
    (hin : ∀ k c', S.triv k ≠ Option.some (t, c')) (htu : S.turns t) (hsz : t < a0.tmps.size) : TInv S a0 (l.setIfInBounds i true) (a.put (Option.some t) v) := by
  have hsz' : t < a.tmps.size := by rw [h.size]; exact hsz
  refine ⟨h.defers, by simpa [Act.put] using h.size, by simpa using h.lsz, fun u hu => ?_, h.clo' hun hD hpre, h.dom' hun hD, fun k u c' hk hL => ?_⟩
  · rw [tm_put hsz', if_neg (fun e => hu (by rw [e]; exact htu))]; exact h.out u hu
  · rw [tm_put hsz']
    by_cases e : u = t
    · subst e
      exact absurd hk (hin k c')
    · rw [if_neg e]
      rw [lst_set hun] at hL
      rcases hL with hL | rfl
      · exact h.tri k u c' hk hL
      · rw [ht] at hk; cases hk
/-- An operation that gives no slot a value. -/
theorem TInv.none (h : TInv S a0 l a) {i : Nat} {d p ds} (hun : l.getD i true = false) (hD : S.D i = Option.some (d, p, ds)) (hpre : ∀ j ∈ ds, Lst l j) (ht : S.triv i = Option.none) : TInv S a0 (l.setIfInBounds i true) a := by
  refine ⟨h.defers, h.size, by simpa using h.lsz, h.out, h.clo' hun hD hpre, h.dom' hun hD, fun k u c' hk hL => ?_⟩
  rw [lst_set hun] at hL
  rcases hL with hL | rfl
  · exact h.tri k u c' hk hL
  · rw [ht] at hk; cases hk
theorem TInv.all (h : TInv S a0 l a) {ops : Array Oper} (hn : ops.size = S.N) (hT : S.Text ops) (hr : Region.ready .any ops l = []) : ∀ i, i < S.N → Lst l i := by
  intro i
  induction i using Nat.strongRecOn with
  | ind i ih =>
    intro hi
    obtain ⟨o, ho⟩ : ∃ o, ops[i]? = Option.some o := ⟨_, Array.getElem?_eq_getElem (by omega)⟩
    obtain ⟨d, p, ds, _, _, _, _, _, hlt'⟩ := hT i o ho
    have hlt := late_of hlt'
    cases hb : l.getD i true with
    | true =>
      unfold Lst
      have hs := h.lsz
      simp only [Array.getD_eq_getD_getElem?, Array.getElem?_eq_getElem (show i < l.size by omega), Option.getD_some] at hb ⊢
      exact hb
    | false =>
      have hm : i ∈ Region.ready .any ops l := mem_ready.2 ⟨hb, o, ho, fun e he _ => ih e.on (hlt e he) (by have := hlt e he; omega)⟩
      rw [hr] at hm; cases hm
/-- The law. -/
theorem table_region {P : Program} {ops : Array Oper} {Q : Exit → Act → World → Prop} {id : Nat} {w0 : World} (S : TSpec) (M : Array Bool → Act → World → Prop) (hm : P.follows .mixedOrders = true)
    (hT : S.Text ops) (hn : ops.size = S.N) (h0 : M (Array.replicate ops.size false) a0 w0.drew)
    (hQ : ∀ l a w, TInv S a0 l a → (∀ i, i < S.N → Lst l i) → M l a w → Q .normal a w)
    (hstep : ∀ l a w i o d p ds, TInv S a0 l a → M l a w → i < S.N → S.D i = Option.some (d, p, ds) → o.dst = d → o.op = p → (∀ j ∈ ds, Lst l j) → l.getD i true = false →
      Oper.wp P o a w (fun a' w' => TInv S a0 (l.setIfInBounds i true) a' ∧ M (l.setIfInBounds i true) a' w') Q) :
    (Code.region id ops true).wp P Q a0 w0 := by
  refine wp_region_inv hm (fun l a w => TInv S a0 l a ∧ M l a w) ⟨TInv.start hn, h0⟩ (fun l a w h hr => hQ l a w h.1 (h.1.all hn hT hr) h.2) ?_
  intro l a w i o h ho hun hall
  obtain ⟨d, p, ds, hD, hd, hp, hg', hdeps', _⟩ := hT i o ho
  have hdeps := deps_of hdeps'
  refine wpOp_plain ho hg' (hstep l a w i o d p ds h.1 h.2 (by have := (Array.getElem?_eq_some_iff.1 ho).1; omega) hD hd hp (fun j hj => ?_) hun)
  obtain ⟨e, he, hb, rfl⟩ := hdeps j hj
  exact hall e he hb


theorem blk_set {w : World} {g : Nat} {c : Array Value} {t : TypeId} (h : w.heap[g]? = some (.cells c t (0, 0))) (j : Nat) (v : Value) : (w.setCell ⟨g, j, none⟩ v).heap[g]? = some (.cells (c.setIfInBounds j v) t (0, 0)) := by
  simp [World.setCell, Array.getElem?_modify, h]

theorem own_ne {w : World} {B B' s s' n n' : Nat} {e e' : TypeId} {v v' : Value} {xs xs' : List Value} (h : w.ownsRow B e s v n xs) (h' : w.ownsRow B' e' s' v' n' xs') (hne : e ≠ e') {g : Nat} (hg : v.ownBlock = some g) : v'.ownBlock ≠ some g := by
  intro hg'
  rcases h.2 with ⟨rfl, _⟩ | ⟨k, cap, cur, rfl, _, hh, _⟩
  · simp [Value.ownBlock] at hg
  rcases h'.2 with ⟨rfl, _⟩ | ⟨k', cap', cur', rfl, _, hh', _⟩
  · simp [Value.ownBlock] at hg'
  simp only [Value.ownBlock, Option.some.injEq] at hg hg'
  subst hg; subst hg'
  rw [hh] at hh'
  injection hh' with h1
  injection h1 with _ h2
  exact hne h2

/-- Whatever holds cells lies as it lay. -/
def CellsKept (w w' : World) : Prop := w.heap.size ≤ w'.heap.size ∧ ∀ (g : Nat) (o : Obj), w.heap[g]? = some o → o.isCells = true → w'.heap[g]? = some o
theorem CellsKept.refl (w : World) : CellsKept w w := ⟨Nat.le_refl _, fun _ _ h _ => h⟩
theorem CellsKept.trans {a b c : World} (h : CellsKept a b) (k : CellsKept b c) : CellsKept a c := ⟨Nat.le_trans h.1 k.1, fun g o h1 h2 => k.2 g o (h.2 g o h1 h2) h2⟩
theorem CellsKept.of {w w' : World} (h : Below w.heap.size w w') : CellsKept w w' := ⟨h.size, fun g _ hg _ => (h.block g (Array.getElem?_eq_some_iff.1 hg).1).trans hg⟩
theorem CellsKept.cell {w w' : World} (h : CellsKept w w') {a : Addr} {v : Value} (hc : w.cell? a = some v) : w'.cell? a = some v := by
  cases ho : w.heap[a.block]? with
  | none => simp [World.cell?, ho] at hc
  | some o =>
    have hi : o.isCells = true := by
      cases o with
      | cells => rfl
      | _ => simp [World.cell?, ho] at hc
    rw [World.cell?_of_block (a := a) ((h.2 _ o ho hi).trans ho.symm)]
    exact hc


/-- A slice that reads so. -/
def IntsAt (w : World) (v : Value) (L : List Int) : Prop :=
  ∃ ad cap, v = .slice ad L.length cap ∧ (L = [] ∨ ∃ g c, ad = some ⟨g, c, none⟩ ∧ g < w.heap.size ∧ (∀ (j : Nat) (x : Int), L[j]? = some x → w.cell? ⟨g, c + j, none⟩ = some (.int .i64 x)) ∧ L.length ≤ cap)
theorem IntsAt.kept {w w' : World} {v : Value} {L : List Int} (h : IntsAt w v L) (hb : CellsKept w w') : IntsAt w' v L := by
  obtain ⟨ad, cap, rfl, h | ⟨g, c, rfl, hg, hc, hcap⟩⟩ := h
  · exact ⟨_, _, rfl, .inl h⟩
  · exact ⟨_, _, rfl, .inr ⟨g, c, rfl, Nat.lt_of_lt_of_le hg hb.1, fun j x hx => hb.cell (hc j x hx), hcap⟩⟩
theorem intsAt_nil (w : World) : IntsAt w (.slice none 0 0) [] := ⟨none, 0, rfl, .inl rfl⟩
theorem getD_get {L : List Int} {k : Nat} (h : k < L.length) : L[k]? = some (L.getD k 0) := by
  rw [List.getD_eq_getElem?_getD, List.getElem?_eq_getElem h]; rfl
theorem intsAt_cell {w : World} {v : Value} {L : List Int} (h : IntsAt w v L) {k : Nat} (hk : k < L.length) :
    ∃ g c cap, v = .slice (some ⟨g, c, none⟩) L.length cap ∧ g < w.heap.size ∧ w.cell? ⟨g, c + k, none⟩ = some (.int .i64 (L.getD k 0)) := by
  obtain ⟨ad, cap, rfl, rfl | ⟨g, c, rfl, hg, hc, _⟩⟩ := h
  · simp at hk
  · exact ⟨g, c, cap, rfl, hg, hc k _ (getD_get hk)⟩
theorem intsAt_cap {w : World} {ad : Option Addr} {n cap : Nat} {L : List Int} (h : IntsAt w (.slice ad n cap) L) : n ≤ cap ∨ L = [] := by
  obtain ⟨ad', cap', hv, h⟩ := h
  injection hv with h1 h2 h3
  subst h3
  rcases h with rfl | ⟨g, _, _, _, _, hc⟩
  · exact .inr rfl
  · exact .inl (by rw [h2]; exact hc)
theorem intsAt_take {w : World} {ad : Option Addr} {n cap : Nat} {L : List Int} (h : IntsAt w (.slice ad n cap) L) {k : Nat} (hk : k ≤ L.length) : IntsAt w (.slice ad k cap) (L.take k) := by
  obtain ⟨ad', cap', hv, h⟩ := h
  injection hv with h1 h2 h3
  subst h1; subst h3
  refine ⟨_, _, by rw [List.length_take, Nat.min_eq_left hk], ?_⟩
  rcases h with rfl | ⟨g, c, rfl, hg, hc, hcap⟩
  · exact .inl (by simp)
  · refine .inr ⟨g, c, rfl, hg, fun j x hx => hc j x ?_, by rw [List.length_take]; omega⟩
    have hj : j < k := by have := (List.getElem?_eq_some_iff.1 hx).1; simp at this; omega
    rw [List.getElem?_take_of_lt hj] at hx
    exact hx
def iV (x : Int) : Value := .int .i64 x
theorem ints_of_owns {w : World} {base n : Nat} {v : Value} {L : List Int} (h : w.ownsRow base 3 1 v n (L.map iV)) : IntsAt w v L := by
  have hl := h.1
  rw [List.length_map, Nat.mul_one] at hl
  rcases h.2 with ⟨rfl, h0⟩ | ⟨g, cap, cur, rfl, hg, hh, hnc, _⟩
  · exact ⟨none, 0, by rw [hl, h0], .inl (List.length_eq_zero_iff.1 (by omega))⟩
  · refine ⟨_, _, by rw [hl], .inr ⟨g, 0, rfl, (Array.getElem?_eq_some_iff.1 hh).1, fun j x hx => ?_, by omega⟩⟩
    rw [Nat.zero_add]
    have hj := (List.getElem?_eq_some_iff.1 hx).1
    rw [World.ownsRow.cellAt h j (by omega), List.getElem?_map, hx]
    rfl


/-- A slice of bytes that reads so. -/
def BytesAt (w : World) (a : Option Addr) (ns : List Nat) : Prop :=
  ns.length ≤ maxLen ∧ (∀ n ∈ ns, n ≤ 255) ∧ (ns = [] ∨ ∃ g c, a = some ⟨g, c, none⟩ ∧ g < w.heap.size ∧ ∀ (j n : Nat), ns[j]? = some n → w.cell? ⟨g, c + j, none⟩ = some (.int .u8 n))
theorem BytesAt.kept {w w' : World} {a : Option Addr} {ns : List Nat} (h : BytesAt w a ns) (hb : CellsKept w w') : BytesAt w' a ns := by
  obtain ⟨h1, h2, h⟩ := h
  refine ⟨h1, h2, h.imp id ?_⟩
  rintro ⟨g, c, e, hx, hc⟩
  exact ⟨g, c, e, Nat.lt_of_lt_of_le hx hb.1, fun j n hj => hb.cell (hc j n hj)⟩
theorem bytes_cell {w : World} {a : Option Addr} {ns : List Nat} (h : BytesAt w a ns) {k : Nat} (hk : k < ns.length) : ∃ g c, a = some ⟨g, c, none⟩ ∧ g < w.heap.size ∧ ∀ j, j < ns.length → w.cell? ⟨g, c + j, none⟩ = some (.int .u8 (ns.getD j 0)) ∧ ns.getD j 0 ≤ 255 := by
  obtain ⟨_, h2, rfl | ⟨x, y, e, hx, hc⟩⟩ := h
  · simp at hk
  · refine ⟨x, y, e, hx, fun j hj => ?_⟩
    have : ns[j]? = some (ns.getD j 0) := by rw [List.getD_eq_getElem?_getD, List.getElem?_eq_getElem hj]; rfl
    exact ⟨hc j _ this, h2 _ (List.mem_of_getElem? this)⟩


end Go.Proofs.YtkdigojjeiidmaaDoor
