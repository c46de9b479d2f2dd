/-
  A region that draws its order: an invariant that each operation keeps, whichever comes up. No program in sight.
-/
import Derived.Test.YtomheapokfphiaaDoorRawLeaf
import Derived.Deep.AppendLies
namespace Go.Proofs.YtomheapokfphiaaDoor
open Go Go.RowKit

/-- How many below n are not listed. -/
def unl (l : Array Bool) : Nat → Nat
  | 0 => 0
  | n + 1 => unl l n + if l.getD n true = false then 1 else 0
theorem unl_set_ge {l : Array Bool} {i : Nat} : ∀ {n : Nat}, n ≤ i → unl (l.setIfInBounds i true) n = unl l n
  | 0, _ => rfl
  | n + 1, h => by
    simp only [unl]
    rw [unl_set_ge (by omega)]
    have : (l.setIfInBounds i true).getD n true = l.getD n true := by
      simp only [Array.getD_eq_getD_getElem?]
      rw [Array.getElem?_setIfInBounds_ne (by omega)]
    rw [this]
theorem unl_set {l : Array Bool} {i : Nat} (hi : l.getD i true = false) : ∀ {n : Nat}, i < n → unl (l.setIfInBounds i true) n + 1 = unl l n
  | 0, h => absurd h (Nat.not_lt_zero i)
  | n + 1, h => by
    simp only [unl]
    have hlt : i < l.size := by
      rcases Nat.lt_or_ge i l.size with h | h
      · exact h
      · simp [Array.getD_eq_getD_getElem?, Array.getElem?_eq_none h] at hi
    by_cases e : i = n
    · subst e
      rw [unl_set_ge (Nat.le_refl _), if_pos hi, if_neg]
      simp [Array.getD_eq_getD_getElem?, hlt]
    · have ih := unl_set hi (n := n) (by omega)
      have : (l.setIfInBounds i true).getD n true = l.getD n true := by
        simp only [Array.getD_eq_getD_getElem?]
        rw [Array.getElem?_setIfInBounds_ne e]
      rw [this]
      omega
theorem unl_zero {l : Array Bool} : ∀ {n : Nat}, unl l n = 0 → ∀ i, i < n → l.getD i true = true
  | 0, _, i, h => absurd h (Nat.not_lt_zero i)
  | n + 1, h0, i, h => by
    simp only [unl] at h0
    by_cases e : i = n
    · subst e
      cases hb : l.getD i true with
      | true => rfl
      | false => rw [hb] at h0; simp at h0
    · exact unl_zero (l := l) (n := n) (by omega) i (by omega)
theorem unl_all (m : Nat) : ∀ n, unl (Array.replicate m false) n ≤ n
  | 0 => Nat.le_refl _
  | n + 1 => by have := unl_all m n; simp only [unl]; split <;> omega

theorem wpAny_inv {P : Program} {md : Region.Mode} {ops : Array Oper} {Q : Exit → Act → World → Prop} {I : Array Bool → Act → World → Prop}
    (hdone : ∀ listed a w, I listed a w → Region.ready md ops listed = [] → Q .normal a w)
    (hstep : ∀ listed a w i o, I listed a w → ops[i]? = some o → listed.getD i true = false → (∀ e ∈ o.after, Region.binds md e = true → listed.getD e.on false = true) → wpOp P ops Q i (fun a' w' => I (listed.setIfInBounds i true) a' w') a w) :
    ∀ fuel listed a w, unl listed ops.size ≤ fuel → I listed a w → wpAny P md ops Q fuel listed a w := by
  intro fuel
  induction fuel with
  | zero =>
    intro listed a w hu hI
    have hr : Region.ready md ops listed = [] := by
      cases hr : Region.ready md ops listed with
      | nil => rfl
      | cons i t =>
        exfalso
        have hm : i ∈ Region.ready md ops listed := by rw [hr]; exact List.mem_cons_self
        obtain ⟨h1, o, ho, _⟩ := mem_ready.1 hm
        have := unl_zero (l := listed) (n := ops.size) (by omega) i (Array.getElem?_eq_some_iff.1 ho).1
        rw [h1] at this; cases this
    exact ⟨hr, hdone _ _ _ hI hr⟩
  | succ fuel ih =>
    intro listed a w hu hI
    refine ⟨hdone _ _ _ hI, fun i hi => ?_⟩
    obtain ⟨h1, o, ho, hall⟩ := mem_ready.1 hi
    refine wpOp_mono (fun a' w' h' => ih _ a' w' ?_ h') (hstep _ _ _ i o hI ho h1 hall)
    have := unl_set h1 (Array.getElem?_eq_some_iff.1 ho).1
    omega

theorem wp_region_inv {P : Program} {ops : Array Oper} {Q : Exit → Act → World → Prop} {id : Nat} {a : Act} {w : World} (hm : P.follows .mixedOrders = true) (I : Array Bool → Act → World → Prop)
    (h0 : I (Array.replicate ops.size false) a w.drew)
    (hdone : ∀ listed a w, I listed a w → Region.ready .any ops listed = [] → Q .normal a w)
    (hstep : ∀ listed a w i o, I listed a w → ops[i]? = some o → listed.getD i true = false → (∀ e ∈ o.after, Region.binds .any e = true → listed.getD e.on false = true) → wpOp P ops Q i (fun a' w' => I (listed.setIfInBounds i true) a' w') a w) :
    (Code.region id ops true).wp P Q a w :=
  wp_region_any hm (wpAny_inv hdone hstep _ _ _ _ (unl_all _ _) h0)

/-- An operation without a guard. -/
theorem wpOp_plain {P : Program} {ops : Array Oper} {Q : Exit → Act → World → Prop} {i : Nat} {o : Oper} {K : Act → World → Prop} {a : Act} {w : World} (ho : ops[i]? = some o) (hg : o.guard = none) (h : Oper.wp P o a w K Q) : wpOp P ops Q i K a w := by
  unfold wpOp
  rw [ho]
  have hw : Region.wanted o (yielded ops a.tmps) = true := by simp [Region.wanted, hg]
  simp only [hw, if_true]
  exact .inl h
end Go.Proofs.YtomheapokfphiaaDoor
