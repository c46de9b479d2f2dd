/-
  The contract of Row: a history by numbers.
-/
import Derived.Test.YtomheapokfphiaaDoorLinTimesLaw
import Derived.Test.YtomheapokfphiaaDoorLinRowPlain
namespace Go.Proofs.YtomheapokfphiaaDoor
open Go Go.RowKit Go.Shelf

/-- Calls of one's own whose lists share nothing with one row. -/
def OpsAp (base : Nat) (w : World) (out : Value) (l : List OpP) (live : Value) : Prop :=
  ∃ lvs : List Value, lvs.length = l.length ∧ w.ownsRow base 50 7 out l.length (flatOps l lvs) ∧
    (∀ (j : Nat) (o : OpP) (v : Value), l[j]? = some o → lvs[j]? = some v → w.ownsRow base 3 1 v o.L.length (o.L.map iV)) ∧ ∀ (j : Nat) (v : Value), lvs[j]? = some v → Apart v live
theorem opsAp_nil (base : Nat) (w : World) (live : Value) : OpsAp base w (.slice none 0 0) [] live := ⟨[], rfl, World.ownsRow_nil _ _ _ _, (fun j o v h => by simp at h), fun j v h => by simp at h⟩
variable {base : Nat} {w w' : World} {out live : Value} {l : List OpP}
theorem OpsAp.own (h : OpsAp base w out l live) : OpsOwn base w out l := by
  obtain ⟨lvs, h1, h2, h3, _⟩ := h
  exact ⟨lvs, h1, h2, h3⟩
theorem ap_get {lvs : List Value} (h1 : lvs.length = l.length) {j : Nat} {v : Value} (h : lvs[j]? = some v) : ∃ o, l[j]? = some o := by
  have := (List.getElem?_eq_some_iff.1 h).1
  exact ⟨_, List.getElem?_eq_getElem (by omega)⟩
theorem OpsAp.old (h : OpsAp base w out l live) (hk : ∀ g, g < w.heap.size → w'.heap[g]? = w.heap[g]?) : OpsAp base w' out l live := by
  obtain ⟨lvs, h1, h2, h3, h4⟩ := h
  exact ⟨lvs, h1, own_kept h2 fun g hg => hk g (own_lt h2 hg).1, fun j o v hj hv => own_kept (h3 j o v hj hv) fun g hg => hk g (own_lt (h3 j o v hj hv) hg).1, h4⟩
/-- Another row, in blocks that are newer. -/
theorem OpsAp.fresh {live' : Value} (h : OpsAp base w out l live) (hk : ∀ g, g < w.heap.size → w'.heap[g]? = w.heap[g]?) (hl : ∀ g, live'.ownBlock = some g → w.heap.size ≤ g) : OpsAp base w' out l live' := by
  obtain ⟨lvs, h1, h2, h3, h4⟩ := h
  refine ⟨lvs, h1, own_kept h2 fun g hg => hk g (own_lt h2 hg).1, fun j o v hj hv => own_kept (h3 j o v hj hv) fun g hg => hk g (own_lt (h3 j o v hj hv) hg).1, fun j v hv g hg hg' => ?_⟩
  obtain ⟨o, ho⟩ := ap_get h1 hv
  have := (own_lt (h3 j o v ho hv) hg).1
  have := hl g hg'
  omega
/-- The row has grown. -/
theorem OpsAp.grow {live' : Value} {m : Nat} {xs : List Value} (h : OpsAp base w out l live) (hlv : w.ownsRow base 3 1 live m xs) (hg : w.grownBy w' live.ownBlock) (hl : ∀ g, live'.ownBlock = some g → live.ownBlock = some g ∨ w.heap.size ≤ g) : OpsAp base w' out l live' := by
  obtain ⟨lvs, h1, h2, h3, h4⟩ := h
  refine ⟨lvs, h1, own_kept h2 fun g hgo => hg.block g (own_lt h2 hgo).1 (fun e => own_ne h2 hlv (by decide) hgo e.symm), fun j o v hj hv => own_kept (h3 j o v hj hv) fun g hgv => hg.block g (own_lt (h3 j o v hj hv) hgv).1 (fun e => h4 j v hv g hgv e.symm), fun j v hv g hgv hgl => ?_⟩
  rcases hl g hgl with e | e
  · exact h4 j v hv g hgv e
  · obtain ⟨o, ho⟩ := ap_get h1 hv
    have := (own_lt (h3 j o v ho hv) hgv).1
    omega
theorem own_store {m : Nat} {v : Value} {xs : List Value} {G : Nat} {c : Array Value} (h : w.ownsRow base 3 1 v m xs) (hG : w.heap[G]? = some (.cells c 50 (0, 0))) (i : Nat) (x : Value) : (w.setCell ⟨G, i, none⟩ x).ownsRow base 3 1 v m xs := by
  refine own_kept h fun g hg => set_block w (fun e => ?_) i x
  rcases h.2 with ⟨rfl, _⟩ | ⟨k, cap, cur, rfl, _, hh, _⟩
  · simp [Value.ownBlock] at hg
  · simp only [Value.ownBlock, Option.some.injEq] at hg
    subst hg; subst e
    rw [hG] at hh
    injection hh with hh
    injection hh with _ hh
    cases hh
/-- A store into a call's own block. -/
theorem OpsAp.store (h : OpsAp base w out l live) {G : Nat} {c : Array Value} (hG : w.heap[G]? = some (.cells c 50 (0, 0))) (ho : out.ownBlock ≠ some G) (i : Nat) (x : Value) : OpsAp base (w.setCell ⟨G, i, none⟩ x) out l live := by
  obtain ⟨lvs, h1, h2, h3, h4⟩ := h
  exact ⟨lvs, h1, own_kept h2 fun g hg => set_block w (fun e => ho (by rw [e]; exact hg)) i x, fun j o v hj hv => own_store (h3 j o v hj hv) hG i x, h4⟩
theorem opsAp_app2 {out' lv : Value} {o : OpP} {m : Nat} {xs : List Value} {lvs : List Value} (h1 : lvs.length = l.length) (h2 : w.ownsRow base 50 7 out l.length (flatOps l lvs))
    (h3 : ∀ (j : Nat) (o : OpP) (v : Value), l[j]? = some o → lvs[j]? = some v → w.ownsRow base 3 1 v o.L.length (o.L.map iV)) (h4 : ∀ (j : Nat) (v : Value), lvs[j]? = some v → Apart v live)
    (hlive : w.ownsRow base 3 1 live m xs) (hlv : w.ownsRow base 3 1 lv o.L.length (o.L.map iV)) (hap : Apart lv live)
    (hg : w.grownBy w' out.ownBlock) (ho : w'.ownsRow base 50 7 out' (l.length + 1) (flatOps l lvs ++ opRow o lv)) : OpsAp base w' out' (l ++ [o]) live ∧ w'.ownsRow base 3 1 live m xs := by
  have key : ∀ {m : Nat} {v : Value} {xs : List Value}, w.ownsRow base 3 1 v m xs → w'.ownsRow base 3 1 v m xs := fun hv =>
    own_kept hv fun g hgv => hg.block g (own_lt hv hgv).1 (fun e => own_ne hv h2 (by decide) hgv e.symm)
  refine ⟨⟨lvs ++ [lv], by simp [h1], ?_, fun j x v hj hv => ?_, fun j v hv => ?_⟩, key hlive⟩
  · rw [flat_app l lvs o lv h1, List.length_append]
    exact ho
  · by_cases e : j < l.length
    · rw [List.getElem?_append_left e] at hj
      rw [List.getElem?_append_left (by omega)] at hv
      exact key (h3 j x v hj hv)
    · have : j = l.length := by
        have := (List.getElem?_eq_some_iff.1 hj).1
        simp at this; omega
      subst this
      rw [List.getElem?_append_right (Nat.le_refl _), Nat.sub_self] at hj
      rw [← h1, List.getElem?_append_right (Nat.le_refl _), Nat.sub_self] at hv
      simp at hj hv
      subst hj; subst hv
      exact key hlv
  · by_cases e : j < l.length
    · rw [List.getElem?_append_left (by omega)] at hv
      exact h4 j v hv
    · have hjl := (List.getElem?_eq_some_iff.1 hv).1
      rw [List.length_append, List.length_singleton] at hjl
      rw [List.getElem?_append_right (by omega), show j - lvs.length = 0 by omega] at hv
      simp at hv
      subst hv
      exact hap
theorem nil_apart (v : Value) : Apart (.slice none 0 0) v := fun g hg => by simp [Value.ownBlock] at hg
theorem and82 (y : Nat) (h : y ≤ 255) : bits .and .u8 (y : Int) 2 = ((y &&& 2 : Nat) : Int) := by
  have : ∀ y : Fin 256, bits .and .u8 ((y.val : Nat) : Int) 2 = ((y.val &&& 2 : Nat) : Int) := by decide +kernel
  exact this ⟨y, by omega⟩
theorem bit82 (n q : Nat) (h : n ≤ 255) : (bits .and .u8 ((n : Int) / 2 ^ q) 2 == 0) = decide (n >>> q &&& 2 = 0) := by
  have e : ((n : Int) / 2 ^ q) = ((n / 2 ^ q : Nat) : Int) := by rw [Int.natCast_ediv, Int.natCast_pow]; rfl
  rw [e, and82 _ (Nat.le_trans (Nat.div_le_self _ _) h), Nat.shiftRight_eq_div_pow]
  generalize n / 2 ^ q &&& 2 = m
  by_cases hm : m = 0
  · subst hm; rfl
  · rw [decide_eq_false hm]
    simp; omega
end Go.Proofs.YtomheapokfphiaaDoor
