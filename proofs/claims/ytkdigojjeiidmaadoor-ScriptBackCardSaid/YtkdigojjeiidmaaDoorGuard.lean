/-
  A region that draws its order and holds guarded operations, by a table: every guard holds. No program in sight.
-/
import Derived.Test.YtkdigojjeiidmaaDoorKit
namespace Go.Proofs.YtkdigojjeiidmaaDoor
open Go Go.RowKit

/-- An operation whose guard holds. -/
theorem wpOp_wanted {P : Program} {ops : Array Oper} {Q : Exit → Act → World → Prop} {i : Nat} {o : Oper} {K : Act → World → Prop} {a : Act} {w : World} (ho : ops[i]? = some o) (hw : Region.wanted o (yielded ops a.tmps) = true) (h : Oper.wp P o a w K Q) : wpOp P ops Q i K a w := by
  unfold wpOp
  rw [ho]
  simp only [hw, if_true]
  exact .inl h
/-- Operation k's slot holds what the guard wants. -/
theorem wanted_of {ops : Array Oper} {o q : Oper} {a : Act} {k t : Nat} {b : Bool} (hg : o.guard = some (k, b)) (hq : ops[k]? = some q) (hd : q.dst = some t) (ht : Tm a t = .bool b) : Region.wanted o (yielded ops a.tmps) = true := by
  have h := tm_get ht
  have h1 : a.tmps[t]? = some (.bool b) := by
    cases e : a.tmps[t]? with
    | none => rw [e] at h; simp [undef] at h
    | some v => rw [e] at h; exact congrArg some h
  have hy : yielded ops a.tmps k = some b := by
    unfold yielded
    rw [hq]
    simp [hd, h1]
  unfold Region.wanted
  rw [hg]
  simp [hy]
def TSpec.TextG (S : TSpec) (G : Nat → Option (Nat × Nat × Bool)) (ops : Array Oper) : Prop := ∀ i o, ops[i]? = some o → ∃ d p ds, S.D i = some (d, p, ds) ∧ o.dst = d ∧ o.op = p ∧ o.guard = (G i).map (fun x => (x.1, x.2.2)) ∧ (∀ k t b, G i = some (k, t, b) → (ops[k]?).bind (·.dst) = some t) ∧
  (ds.all fun j => o.after.toList.any fun e => Region.binds .any e && e.on == j) = true ∧ (o.after.toList.any fun e => !Nat.ble (e.on + 1) i) = false
variable {S : TSpec} {G : Nat → Option (Nat × Nat × Bool)} {a0 : Act} {l : Array Bool} {a : Act}
theorem TInv.allG (h : TInv S a0 l a) {ops : Array Oper} (hn : ops.size = S.N) (hT : S.TextG G ops) (hr : Region.ready .any ops l = []) : ∀ i, i < S.N → Lst l i := by
  intro i
  induction i using Nat.strongRecOn with
  | ind i ih =>
    intro hi
    obtain ⟨o, ho⟩ : ∃ o, ops[i]? = Option.some o := ⟨_, Array.getElem?_eq_getElem (by omega)⟩
    obtain ⟨d, p, ds, _, _, _, _, _, _, hlt'⟩ := hT i o ho
    have hlt := late_of hlt'
    cases hb : l.getD i true with
    | true =>
      unfold Lst
      have hs := h.lsz
      simp only [Array.getD_eq_getD_getElem?, Array.getElem?_eq_getElem (show i < l.size by omega), Option.getD_some] at hb ⊢
      exact hb
    | false =>
      have hm : i ∈ Region.ready .any ops l := mem_ready.2 ⟨hb, o, ho, fun e he _ => ih e.on (hlt e he) (by have := hlt e he; omega)⟩
      rw [hr] at hm; cases hm
/-- The law. -/
theorem table_region_g {P : Program} {ops : Array Oper} {Q : Exit → Act → World → Prop} {id : Nat} {w0 : World} (S : TSpec) (G : Nat → Option (Nat × Nat × Bool)) (M : Array Bool → Act → World → Prop) (hm : P.follows .mixedOrders = true)
    (hT : S.TextG G ops) (hG : ∀ i k t b d p ds, G i = Option.some (k, t, b) → S.D i = Option.some (d, p, ds) → k ∈ ds ∧ S.triv k = Option.some (t, .bool b)) (hn : ops.size = S.N) (h0 : M (Array.replicate ops.size false) a0 w0.drew)
    (hQ : ∀ l a w, TInv S a0 l a → (∀ i, i < S.N → Lst l i) → M l a w → Q .normal a w)
    (hstep : ∀ l a w i o d p ds, TInv S a0 l a → M l a w → i < S.N → S.D i = Option.some (d, p, ds) → o.dst = d → o.op = p → (∀ j ∈ ds, Lst l j) → l.getD i true = false →
      Oper.wp P o a w (fun a' w' => TInv S a0 (l.setIfInBounds i true) a' ∧ M (l.setIfInBounds i true) a' w') Q) :
    (Code.region id ops true).wp P Q a0 w0 := by
  refine wp_region_inv hm (fun l a w => TInv S a0 l a ∧ M l a w) ⟨TInv.start hn, h0⟩ (fun l a w h hr => hQ l a w h.1 (h.1.allG hn hT hr) h.2) ?_
  intro l a w i o h ho hun hall
  obtain ⟨d, p, ds, hD, hd, hp, hg', hgd, hdeps', _⟩ := hT i o ho
  have hdeps := deps_of hdeps'
  have hpre : ∀ j ∈ ds, Lst l j := fun j hj => by
    obtain ⟨e, he, hb, rfl⟩ := hdeps j hj
    exact hall e he hb
  refine wpOp_wanted ho ?_ (hstep l a w i o d p ds h.1 h.2 (by have := (Array.getElem?_eq_some_iff.1 ho).1; omega) hD hd hp hpre hun)
  cases hgi : G i with
  | none => rw [hgi] at hg'; unfold Region.wanted; rw [hg']; rfl
  | some x =>
    obtain ⟨k, t, b⟩ := x
    obtain ⟨hk, htr⟩ := hG i k t b d p ds hgi hD
    rw [hgi] at hg'
    have hdst := hgd k t b hgi
    cases hq : ops[k]? with
    | none => rw [hq] at hdst; cases hdst
    | some q =>
      rw [hq] at hdst
      exact wanted_of hg' hq hdst (h.1.tri k t _ htr (hpre k hk))
end Go.Proofs.YtkdigojjeiidmaaDoor
