/-
  The orders that are tried are just those that go, each ahead of those that are greater; later ends leave what fitted. No program in sight.
-/
import Derived.Test.YtomheapokfphiaaDoorLinOrders
namespace Go.Proofs.YtomheapokfphiaaDoor

theorem goM_cons {pages : Int} {l : List OpP} {pre : List Int} {s : LiveP} {i : Int} {rest : List Int} (h : (goM pages l pre s (i :: rest)).isSome = true) :
    0 ≤ i ∧ i < l.length ∧ pre.contains i = false ∧ aheadM l pre i.toNat = false ∧ ∃ s', doesM pages s (opAt l i.toNat) = some s' ∧ (goM pages l (pre ++ [i]) s' rest).isSome = true := by
  unfold goM at h
  split at h
  · cases h
  · rename_i hn
    have h1 : ¬ i < 0 := fun x => hn (.inl x)
    have h2 : ¬ (l.length : Int) ≤ i := fun x => hn (.inr (.inl x))
    have h3 : pre.contains i = false := by cases e : pre.contains i with
      | false => rfl
      | true => exact absurd (.inr (.inr (.inl e))) hn
    have h4 : aheadM l pre i.toNat = false := by cases e : aheadM l pre i.toNat with
      | false => rfl
      | true => exact absurd (.inr (.inr (.inr e))) hn
    refine ⟨by omega, by omega, h3, h4, ?_⟩
    cases hd : doesM pages s (opAt l i.toNat) with
    | none => rw [hd] at h; cases h
    | some s' => rw [hd] at h; exact ⟨s', rfl, h⟩
theorem goM_of {pages : Int} {l : List OpP} {pre : List Int} {s s' : LiveP} {i : Int} {rest : List Int} (h1 : 0 ≤ i) (h2 : i < l.length) (h3 : pre.contains i = false) (h4 : aheadM l pre i.toNat = false)
    (h5 : doesM pages s (opAt l i.toNat) = some s') : goM pages l pre s (i :: rest) = goM pages l (pre ++ [i]) s' rest := by
  rw [goM, if_neg (by rw [h3, h4]; simp; omega), h5]
theorem dfs_go {pages : Int} {l : List OpP} : ∀ (f : Nat) (s : LiveP) (order x : List Int), x ∈ dfsM pages l f s order → ∃ rest, x = order ++ rest ∧ (goM pages l order s rest).isSome = true
  | 0, s, order, x, h => by
    simp [dfsM] at h
    exact ⟨[], by simp [h], rfl⟩
  | f + 1, s, order, x, h => by
    rw [dfsM] at h
    rcases List.mem_cons.1 h with rfl | h
    · exact ⟨[], by simp, rfl⟩
    obtain ⟨i, hi, hx⟩ := List.mem_flatMap.1 h
    have hi := List.mem_range.1 hi
    unfold subM at hx
    split at hx
    · cases hx
    rename_i hn
    cases hd : doesM pages s (opAt l i) with
    | none => rw [hd] at hx; cases hx
    | some s' =>
      rw [hd] at hx
      obtain ⟨rest, rfl, hr⟩ := dfs_go f s' _ x hx
      have h3 : order.contains (i : Int) = false := by cases e : order.contains (i : Int) with
        | false => rfl
        | true => rw [e] at hn; simp at hn
      have h4 : aheadM l order i = false := by cases e : aheadM l order i with
        | false => rfl
        | true => rw [e] at hn; simp at hn
      refine ⟨(i : Int) :: rest, by simp, ?_⟩
      rw [goM_of (s' := s') (by omega) (by omega) h3 (by simpa using h4) (by simpa using hd)]
      exact hr
theorem go_dfs {pages : Int} {l : List OpP} : ∀ (f : Nat) (s : LiveP) (order rest : List Int), (goM pages l order s rest).isSome = true → rest.length ≤ f → order ++ rest ∈ dfsM pages l f s order
  | 0, s, order, [], _, _ => by simp [dfsM]
  | f + 1, s, order, [], _, _ => by simp [dfsM]
  | f + 1, s, order, i :: rest, h, hl => by
    obtain ⟨h1, h2, h3, h4, s', h5, h6⟩ := goM_cons h
    rw [dfsM]
    refine List.mem_cons_of_mem _ (List.mem_flatMap.2 ⟨i.toNat, List.mem_range.2 (by omega), ?_⟩)
    have hi : ((i.toNat : Nat) : Int) = i := Int.toNat_of_nonneg h1
    unfold subM
    rw [hi, h3, h4, h5]
    have := go_dfs f s' (order ++ [i]) rest h6 (by simpa using hl)
    simpa using this
theorem go_len {pages : Int} {l : List OpP} : ∀ (rest order : List Int) (s : LiveP), (goM pages l order s rest).isSome = true → rest.length ≤ miss order l.length
  | [], _, _, _ => Nat.zero_le _
  | i :: rest, order, s, h => by
    obtain ⟨h1, h2, h3, _, s', _, h6⟩ := goM_cons h
    have ih := go_len rest _ s' h6
    have hi : ((i.toNat : Nat) : Int) = i := Int.toNat_of_nonneg h1
    have := miss_less (order := order) (i := i.toNat) (by rw [hi]; exact h3) (n := l.length) (by omega)
    rw [hi] at this
    simp only [List.length_cons]
    omega

/-- It is no later than the other one: place by place. -/
def firstOk : List Int → List Int → Bool
  | [], _ => true
  | _ :: _, [] => false
  | a :: la, o :: lo => if o < a then false else if a < o then true else firstOk la lo
theorem firstOk_app : ∀ (a b : List Int), firstOk a (a ++ b) = true
  | [], _ => rfl
  | x :: a, b => by simp [firstOk, firstOk_app a b]
theorem firstOk_refl (a : List Int) : firstOk a a = true := by have := firstOk_app a []; rwa [List.append_nil] at this
theorem firstOk_lt : ∀ (p a b : List Int) (i j : Int), i < j → firstOk (p ++ i :: a) (p ++ j :: b) = true
  | [], a, b, i, j, h => by simp [firstOk]; omega
  | x :: p, a, b, i, j, h => by simp [firstOk]; exact firstOk_lt p a b i j h
theorem dfs_sorted {pages : Int} {l : List OpP} : ∀ (f : Nat) (s : LiveP) (order : List Int), (dfsM pages l f s order).Pairwise (fun a b => firstOk a b = true)
  | 0, _, _ => by simp [dfsM]
  | f + 1, s, order => by
    have hsub : ∀ i, ∀ x ∈ subM pages l (dfsM pages l f) s order i, ∃ rest, x = order ++ (i : Int) :: rest := by
      intro i x hx
      unfold subM at hx
      split at hx
      · cases hx
      cases hd : doesM pages s (opAt l i) with
      | none => rw [hd] at hx; cases hx
      | some s' =>
        rw [hd] at hx
        obtain ⟨rest, rfl, _⟩ := dfs_go f s' _ x hx
        exact ⟨rest, by simp⟩
    rw [dfsM]
    refine List.pairwise_cons.2 ⟨fun x hx => ?_, ?_⟩
    · obtain ⟨i, _, hx⟩ := List.mem_flatMap.1 hx
      obtain ⟨rest, rfl⟩ := hsub i x hx
      exact firstOk_app _ _
    · refine List.pairwise_flatMap.2 ⟨fun i _ => ?_, ?_⟩
      · unfold subM
        split
        · exact List.Pairwise.nil
        · split
          · exact List.Pairwise.nil
          · exact dfs_sorted f _ _
      · refine List.pairwise_lt_range.imp ?_
        intro i j hij x hx y hy
        obtain ⟨r1, rfl⟩ := hsub i x hx
        obtain ⟨r2, rfl⟩ := hsub j y hy
        exact firstOk_lt _ _ _ _ _ (by omega)
/-- The first one of those that have all that ended. -/
def firstM (pages : Int) (l : List OpP) : Option (List Int) := (dfsM pages l l.length [] []).find? (wholeM l)
theorem first_fits {pages : Int} {l : List OpP} {a : List Int} (h : firstM pages l = some a) : (goM pages l [] [] a).isSome = true ∧ wholeM l a = true := by
  obtain ⟨r, e, hr⟩ := dfs_go _ _ _ _ (List.mem_of_find?_eq_some h)
  rw [List.nil_append] at e
  subst e
  exact ⟨hr, List.find?_some h⟩
theorem first_none {pages : Int} {l : List OpP} (h : firstM pages l = none) (o : List Int) (hg : (goM pages l [] [] o).isSome = true) : wholeM l o = false := by
  have hm := go_dfs l.length [] [] o hg (Nat.le_trans (go_len _ _ _ hg) (miss_le _ _))
  rw [List.nil_append] at hm
  have := List.find?_eq_none.1 h o hm
  cases e : wholeM l o with
  | false => rfl
  | true => exact absurd e this
theorem first_least {pages : Int} {l : List OpP} {a : List Int} (h : firstM pages l = some a) (o : List Int) (hg : (goM pages l [] [] o).isSome = true) (hw : wholeM l o = true) : firstOk a o = true := by
  have hm := go_dfs l.length [] [] o hg (Nat.le_trans (go_len _ _ _ hg) (miss_le _ _))
  rw [List.nil_append] at hm
  have hs := dfs_sorted (pages := pages) (l := l) l.length [] []
  obtain ⟨_, xs, bs, e, hn⟩ := List.find?_eq_some_iff_append.1 h
  rw [e] at hm hs
  rcases List.mem_append.1 hm with hm | hm
  · have := hn o hm
    rw [hw] at this
    cases this
  · rcases List.mem_cons.1 hm with rfl | hm
    · exact firstOk_refl _
    · exact (List.pairwise_cons.1 (List.pairwise_append.1 hs).2.1).1 o hm

/-- Where an order goes, each one in it may stand where it stands. -/
theorem go_at {pages : Int} {l : List OpP} : ∀ (rest pre : List Int) (s : LiveP), (goM pages l pre s rest).isSome = true → ∀ (a b : List Int) (k : Int), rest = a ++ k :: b → 0 ≤ k ∧ k < l.length ∧ aheadM l (pre ++ a) k.toNat = false
  | [], _, _, _, a, b, k, e => by cases a <;> cases e
  | i :: rest, pre, s, h, a, b, k, e => by
    obtain ⟨h1, h2, h3, h4, s', h5, h6⟩ := goM_cons h
    match a, e with
    | [], e => injection e with e1 e2; subst e1; exact ⟨h1, h2, by rw [List.append_nil]; exact h4⟩
    | x :: a, e =>
      injection e with e1 e2
      subst e1
      have := go_at rest _ s' h6 a b k e2
      simpa using this
theorem go_get {pages : Int} {l : List OpP} {o : List Int} (h : (goM pages l [] [] o).isSome = true) {i : Nat} (hi : i < o.length) : 0 ≤ o.getD i 0 ∧ o.getD i 0 < l.length := by
  have := go_at o [] [] h (o.take i) (o.drop (i + 1)) (o.getD i 0) (by
    rw [List.getD_eq_getElem?_getD, List.getElem?_eq_getElem hi]
    simp)
  exact ⟨this.1, this.2.1⟩
theorem go_times {pages : Int} {l : List OpP} {o : List Int} (h : (goM pages l [] [] o).isSome = true) {i j : Nat} (hi : i < o.length) (hj : j < i) :
    (opAt l (o.getD i 0).toNat).e = -1 ∨ (opAt l (o.getD j 0).toNat).b ≤ (opAt l (o.getD i 0).toNat).e := by
  have := (go_at o [] [] h (o.take i) (o.drop (i + 1)) (o.getD i 0) (by
    rw [List.getD_eq_getElem?_getD, List.getElem?_eq_getElem hi]
    simp)).2.2
  rw [List.nil_append] at this
  unfold aheadM at this
  by_cases he : (opAt l (o.getD i 0).toNat).e = -1
  · exact .inl he
  right
  rw [decide_eq_true (p := (opAt l (o.getD i 0).toNat).e ≠ -1) he, Bool.true_and] at this
  have hm : o.getD j 0 ∈ o.take i := by
    rw [List.getD_eq_getElem?_getD, List.getElem?_eq_getElem (by omega)]
    exact List.mem_take_iff_getElem.2 ⟨j, by omega, rfl⟩
  have := List.any_eq_false.1 this _ hm
  simp at this
  exact this

/-- The same call, with a later end, if it ended. -/
def lateOp (d : Int) (o : OpP) : OpP := if o.e = -1 then o else { o with e := o.e + d }
theorem late_b (d : Int) (o : OpP) : (lateOp d o).b = o.b := by unfold lateOp; split <;> rfl
theorem late_does (d pages : Int) (s : LiveP) (o : OpP) : doesM pages s (lateOp d o) = doesM pages s o := by unfold lateOp; split <;> rfl
theorem late_at {d : Int} {l : List OpP} {i : Nat} (h : i < l.length) : opAt (l.map (lateOp d)) i = lateOp d (opAt l i) := by
  unfold opAt
  simp [List.getD_eq_getElem?_getD, List.getElem?_eq_getElem h]
theorem late_atb {d : Int} {l : List OpP} (i : Nat) : (opAt (l.map (lateOp d)) i).b = (opAt l i).b := by
  by_cases h : i < l.length
  · rw [late_at h, late_b]
  · unfold opAt
    rw [List.getD_eq_getElem?_getD, List.getD_eq_getElem?_getD, List.getElem?_eq_none (by simp; omega), List.getElem?_eq_none (by omega)]
theorem late_ahead {d : Int} (hd : 0 ≤ d) {l : List OpP} {pre : List Int} {i : Nat} (hi : i < l.length) (h : aheadM l pre i = false) : aheadM (l.map (lateOp d)) pre i = false := by
  unfold aheadM at h ⊢
  rw [late_at hi]
  by_cases he : (opAt l i).e = -1
  · have : (lateOp d (opAt l i)).e = -1 := by unfold lateOp; rw [if_pos he]; exact he
    rw [this]; rfl
  · rw [decide_eq_true (p := (opAt l i).e ≠ -1) he, Bool.true_and] at h
    have h := List.any_eq_false.1 h
    have e1 : (lateOp d (opAt l i)).e = (opAt l i).e + d := by unfold lateOp; rw [if_neg he]
    rw [Bool.and_eq_false_iff]
    right
    refine List.any_eq_false.2 fun k hk => ?_
    have := h k hk
    rw [late_atb, e1]
    simp at this ⊢
    omega
theorem late_go {pages d : Int} (hd : 0 ≤ d) {l : List OpP} : ∀ (rest pre : List Int) (s : LiveP), (goM pages l pre s rest).isSome = true → (goM pages (l.map (lateOp d)) pre s rest).isSome = true
  | [], _, _, _ => rfl
  | i :: rest, pre, s, h => by
    obtain ⟨h1, h2, h3, h4, s', h5, h6⟩ := goM_cons h
    rw [goM_of (s' := s') h1 (by simpa using h2) h3 (late_ahead hd (by omega) h4) (by rw [late_at (by omega), late_does]; exact h5)]
    exact late_go hd rest _ s' h6
theorem late_whole {d : Int} {l : List OpP} {o : List Int} (h : wholeM l o = true) : wholeM (l.map (lateOp d)) o = true := by
  unfold wholeM at h ⊢
  have h := List.all_eq_true.1 h
  refine List.all_eq_true.2 fun i hi => ?_
  rw [List.length_map] at hi
  have h := h i hi
  have hi := List.mem_range.1 hi
  rw [late_at hi]
  cases hc : o.contains (i : Int) with
  | true => simp
  | false =>
    rw [hc] at h
    simp at h
    simp
    unfold lateOp
    rw [if_pos h]
    exact h
theorem late_may {d : Int} (hd : 0 ≤ d) {l : List OpP} (hb : ∀ o ∈ l, o.e + d ≤ 2147483648) (h : mayL l = true) : mayL (l.map (lateOp d)) = true := by
  unfold mayL at h ⊢
  have h : l.any badOp = false := by simpa using h
  have h := List.any_eq_false.1 h
  have : (l.map (lateOp d)).any badOp = false := by
    rw [List.any_map]
    refine List.any_eq_false.2 fun o ho => ?_
    have h1 := h o ho
    have h2 := hb o ho
    unfold badOp at h1
    simp at h1
    show ¬ badOp (lateOp d o) = true
    unfold badOp
    rw [late_b]
    unfold lateOp
    split
    · simp; omega
    · simp; omega
  rw [this]; rfl
end Go.Proofs.YtomheapokfphiaaDoor
