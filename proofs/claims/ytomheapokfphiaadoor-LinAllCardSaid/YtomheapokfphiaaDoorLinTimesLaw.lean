/-
  Calls of one's own whose ends are put later, in place; what Fits says of them.
-/
import Derived.Test.YtomheapokfphiaaDoorLinFirst
namespace Go.Proofs.YtomheapokfphiaaDoor
open Go Go.RowKit Go.Shelf

theorem set_block (w : World) {g h : Nat} (hne : g ≠ h) (i : Nat) (v : Value) : (w.setCell ⟨g, i, none⟩ v).heap[h]? = w.heap[h]? := by
  simp [World.setCell, Array.getElem?_modify, hne]
theorem ownsRow_put {w : World} {base g cap n size i : Nat} {e : TypeId} {xs : List Value} (h : w.ownsRow base e size (.slice (some ⟨g, 0, none⟩) n cap) n xs) (x : Value) :
    (w.setCell ⟨g, i, none⟩ x).ownsRow base e size (.slice (some ⟨g, 0, none⟩) n cap) n (xs.set i x) := by
  obtain ⟨h1, h2⟩ := h
  refine ⟨by simpa using h1, .inr ?_⟩
  rcases h2 with ⟨h2, _⟩ | ⟨g', cap', cur, hv, hb, hh, hn, hm, hs, ht⟩
  · cases h2
  · injection hv with hv1 hv2 hv3
    injection hv1 with hv1
    injection hv1 with hv1
    subst hv1; subst hv3
    refine ⟨g, cap, cur.setIfInBounds i x, rfl, hb, blk_set hh i x, hn, hm, by simpa using hs, ?_⟩
    rw [Array.toList_setIfInBounds, List.take_set, ht]
theorem flat_len : ∀ (l : List OpP) (lvs : List Value), lvs.length = l.length → (flatOps l lvs).length = l.length * 7
  | [], [], _ => rfl
  | a :: l, x :: lvs, h => by
    have := flat_len l lvs (by simpa using h)
    rw [flatOps, List.length_append, opRow_len, this, List.length_cons]; omega
theorem flat_set : ∀ (l : List OpP) (lvs : List Value) (j : Nat) (o : OpP) (e : Int), lvs.length = l.length → l[j]? = some o → flatOps (l.set j { o with e := e }) lvs = (flatOps l lvs).set (j * 7 + 6) (.int .i64 e)
  | [], _, j, o, e, _, h => by simp at h
  | a :: l, [], j, o, e, h, _ => by simp at h
  | a :: l, x :: lvs, 0, o, e, _, h2 => by
    simp at h2
    subst h2
    simp [flatOps, opRow]
  | a :: l, x :: lvs, j + 1, o, e, h, h2 => by
    rw [List.set_cons_succ, flatOps, flatOps, List.set_append_right _ _ (by rw [opRow_len]; omega), opRow_len, show (j + 1) * 7 + 6 - 7 = j * 7 + 6 by omega, flat_set l lvs j o e (by simpa using h) (by simpa using h2)]
theorem OpsOwn.put {base g cap : Nat} {w : World} {l : List OpP} (h : OpsOwn base w (.slice (some ⟨g, 0, none⟩) l.length cap) l) {j : Nat} {o : OpP} (hj : l[j]? = some o) (e : Int) :
    OpsOwn base (w.setCell ⟨g, j * 7 + 6, none⟩ (.int .i64 e)) (.slice (some ⟨g, 0, none⟩) l.length cap) (l.set j { o with e := e }) := by
  obtain ⟨lvs, h1, h2, h3⟩ := h
  have hjl := (List.getElem?_eq_some_iff.1 hj).1
  have key : ∀ {m : Nat} {v : Value} {xs : List Value}, w.ownsRow base 3 1 v m xs → (w.setCell ⟨g, j * 7 + 6, none⟩ (.int .i64 e)).ownsRow base 3 1 v m xs := fun hv =>
    own_kept hv fun g' hgv => by
      have hne := own_ne hv h2 (by decide) hgv
      exact set_block w (fun e => hne (by rw [← e]; rfl)) _ _
  refine ⟨lvs, by simpa using h1, ?_, fun k x v hk hv => ?_⟩
  · rw [flat_set l lvs j o e h1 hj, List.length_set]
    exact ownsRow_put h2 _
  · rw [List.getElem?_set] at hk
    split at hk
    · rename_i ek
      subst ek
      simp at hk
      subst hk
      exact key (h3 j o v hj hv)
    · exact key (h3 k x v hk hv)

/-- A store into a block that holds no numbers leaves numbers as they were. -/
theorem ints_far {w : World} {v : Value} {L : List Int} {g : Nat} (h : IntsAt w v L) (hg : ¬ IntBlk w g) (i : Nat) (x : Value) : IntsAt (w.setCell ⟨g, i, none⟩ x) v L := by
  obtain ⟨ad, cap, rfl, h | ⟨g', rfl, hb, hc, hcap⟩⟩ := h
  · exact ⟨_, _, rfl, .inl h⟩
  · have hne : g ≠ g' := fun e => hg (by rw [e]; exact hb)
    refine ⟨_, _, rfl, .inr ⟨g', rfl, hb.set _ _, fun j n hj => ?_, hcap⟩⟩
    rw [World.cell?_of_block (a := ⟨g', j, none⟩) (set_block w hne i x)]
    exact hc j n hj
/-- The first k have later ends. -/
def lateTo (d : Int) (l : List OpP) (k : Nat) : List OpP := (l.take k).map (lateOp d) ++ l.drop k
theorem lateTo_len (d : Int) (l : List OpP) (k : Nat) : (lateTo d l k).length = l.length := by unfold lateTo; simp; omega
theorem lateTo_get {d : Int} {l : List OpP} {k : Nat} (h : k < l.length) : (lateTo d l k)[k]? = some (opAt l k) := by
  unfold lateTo
  rw [List.getElem?_append_right (by simp; omega), List.length_map, List.length_take, Nat.min_eq_left (by omega), Nat.sub_self, List.getElem?_drop, Nat.add_zero]
  exact opAt_get h
theorem lateTo_succ {d : Int} {l : List OpP} {k : Nat} (h : k < l.length) : lateTo d l (k + 1) = (lateTo d l k).set k (lateOp d (opAt l k)) := by
  unfold lateTo
  have e : l.drop k = opAt l k :: l.drop (k + 1) := by
    rw [List.drop_eq_getElem_cons h]
    unfold opAt
    rw [List.getD_eq_getElem?_getD, List.getElem?_eq_getElem h]; rfl
  rw [List.set_append_right _ _ (by simp; omega), List.length_map, List.length_take, Nat.min_eq_left (by omega), Nat.sub_self, e, List.set_cons_zero, List.take_add_one, opAt_get h]
  simp
theorem lateTo_all (d : Int) (l : List OpP) : lateTo d l l.length = l.map (lateOp d) := by unfold lateTo; simp
theorem lateTo_none (d : Int) (l : List OpP) : lateTo d l 0 = l := by unfold lateTo; simp
theorem late_fits {pages d : Int} (hd : 0 ≤ d) (hd2 : d ≤ 255) {l : List OpP} (hs : ∀ o ∈ l, o.small) {o : List Int} (h : fitsM pages l o = true) : fitsM pages (l.map (lateOp d)) o = true := by
  unfold fitsM at h ⊢
  simp only [Bool.and_eq_true, decide_eq_true_eq] at h ⊢
  obtain ⟨⟨⟨hp, hm⟩, hg⟩, hw⟩ := h
  refine ⟨⟨⟨hp, late_may hd (fun o ho => ?_) hm⟩, late_go hd _ _ _ hg⟩, late_whole hw⟩
  obtain ⟨_, _, _, _, _, _, _, _, _, _, _, _, _, h14⟩ := hs o ho
  omega
theorem late_small {d : Int} (hd : 0 ≤ d) (hd2 : d ≤ 255) {o : OpP} (h : o.small) : (lateOp d o).fits ∧ (lateOp d o).L.length ≤ 65000 := by
  obtain ⟨h1, h2, h3, h4, h5, h6, h7, h8, h9, h10, h11, h12, h13, h14⟩ := h
  unfold lateOp
  split
  · refine ⟨⟨⟨?_, ?_⟩, ⟨?_, ?_⟩, ⟨?_, ?_⟩, ⟨?_, ?_⟩, fun a ha => ⟨?_, ?_⟩, ⟨?_, ?_⟩, ⟨?_, ?_⟩⟩, ?_⟩ <;> (first | omega | (have := h9 a ha; omega))
  · refine ⟨⟨⟨?_, ?_⟩, ⟨?_, ?_⟩, ⟨?_, ?_⟩, ⟨?_, ?_⟩, fun a ha => ⟨?_, ?_⟩, ⟨?_, ?_⟩, ⟨?_, ?_⟩⟩, ?_⟩ <;> dsimp only at * <;> (first | omega | (have := h9 a ha; omega))
theorem late_fit {d : Int} (hd : 0 ≤ d) (hd2 : d ≤ 255) {l : List OpP} (hs : ∀ o ∈ l, o.small) : ∀ i, i < (l.map (lateOp d)).length → (opAt (l.map (lateOp d)) i).fits ∧ (opAt (l.map (lateOp d)) i).L.length ≤ 65000 := by
  intro i hi
  rw [List.length_map] at hi
  rw [late_at hi]
  refine late_small hd hd2 (hs _ ?_)
  unfold opAt
  rw [List.getD_eq_getElem?_getD, List.getElem?_eq_getElem hi]
  exact List.getElem_mem hi
theorem order_go {pages : Int} {l : List OpP} {a : List Int} (h : orderM pages l = some a) : (goM pages l [] [] a).isSome = true := by
  unfold orderM at h
  split at h
  · exact (first_fits (pages := pages) (l := l) h).1
  · cases h
end Go.Proofs.YtomheapokfphiaaDoor
