/-
  What LinRow's walk wants: numbers of a history fit; its calls in place, at once; a history with one call twice, in memory.
-/
import Derived.Test.YtomheapokfphiaaDoorLinTwice
namespace Go.Proofs.YtomheapokfphiaaDoor
open Go Go.RowKit Go.Shelf

theorem live_bd (ns : List Nat) : ∀ k, ∀ a ∈ (stAt ns k).1, 0 ≤ a ∧ a ≤ 8192 * (k : Int)
  | 0, a, h => by cases h
  | k + 1, a, h => by
    have ih := live_bd ns k
    have hn := next_le ns k
    simp only [stAt, rowLive] at h
    split at h
    · have := ih a ((keepL_sub _ _).subset h)
      omega
    · split at h
      · have := ih a h
        omega
      · rcases List.mem_append.1 h with h | h
        · have := ih a h
          omega
        · have := List.mem_singleton.1 h
          omega
/-- All its numbers are little. -/
def OpP.tiny (o : OpP) : Prop := 0 ≤ o.kind ∧ o.kind ≤ 2 ∧ 0 ≤ o.size ∧ o.size ≤ 30000 ∧ 0 ≤ o.at_ ∧ o.at_ ≤ 400000 ∧ 0 ≤ o.code ∧ o.code ≤ 7 ∧ (∀ a ∈ o.L, 0 ≤ a ∧ a ≤ 400000) ∧ o.L.length ≤ 40 ∧ 0 ≤ o.b ∧ o.b ≤ 400 ∧ 0 ≤ o.e ∧ o.e ≤ 400
theorem tiny_fits {o : OpP} (h : o.tiny) : o.fits ∧ o.L.length ≤ 65000 := by
  obtain ⟨h1, h2, h3, h4, h5, h6, h7, h8, h9, h10, h11, h12, h13, h14⟩ := h
  refine ⟨⟨⟨?_, ?_⟩, ⟨?_, ?_⟩, ⟨?_, ?_⟩, ⟨?_, ?_⟩, fun a ha => ⟨?_, ?_⟩, ⟨?_, ?_⟩, ⟨?_, ?_⟩⟩, ?_⟩ <;> (first | omega | (have := h9 a ha; omega))
theorem rowN_tiny {ns : List Nat} (hb : ∀ n ∈ ns, n ≤ 255) {k : Nat} (hk : k < ns.length) (h40 : k < 40) : (rowN ns k).tiny := by
  have hn : ns.getD k 0 ≤ 255 := by
    rw [List.getD_eq_getElem?_getD, List.getElem?_eq_getElem hk]
    exact hb _ (List.getElem_mem hk)
  have h1 := live_bd ns k
  have h2 := live_len ns k
  have h3 := next_le ns k
  unfold rowN
  generalize ns.getD k 0 = n at *
  have h4 := keepL_sub n (stAt ns k).1
  have h5 := h4.length_le
  generalize (stAt ns k).1 = live at *
  generalize (stAt ns k).2 = next at *
  unfold rowOp
  split
  · refine ⟨?_, ?_, ?_, ?_, ?_, ?_, ?_, ?_, fun a ha => ?_, ?_, ?_, ?_, ?_, ?_⟩ <;> dsimp only at * <;> (first | omega | (have := h1 a (h4.subset ha); omega))
  · split
    · refine ⟨?_, ?_, ?_, ?_, ?_, ?_, ?_, ?_, (fun a ha => by cases ha), by simp, ?_, ?_, ?_, ?_⟩ <;> dsimp only <;> omega
    · refine ⟨?_, ?_, ?_, ?_, ?_, ?_, ?_, ?_, (fun a ha => by cases ha), by simp, ?_, ?_, ?_, ?_⟩ <;> dsimp only <;> omega
theorem rowM_tiny {ns : List Nat} (hb : ∀ n ∈ ns, n ≤ 255) : ∀ o ∈ rowM ns 40, o.tiny := by
  intro o ho
  obtain ⟨k, hk, rfl⟩ := List.mem_map.1 ho
  have hk := List.mem_range.1 hk
  exact rowN_tiny hb (by omega) (by omega)
theorem once_tiny {o : OpP} (h : o.tiny) : (atOnce o).tiny := by
  obtain ⟨h1, h2, h3, h4, h5, h6, h7, h8, h9, h10, _, _, _, _⟩ := h
  exact ⟨h1, h2, h3, h4, h5, h6, h7, h8, h9, h10, (by decide : (0 : Int) ≤ 0), (by decide : (0 : Int) ≤ 400), (by decide : (0 : Int) ≤ 9), (by decide : (9 : Int) ≤ 400)⟩
theorem op_mem {l : List OpP} {i : Nat} (hi : i < l.length) : opAt l i ∈ l := by
  unfold opAt
  rw [List.getD_eq_getElem?_getD, List.getElem?_eq_getElem hi]
  exact List.getElem_mem hi
theorem tiny_at {l : List OpP} (h : ∀ o ∈ l, o.tiny) : ∀ i, i < l.length → (opAt l i).fits ∧ (opAt l i).L.length ≤ 65000 := fun _ hi => tiny_fits (h _ (op_mem hi))
theorem twice_mem {l : List OpP} {k : Nat} (hk : k < l.length) {o : OpP} (h : o ∈ twiceL l k) : o ∈ l := by
  unfold twiceL at h
  rcases List.mem_append.1 h with h | h
  · rcases List.mem_append.1 h with h | h
    · exact List.mem_of_mem_take h
    · rw [List.mem_singleton.1 h]; exact op_mem hk
  · exact List.mem_of_mem_drop h

/-- The first k at once. -/
def onceTo (l : List OpP) (k : Nat) : List OpP := (l.take k).map atOnce ++ l.drop k
theorem onceTo_len (l : List OpP) (k : Nat) : (onceTo l k).length = l.length := by unfold onceTo; simp; omega
theorem onceTo_get {l : List OpP} {k : Nat} (h : k < l.length) : (onceTo l k)[k]? = some (opAt l k) := by
  unfold onceTo
  rw [List.getElem?_append_right (by simp; omega), List.length_map, List.length_take, Nat.min_eq_left (by omega), Nat.sub_self, List.getElem?_drop, Nat.add_zero]
  exact opAt_get h
theorem onceTo_succ {l : List OpP} {k : Nat} (h : k < l.length) : onceTo l (k + 1) = (onceTo l k).set k (atOnce (opAt l k)) := by
  unfold onceTo
  have e : l.drop k = opAt l k :: l.drop (k + 1) := by
    rw [List.drop_eq_getElem_cons h]
    unfold opAt
    rw [List.getD_eq_getElem?_getD, List.getElem?_eq_getElem h]; rfl
  rw [List.set_append_right _ _ (by simp; omega), List.length_map, List.length_take, Nat.min_eq_left (by omega), Nat.sub_self, e, List.set_cons_zero, List.take_add_one, opAt_get h]
  simp
theorem onceTo_all (l : List OpP) : onceTo l l.length = l.map atOnce := by unfold onceTo; simp
theorem onceTo_none (l : List OpP) : onceTo l 0 = l := by unfold onceTo; simp
theorem flat_set5 : ∀ (l : List OpP) (lvs : List Value) (j : Nat) (o : OpP) (b : Int), lvs.length = l.length → l[j]? = some o → flatOps (l.set j { o with b := b }) lvs = (flatOps l lvs).set (j * 7 + 5) (.int .i64 b)
  | [], _, j, o, b, _, h => by simp at h
  | a :: l, [], j, o, b, h, _ => by simp at h
  | a :: l, x :: lvs, 0, o, b, _, h2 => by
    simp at h2
    subst h2
    simp [flatOps, opRow]
  | a :: l, x :: lvs, j + 1, o, b, h, h2 => by
    rw [List.set_cons_succ, flatOps, flatOps, List.set_append_right _ _ (by rw [opRow_len]; omega), opRow_len, show (j + 1) * 7 + 5 - 7 = j * 7 + 5 by omega, flat_set5 l lvs j o b (by simpa using h) (by simpa using h2)]
theorem OpsOwn.put5 {base g cap : Nat} {w : World} {l : List OpP} (h : OpsOwn base w (.slice (some ⟨g, 0, none⟩) l.length cap) l) {j : Nat} {o : OpP} (hj : l[j]? = some o) (b : Int) :
    OpsOwn base (w.setCell ⟨g, j * 7 + 5, none⟩ (.int .i64 b)) (.slice (some ⟨g, 0, none⟩) l.length cap) (l.set j { o with b := b }) := by
  obtain ⟨lvs, h1, h2, h3⟩ := h
  have key : ∀ {m : Nat} {v : Value} {xs : List Value}, w.ownsRow base 3 1 v m xs → (w.setCell ⟨g, j * 7 + 5, none⟩ (.int .i64 b)).ownsRow base 3 1 v m xs := fun hv =>
    own_kept hv fun g' hgv => by
      have hne := own_ne hv h2 (by decide) hgv
      exact set_block w (fun e => hne (by rw [← e]; rfl)) _ _
  refine ⟨lvs, by simpa using h1, ?_, fun k x v hk hv => ?_⟩
  · rw [flat_set5 l lvs j o b h1 hj, List.length_set]
    exact ownsRow_put h2 _
  · rw [List.getElem?_set] at hk
    split at hk
    · rename_i ek
      subst ek
      have hjl := (List.getElem?_eq_some_iff.1 hj).1
      simp at hk
      obtain ⟨_, hk⟩ := hk
      subst hk
      exact key (h3 j o v hj hv)
    · exact key (h3 k x v hk hv)

theorem ins_get {α : Type} (xs : List α) (k : Nat) (x : α) (hx : xs[k]? = some x) (j : Nat) : (xs.take (k + 1) ++ [x] ++ xs.drop (k + 1))[j]? = if j ≤ k then xs[j]? else xs[j - 1]? := by
  have hk := (List.getElem?_eq_some_iff.1 hx).1
  have ht : (xs.take (k + 1)).length = k + 1 := by simp; omega
  rw [List.append_assoc]
  split
  · rw [List.getElem?_append_left (by omega), List.getElem?_take_of_lt (by omega)]
  · rw [List.getElem?_append_right (by omega), ht]
    by_cases e : j = k + 1
    · subst e
      rw [Nat.sub_self, Nat.add_sub_cancel, hx]
      rfl
    · rw [List.getElem?_append_right (by simp; omega), List.getElem?_drop]
      congr 1
      simp
      omega
theorem flat_append : ∀ (a : List OpP) (va : List Value) (b : List OpP) (vb : List Value), va.length = a.length → flatOps (a ++ b) (va ++ vb) = flatOps a va ++ flatOps b vb
  | [], [], b, vb, _ => by simp [flatOps]
  | o :: a, v :: va, b, vb, h => by
    have := flat_append a va b vb (by simpa using h)
    simp [flatOps, this]
/-- A history with one call twice, in memory. -/
theorem opsOwn_twice {base bs : Nat} {w : World} {out : Value} {l : List OpP} {lvs : List Value} {k : Nat} {lv : Value} (hb : base ≤ bs) (h1 : lvs.length = l.length) (hk : k < l.length) (hlv : lvs[k]? = some lv)
    (h2 : w.ownsRow bs 50 7 out (l.length + 1) ((flatOps l lvs).take ((k + 1) * 7) ++ opRow (opAt l k) lv ++ (flatOps l lvs).drop ((k + 1) * 7)))
    (h3 : ∀ (j : Nat) (o : OpP) (v : Value), l[j]? = some o → lvs[j]? = some v → w.ownsRow base 3 1 v o.L.length (o.L.map iV)) : OpsOwn base w out (twiceL l k) := by
  have e1 : flatOps l lvs = flatOps (l.take (k + 1)) (lvs.take (k + 1)) ++ flatOps (l.drop (k + 1)) (lvs.drop (k + 1)) := by
    rw [← flat_append _ _ _ _ (by simp [h1]), List.take_append_drop, List.take_append_drop]
  have e2 : (flatOps (l.take (k + 1)) (lvs.take (k + 1))).length = (k + 1) * 7 := by
    rw [flat_len _ _ (by simp [h1]), List.length_take, Nat.min_eq_left (by omega)]
  refine ⟨lvs.take (k + 1) ++ [lv] ++ lvs.drop (k + 1), ?_, ?_, fun j o v hj hv => ?_⟩
  · rw [twice_len hk]
    simp; omega
  · rw [twice_len hk]
    unfold twiceL
    rw [List.append_assoc, List.append_assoc, flat_append _ _ _ _ (by simp [h1]), flat_append [opAt l k] [lv] _ _ rfl]
    rw [e1, List.take_left' e2, List.drop_left' e2, List.append_assoc] at h2
    have e3 : flatOps [opAt l k] [lv] = opRow (opAt l k) lv := by simp [flatOps]
    rw [e3]
    exact own_weaken h2 hb
  · unfold twiceL at hj
    rw [ins_get l k (opAt l k) (opAt_get hk)] at hj
    rw [ins_get lvs k lv hlv] at hv
    split at hj
    · rename_i hjk
      rw [if_pos hjk] at hv
      exact h3 j o v hj hv
    · rename_i hjk
      rw [if_neg hjk] at hv
      exact h3 (j - 1) o v hj hv
theorem flat_one {ld : Option Addr} {n c : Nat} : ∀ (l : List OpP) (lvs : List Value), (∀ v ∈ lvs, v.oneCell' = true) → ∀ u ∈ flatOps l lvs, u.oneCell' = true
  | [], _, _, u, h => by simp [flatOps] at h
  | o :: l, [], _, u, h => by simp [flatOps] at h
  | o :: l, x :: lvs, hv, u, h => by
    rw [flatOps] at h
    rcases List.mem_append.1 h with h | h
    · have hx := hv x (by simp)
      unfold opRow at h
      simp at h
      rcases h with rfl | rfl | rfl | rfl | rfl | rfl | rfl <;> first | exact hx | simp [Value.oneCell']
    · exact flat_one (ld := ld) (n := n) (c := c) l lvs (fun v hv' => hv v (by simp [hv'])) u h
theorem ownOrder_len (n : Nat) : (ownOrder n).length = n := by simp [ownOrder]
theorem ownOrder_succ (n : Nat) : ownOrder (n + 1) = ownOrder n ++ [(n : Int)] := by simp [ownOrder, List.range_succ]
end Go.Proofs.YtomheapokfphiaaDoor
