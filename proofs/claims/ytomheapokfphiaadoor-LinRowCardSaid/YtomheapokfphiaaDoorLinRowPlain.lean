/-
  A history of calls that are accepted, one behind the other: it goes; one slot told twice goes not. No program in sight.
-/
import Derived.Test.YtomheapokfphiaaDoorLinLaws
namespace Go.Proofs.YtomheapokfphiaaDoor

/-- What a cycle keeps. -/
def keepTo (n : Nat) (live : List Int) : Nat → List Int
  | 0 => []
  | k + 1 => keepTo n live k ++ if n >>> (k % 6) &&& 2 = 0 then [live.getD k 0] else []
def keepL (n : Nat) (live : List Int) : List Int := keepTo n live live.length
/-- The call of a number, what lives behind it, which page is next. -/
def rowOp (i n : Nat) (live : List Int) (next : Nat) : OpP :=
  if n % 5 = 0 then ⟨2, 0, 0, 0, keepL n live, ((3 * i : Nat) : Int), ((3 * i + 1 : Nat) : Int)⟩
  else if n % 5 = 1 then ⟨1, ((5000 + n * 10 : Nat) : Int), 0, 3, [], ((3 * i : Nat) : Int), ((3 * i + 1 : Nat) : Int)⟩
  else ⟨1, ((5000 + n * 10 : Nat) : Int), ((8192 * next : Nat) : Int), 0, [], ((3 * i : Nat) : Int), ((3 * i + 1 : Nat) : Int)⟩
def rowLive (n : Nat) (live : List Int) (next : Nat) : List Int := if n % 5 = 0 then keepL n live else if n % 5 = 1 then live else live ++ [((8192 * next : Nat) : Int)]
def rowNext (n next : Nat) : Nat := if n % 5 = 0 then next else if n % 5 = 1 then next else next + 1
/-- Behind k numbers: what lives; which page is next. -/
def stAt (ns : List Nat) : Nat → List Int × Nat
  | 0 => ([], 0)
  | k + 1 => (rowLive (ns.getD k 0) (stAt ns k).1 (stAt ns k).2, rowNext (ns.getD k 0) (stAt ns k).2)
def rowN (ns : List Nat) (k : Nat) : OpP := rowOp k (ns.getD k 0) (stAt ns k).1 (stAt ns k).2
def rowM (ns : List Nat) (most : Nat) : List OpP := (List.range (min ns.length most)).map (rowN ns)
theorem rowM_len (ns : List Nat) (most : Nat) : (rowM ns most).length = min ns.length most := by simp [rowM]
theorem rowM_at {ns : List Nat} {most k : Nat} (h : k < (rowM ns most).length) : opAt (rowM ns most) k = rowN ns k := by
  rw [rowM_len] at h
  unfold opAt rowM
  rw [List.getD_eq_getElem?_getD, List.getElem?_map, List.getElem?_range h]
  rfl
theorem next_le (ns : List Nat) : ∀ k, (stAt ns k).2 ≤ k
  | 0 => Nat.le_refl _
  | k + 1 => by
    have := next_le ns k
    simp only [stAt, rowNext]
    split
    · omega
    · split <;> omega
theorem keepTo_sub (n : Nat) (live : List Int) : ∀ k, k ≤ live.length → (keepTo n live k).Sublist (live.take k)
  | 0, _ => by simp [keepTo]
  | k + 1, h => by
    have ih := keepTo_sub n live k (by omega)
    have e : live.take (k + 1) = live.take k ++ [live.getD k 0] := by
      rw [List.take_add_one, List.getElem?_eq_getElem (show k < live.length by omega), List.getD_eq_getElem?_getD, List.getElem?_eq_getElem (show k < live.length by omega)]
      rfl
    rw [keepTo, e]
    split
    · exact ih.append (List.Sublist.refl _)
    · rw [List.append_nil]
      exact ih.trans (List.sublist_append_left _ _)
theorem keepL_sub (n : Nat) (live : List Int) : (keepL n live).Sublist live := by
  have := keepTo_sub n live live.length (Nat.le_refl _)
  rwa [List.take_length] at this
theorem live_len (ns : List Nat) : ∀ k, (stAt ns k).1.length ≤ k
  | 0 => Nat.le_refl _
  | k + 1 => by
    have ih := live_len ns k
    simp only [stAt, rowLive]
    split
    · have := (keepL_sub (ns.getD k 0) (stAt ns k).1).length_le
      omega
    · split
      · omega
      · simp; omega

/-- What lives in order: the addresses, each a page of its own. -/
structure LiveOk (s : LiveP) (live : List Int) (next : Nat) : Prop where
  at_ : s.map (·.1) = live
  rise : live.Pairwise (· < ·)
  fit : ∀ q ∈ s, 0 ≤ q.1 ∧ q.1 + 8192 ≤ 8192 * (next : Int) ∧ 0 ≤ q.2 ∧ q.2 ≤ 8192
theorem bytes_row {n : Nat} (h : n ≤ 255) : 1 ≤ bytesOf ((5000 + n * 10 : Nat) : Int) ∧ bytesOf ((5000 + n * 10 : Nat) : Int) ≤ 8192 := by
  unfold bytesOf
  repeat (first | rw [if_neg (by omega)] | split)
  all_goals omega
theorem nOf_bd {s : LiveP} (h : ∀ q ∈ s, 0 ≤ q.2 ∧ q.2 ≤ 8192) (a : Int) : 0 ≤ nOf s a ∧ nOf s a ≤ 8192 := by
  unfold nOf
  cases hf : s.find? (fun q => q.1 == a) with
  | none => simp
  | some q => simpa using h q (List.mem_of_find?_eq_some hf)
/-- The call of a number is accepted. -/
theorem row_does {s : LiveP} {live : List Int} {next : Nat} (h : LiveOk s live next) {i n : Nat} (hn : n ≤ 255) (hx : next ≤ 39) :
    ∃ s', doesM 60 s (rowOp i n live next) = some s' ∧ LiveOk s' (rowLive n live next) (rowNext n next) := by
  unfold rowOp rowLive rowNext
  by_cases h0 : n % 5 = 0
  · rw [if_pos h0, if_pos h0, if_pos h0]
    unfold doesM
    rw [if_neg (by simp), if_pos ⟨rfl, rfl⟩]
    have hsub := keepL_sub n live
    generalize keepL n live = L at *
    have hrise : L.Pairwise (· < ·) := h.rise.sublist hsub
    unfold cycleM
    rw [if_pos]
    · refine ⟨_, rfl, ⟨by rw [List.map_map]; exact List.map_id L, hrise, fun q hq => ?_⟩⟩
      obtain ⟨a, ha, rfl⟩ := List.mem_map.1 hq
      have hal := hsub.subset ha
      rw [← h.at_] at hal
      obtain ⟨q0, hq0, rfl⟩ := List.mem_map.1 hal
      have := h.fit q0 hq0
      have hb := nOf_bd (fun q hq => (h.fit q hq).2.2) q0.1
      exact ⟨this.1, this.2.1, hb⟩
    · refine List.all_eq_true.2 fun j hj => ?_
      have hj : j < L.length := List.mem_range.1 hj
      have hm : L.getD j 0 ∈ L := by
        rw [List.getD_eq_getElem?_getD, List.getElem?_eq_getElem hj]
        exact List.getElem_mem hj
      unfold okAt
      rw [Bool.and_eq_true]
      constructor
      · have hal := hsub.subset hm
        rw [← h.at_] at hal
        obtain ⟨q0, hq0, e⟩ := List.mem_map.1 hal
        exact List.any_eq_true.2 ⟨q0, hq0, by simpa using e⟩
      · cases j with
        | zero => rfl
        | succ j =>
          have hlt := List.pairwise_iff_getElem.1 hrise j (j + 1) (by omega) hj (by omega)
          rw [Bool.or_eq_true]
          right
          rw [Nat.add_sub_cancel, List.getD_eq_getElem?_getD, List.getD_eq_getElem?_getD, List.getElem?_eq_getElem hj, List.getElem?_eq_getElem (show j < L.length by omega)]
          simpa using hlt
  · rw [if_neg h0, if_neg h0, if_neg h0]
    by_cases h1 : n % 5 = 1
    · rw [if_pos h1, if_pos h1, if_pos h1]
      unfold doesM
      rw [if_neg (by simp), if_neg (by simp), if_pos (.inl ⟨rfl, rfl⟩)]
      exact ⟨s, rfl, h⟩
    · rw [if_neg h1, if_neg h1, if_neg h1]
      unfold doesM
      rw [if_pos ⟨rfl, rfl⟩]
      obtain ⟨b1, b2⟩ := bytes_row hn
      unfold allocM noneOp
      dsimp only
      generalize bytesOf ((5000 + n * 10 : Nat) : Int) = bb at *
      rw [if_neg, if_pos]
      · refine ⟨_, rfl, ⟨by simp [h.at_], ?_, fun q hq => ?_⟩⟩
        · rw [List.pairwise_append]
          refine ⟨h.rise, List.pairwise_singleton _ _, fun a ha b hb => ?_⟩
          obtain rfl := List.mem_singleton.1 hb
          rw [← h.at_] at ha
          obtain ⟨q0, hq0, rfl⟩ := List.mem_map.1 ha
          have := h.fit q0 hq0
          omega
        · rcases List.mem_append.1 hq with hq | hq
          · have := h.fit q hq
            omega
          · obtain rfl := List.mem_singleton.1 hq
            dsimp only
            omega
      · refine List.all_eq_true.2 fun q hq => ?_
        have := h.fit q hq
        unfold apB
        refine decide_eq_true ?_
        unfold ApP
        omega
      · simp
        omega
theorem row_go {ns : List Nat} (hb : ∀ n ∈ ns, n ≤ 255) {l : List OpP} (hl : l.length ≤ 40) (hls : l.length ≤ ns.length) (hcore : ∀ i s, i < l.length → doesM 60 s (opAt l i) = doesM 60 s (rowN ns i))
    (hah : ∀ i pre, i < l.length → (∀ k ∈ pre, 0 ≤ k ∧ k < (i : Int)) → aheadM l pre i = false) :
    ∀ (m k : Nat) (s : LiveP), k + m = l.length → LiveOk s (stAt ns k).1 (stAt ns k).2 → (goM 60 l ((List.range k).map fun i : Nat => (i : Int)) s ((List.range' k m).map fun i : Nat => (i : Int))).isSome = true
  | 0, _, _, _, _ => rfl
  | m + 1, k, s, hk, hs => by
    have hkl : k < l.length := by omega
    have hpre : ∀ x ∈ (List.range k).map fun i : Nat => (i : Int), 0 ≤ x ∧ x < (k : Int) := fun x hx => by
      obtain ⟨i, hi, rfl⟩ := List.mem_map.1 hx
      have := List.mem_range.1 hi
      omega
    have hn : ns.getD k 0 ≤ 255 := by
      rw [List.getD_eq_getElem?_getD, List.getElem?_eq_getElem (show k < ns.length by omega)]
      exact hb _ (List.getElem_mem _)
    obtain ⟨s', h1, h2⟩ := row_does hs (i := k) hn (by have := next_le ns k; omega)
    rw [List.range'_succ, List.map_cons, goM_of (s' := s') (by omega) (by omega) ?_ ?_ ?_]
    · have ih := row_go hb hl hls hcore hah m (k + 1) s' (by omega) h2
      rw [List.range_succ, List.map_append] at ih
      exact ih
    · rw [List.contains_eq_mem]
      refine decide_eq_false fun hm => ?_
      have := hpre _ hm
      omega
    · rw [Int.toNat_natCast]
      exact hah k _ hkl hpre
    · rw [Int.toNat_natCast, hcore k s hkl]
      exact h1
def ownOrder (n : Nat) : List Int := (List.range n).map fun i : Nat => (i : Int)
theorem own_whole (l : List OpP) : wholeM l (ownOrder l.length) = true := by
  refine List.all_eq_true.2 fun i hi => ?_
  have hi := List.mem_range.1 hi
  have : (ownOrder l.length).contains (i : Int) = true := by
    rw [List.contains_eq_mem]
    exact decide_eq_true (List.mem_map.2 ⟨i, List.mem_range.2 hi, rfl⟩)
  rw [this, Bool.or_true]
theorem row_fits {ns : List Nat} (hb : ∀ n ∈ ns, n ≤ 255) {l : List OpP} (hl : l.length ≤ 40) (hls : l.length ≤ ns.length) (hcore : ∀ i s, i < l.length → doesM 60 s (opAt l i) = doesM 60 s (rowN ns i))
    (hah : ∀ i pre, i < l.length → (∀ k ∈ pre, 0 ≤ k ∧ k < (i : Int)) → aheadM l pre i = false) (hm : mayL l = true) : fitsM 60 l (ownOrder l.length) = true := by
  have hg := row_go hb hl hls hcore hah l.length 0 [] (by omega) ⟨rfl, List.Pairwise.nil, fun q hq => by cases hq⟩
  unfold fitsM
  rw [hm, own_whole]
  have e : (List.range' 0 l.length).map (fun i : Nat => (i : Int)) = ownOrder l.length := by unfold ownOrder; rw [List.range_eq_range']
  rw [e] at hg
  have hg : (goM 60 l [] [] (ownOrder l.length)).isSome = true := hg
  rw [hg]
  decide
theorem rowN_be (ns : List Nat) (k : Nat) : (rowN ns k).b = ((3 * k : Nat) : Int) ∧ (rowN ns k).e = ((3 * k + 1 : Nat) : Int) := by
  unfold rowN rowOp
  split
  · exact ⟨rfl, rfl⟩
  · split <;> exact ⟨rfl, rfl⟩
/-- At once. -/
def atOnce (o : OpP) : OpP := { o with b := 0, e := 9 }
theorem once_at {l : List OpP} {i : Nat} (h : i < l.length) : opAt (l.map atOnce) i = atOnce (opAt l i) := by
  unfold opAt
  simp [List.getD_eq_getElem?_getD, List.getElem?_eq_getElem h]
theorem may_row {l : List OpP} (h : ∀ i, i < l.length → 0 ≤ (opAt l i).b ∧ (opAt l i).b ≤ 2147483648 ∧ (opAt l i).b ≤ (opAt l i).e ∧ (opAt l i).e ≤ 2147483648) : mayL l = true := by
  unfold mayL
  have : l.any badOp = false := by
    refine List.any_eq_false.2 fun o ho => ?_
    obtain ⟨i, hi, rfl⟩ := List.getElem_of_mem ho
    have := h i hi
    have e : opAt l i = l[i] := by unfold opAt; rw [List.getD_eq_getElem?_getD, List.getElem?_eq_getElem hi]; rfl
    rw [e] at this
    unfold badOp
    simp
    omega
  rw [this]; rfl
theorem rowM_may (ns : List Nat) : mayL (rowM ns 40) = true := by
  refine may_row fun i hi => ?_
  rw [rowM_at hi, (rowN_be ns i).1, (rowN_be ns i).2]
  rw [rowM_len] at hi
  omega
theorem rowM_fits {ns : List Nat} (hb : ∀ n ∈ ns, n ≤ 255) : fitsM 60 (rowM ns 40) (ownOrder (rowM ns 40).length) = true := by
  have hlen := rowM_len ns 40
  refine row_fits hb (by omega) (by omega) (fun i s hi => by rw [rowM_at hi]) (fun i pre hi hpre => ?_) (rowM_may ns)
  unfold aheadM
  rw [Bool.and_eq_false_iff]
  right
  refine List.any_eq_false.2 fun k hk => ?_
  obtain ⟨h0, h1⟩ := hpre k hk
  rw [rowM_at hi, rowM_at (show k.toNat < _ by omega), (rowN_be ns i).2, (rowN_be ns k.toNat).1]
  simp
  omega
theorem onceM_fits {ns : List Nat} (hb : ∀ n ∈ ns, n ≤ 255) : fitsM 60 ((rowM ns 40).map atOnce) (ownOrder (rowM ns 40).length) = true := by
  have hlen := rowM_len ns 40
  have hl : ((rowM ns 40).map atOnce).length = (rowM ns 40).length := by simp
  rw [← hl]
  refine row_fits hb (by omega) (by omega) (fun i s hi => by rw [hl] at hi; rw [once_at hi, rowM_at hi]; rfl) (fun i pre hi hpre => ?_) (may_row fun i hi => ?_)
  · rw [hl] at hi
    unfold aheadM
    rw [Bool.and_eq_false_iff]
    right
    refine List.any_eq_false.2 fun k hk => ?_
    obtain ⟨h0, h1⟩ := hpre k hk
    rw [once_at hi, once_at (show k.toNat < _ by omega)]
    simp [atOnce]
  · rw [hl] at hi
    rw [once_at hi]
    simp [atOnce]
/-- One alloc that was accepted, twice: it is accepted once. -/
theorem go_two {pages : Int} {l : List OpP} : ∀ (rest pre : List Int) (s : LiveP), (goM pages l pre s rest).isSome = true → ∀ (a b : List Int) (i j : Int), rest = a ++ i :: j :: b →
    ∃ s1 s2 s3, doesM pages s1 (opAt l i.toNat) = some s2 ∧ doesM pages s2 (opAt l j.toNat) = some s3
  | [], _, _, _, a, b, i, j, e => by cases a <;> cases e
  | x :: rest, pre, s, h, a, b, i, j, e => by
    obtain ⟨_, _, _, _, s', h5, h6⟩ := goM_cons h
    match a, e with
    | [], e =>
      injection e with e1 e2
      subst e1
      subst e2
      obtain ⟨_, _, _, _, s'', h7, _⟩ := goM_cons h6
      exact ⟨s, s', s'', h5, h7⟩
    | y :: a, e =>
      injection e with e1 e2
      exact go_two rest _ s' h6 a b i j e2
theorem twice_not {pages : Int} {s1 s2 s3 : LiveP} {o : OpP} (hk : o.kind = 1) (hc : o.code = 0) (h1 : doesM pages s1 o = some s2) (h2 : doesM pages s2 o = some s3) : False := by
  unfold doesM at h1 h2
  rw [if_pos ⟨hk, hc⟩] at h1 h2
  unfold allocM at h1 h2
  split at h1
  · cases h1
  rename_i hn
  rw [if_neg hn] at h2
  split at h1
  · injection h1 with h1
    subst h1
    split at h2
    · rename_i ha
      have := List.all_eq_true.1 ha (o.at_, bytesOf o.size) (by simp)
      unfold apB at this
      have this := of_decide_eq_true this
      unfold noneOp at hn
      simp at hn
      unfold ApP at this
      omega
    · cases h2
  · cases h1
/-- A history with its call k twice. -/
def twiceL (l : List OpP) (k : Nat) : List OpP := l.take (k + 1) ++ [opAt l k] ++ l.drop (k + 1)
theorem twice_len {l : List OpP} {k : Nat} (h : k < l.length) : (twiceL l k).length = l.length + 1 := by
  unfold twiceL
  simp; omega
theorem twice_at {l : List OpP} {k : Nat} (h : k < l.length) : opAt (twiceL l k) k = opAt l k ∧ opAt (twiceL l k) (k + 1) = opAt l k := by
  have ht : (l.take (k + 1)).length = k + 1 := by simp; omega
  constructor
  · unfold opAt twiceL
    rw [List.getD_eq_getElem?_getD, List.append_assoc, List.getElem?_append_left (by omega), List.getElem?_take_of_lt (by omega), ← List.getD_eq_getElem?_getD]
  · unfold twiceL
    show ((l.take (k + 1) ++ [opAt l k] ++ l.drop (k + 1)).getD (k + 1) noOp) = opAt l k
    rw [List.getD_eq_getElem?_getD, List.append_assoc, List.getElem?_append_right (by omega), ht, Nat.sub_self]
    rfl
theorem twice_fits {l : List OpP} {k : Nat} (h : k < l.length) (hk : (opAt l k).kind = 1) (hc : (opAt l k).code = 0) (pages : Int) : fitsM pages (twiceL l k) (ownOrder (l.length + 1)) = false := by
  cases hf : fitsM pages (twiceL l k) (ownOrder (l.length + 1)) with
  | false => rfl
  | true =>
    exfalso
    unfold fitsM at hf
    simp only [Bool.and_eq_true] at hf
    obtain ⟨⟨_, hg⟩, _⟩ := hf
    have e : ownOrder (l.length + 1) = ownOrder k ++ (k : Int) :: ((k + 1 : Nat) : Int) :: (List.range' (k + 2) (l.length - 1 - k)).map fun i : Nat => (i : Int) := by
      unfold ownOrder
      rw [List.range_eq_range', show l.length + 1 = k + (1 + (1 + (l.length - 1 - k))) by omega, ← List.range'_append_1, ← List.range'_append_1, ← List.range'_append_1, List.range_eq_range']
      simp
    obtain ⟨s1, s2, s3, h1, h2⟩ := go_two _ _ _ hg _ _ _ _ e
    rw [Int.toNat_natCast, (twice_at h).1] at h1
    rw [Int.toNat_natCast, (twice_at h).2] at h2
    exact twice_not hk hc h1 h2
end Go.Proofs.YtomheapokfphiaaDoor
