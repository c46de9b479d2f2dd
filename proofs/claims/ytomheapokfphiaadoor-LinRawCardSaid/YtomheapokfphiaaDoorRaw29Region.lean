/-
  The statement of the document's accepts that adds an address to what lives: it draws its order.
-/
import Derived.Test.YtomheapokfphiaaDoorRawRows2
import Derived.Test.YtomheapokfphiaaDoorRaw29Live
import Derived.Test.YtomheapokfphiaaDoorRawAppendAt
namespace Go.Proofs.YtomheapokfphiaaDoor
open Go Go.RowKit Go.Shelf

def acRows (X1 X2 : List Value) : Rows2 where
  row := fun
    | 0 => some (.tmp 93, [])
    | 2 => some (.tmp 95, X1)
    | 7 => some (.tmp 100, X2)
    | 8 => some (.tmp 101, X1 ++ X2)
    | _ => none
  con := fun
    | 0 => 2
    | 2 => 8
    | 7 => 8
    | _ => 18
  inj := fun j k d xs ys hj hk => by
    split at hj <;> split at hk <;> first | rfl | (cases hj; done) | (cases hk; done) | (cases hj; cases hk; done)
  pre := fun _ => false

def acSpec (bs G : Nat) (sv : Value) (x n : Int) (X1 : List Value) : RSpec2 where
  D := fun
    | 0 => some (some 93, .buildSlice 74 0 #[], [])
    | 1 => some (some 94, .move (.tmp 1), [])
    | 2 => some (some 95, .call { callee := .builtin .append, args := #[.tmp 93, .tmp 94], argTypes := #[74, 74] }, [0, 1])
    | 3 => some (some 96, .fieldAddr 50 (.tmp 5) 2, [])
    | 4 => some (some 97, .load 3 (.tmp 96), [3])
    | 5 => some (some 98, .move (.tmp 11), [])
    | 6 => some (some 99, .build 84 #[(0, .tmp 97), (1, .tmp 98)], [4, 5])
    | 7 => some (some 100, .buildSlice 74 1 #[(0, .tmp 99)], [6])
    | 8 => some (some 101, .call { callee := .builtin .append, args := #[.tmp 95, .tmp 100], argTypes := #[74, 74] }, [2, 7])
    | 9 => some (some 6, .assign (.tmp 101), [8])
    | 10 => some (some 7, .assign (.const (.bool true)), [])
    | _ => none
  triv := fun
    | 1 => some (94, sv)
    | 3 => some (96, .pointer (some ⟨G, 2, none⟩))
    | 4 => some (97, .int .i64 x)
    | 5 => some (98, .int .i64 n)
    | 6 => some (99, .agg #[.int .i64 x, .int .i64 n])
    | 10 => some (7, .bool true)
    | _ => none
  R := acRows X1 [.int .i64 x, .int .i64 n]
  s1 := 18
  s2 := 19
  v1 := 0
  v2 := 0
  A1 := ⟨0, 0, none⟩
  A2 := ⟨0, 0, none⟩
  lo := 6
  hi := 101
  N := 11
  base := bs

theorem lInfo84 : (Tryd.prog.info? 84).map (fun i => (i.zero, i.size, i.bytes)) = some (some (.agg #[.int .i64 0, .int .i64 0]), 2, 16) := by kernel_rfl
theorem run_fieldAt {o : Oper} {a : Act} {w : World} {G : Nat} (hp : o.op = .fieldAddr 50 (.tmp 5) 2) (h : Tm a 5 = .pointer (some ⟨G, 0, none⟩)) : (execOp a.eval o).run Tryd.prog w = .ok (.value (.pointer (some ⟨G, 2, none⟩))) w := by
  have h' := tm_get h
  simp [execOp, hp, h', go_sem]
theorem run_build84 {o : Oper} {a : Act} {w : World} {x n : Int} (hp : o.op = .build 84 #[(0, .tmp 97), (1, .tmp 98)]) (h1 : Tm a 97 = .int .i64 x) (h2 : Tm a 98 = .int .i64 n) : (execOp a.eval o).run Tryd.prog w = .ok (.value (.agg #[.int .i64 x, .int .i64 n])) w := by
  have h1' := tm_get h1
  have h2' := tm_get h2
  simp [execOp, hp, h1', h2', go_sem]
theorem run_lit74 {o : Oper} {a : Act} {w : World} (hp : o.op = .buildSlice 74 0 #[]) : (execOp a.eval o).run Tryd.prog w = .ok (.value (.slice (some ⟨w.heap.size, 0, none⟩) 0 0)) (w.alloc (.cells #[] 84)) := by
  simp [execOp, hp, go_sem]
theorem run_litPair {o : Oper} {a : Act} {w : World} {x n : Int} (hp : o.op = .buildSlice 74 1 #[(0, .tmp 99)]) (h : Tm a 99 = .agg #[.int .i64 x, .int .i64 n]) : (execOp a.eval o).run Tryd.prog w = .ok (.value (.slice (some ⟨w.heap.size, 0, none⟩) 1 1)) (w.alloc (.cells #[.int .i64 x, .int .i64 n] 84)) := by
  have h' := tm_get h
  simp [execOp, hp, h', go_sem]
theorem run_assignT {o : Oper} {a : Act} {w : World} (hp : o.op = .assign (.const (.bool true))) : (execOp a.eval o).run Tryd.prog w = .ok (.value (.bool true)) w := by
  simp [execOp, hp, go_sem]
theorem keep6 {l : Array Bool} {a : Act} {i t : Nat} {v : Value} (h : Lst l 9 → Tm a 6 = Tm a 101) (hun : l.getD i true = false) (hi : 9 ≠ i) (ht : 6 ≠ t) (h101 : 101 ≠ t ∨ ¬ Lst l 9) (hsz : t < a.tmps.size) : Lst (l.setIfInBounds i true) 9 → Tm (a.put (some t) v) 6 = Tm (a.put (some t) v) 101 := fun hL => by
  rw [lst_set hun] at hL
  have hL := hL.resolve_right hi
  rw [tm_put hsz, tm_put hsz, if_neg ht, if_neg (h101.resolve_right (fun hn => hn hL))]
  exact h hL

theorem lives_cells {w : World} {A : Addr} {cap : Nat} {s : LiveP} (h : LivesAt w (.slice (some A) s.length cap) s) : ∀ j u, (flatLive s)[j]? = some u → w.cell? (A.add j) = some u := fun j u hu => by
  obtain ⟨ad, cap', hv, hc⟩ := h
  have hj := (List.getElem?_eq_some_iff.1 hu).1
  rw [flatLive_len] at hj
  rcases hc with rfl | ⟨g, rfl, _, hc⟩
  · simp at hj
  · injection hv with h1 _ _
    injection h1 with h1
    subst h1
    obtain ⟨q, hq⟩ : ∃ q, s[j / 2]? = some q := ⟨_, List.getElem?_eq_getElem (by omega)⟩
    have hg := flatLive_get s (j / 2) q hq
    have hcc := hc (j / 2) q hq
    rw [add0]
    rcases (show j = j / 2 * 2 ∨ j = j / 2 * 2 + 1 by omega) with e | e
    · rw [e, hg.1] at hu
      rw [e, hcc.1]
      exact hu
    · rw [e, hg.2] at hu
      rw [e, hcc.2]
      exact hu
theorem run_appendNil0 {o : Oper} {a : Act} {w : World} {c2 : Nat} (hp : o.op = .call { callee := .builtin .append, args := #[.tmp 93, .tmp 94], argTypes := #[74, 74] }) (h1 : Tm a 93 = .slice none 0 0) (h2 : Tm a 94 = .slice none 0 c2) : (execOp a.eval o).run Tryd.prog w = .ok (.value (.slice none 0 0)) w := by
  have h1' := tm_get h1
  have h2' := tm_get h2
  simp [execOp, hp, h1', h2', go_sem]
/-- An empty slice of one's own, with nothing more. -/
theorem run_appendNil {o : Oper} {a : Act} {w : World} {g c c2 : Nat} (hp : o.op = .call { callee := .builtin .append, args := #[.tmp 93, .tmp 94], argTypes := #[74, 74] }) (h1 : Tm a 93 = .slice (some ⟨g, 0, none⟩) 0 c) (h2 : Tm a 94 = .slice none 0 c2) : (execOp a.eval o).run Tryd.prog w = .ok (.value (.slice (some ⟨g, 0, none⟩) 0 c)) w := by
  have h1' := tm_get h1
  have h2' := tm_get h2
  simp [execOp, hp, h1', h2', go_sem]


set_option maxHeartbeats 4000000 in
theorem ac_region {ops : Array Oper} {Q : Exit → Act → World → Prop} {id : Nat} {a0 : Act} {w0 : World} (G : Nat) (s : LiveP) (sv : Value) (x n : Int)
    (hT : (acSpec w0.heap.size G sv x n (flatLive s)).Text ops) (hn : ops.size = 11)
    (t1' : Tm a0 1 = sv) (t5' : Tm a0 5 = .pointer (some ⟨G, 0, none⟩)) (t11' : Tm a0 11 = .int .i64 n) (hs : a0.tmps.size = 148) (hs500 : s.length ≤ 500) (hGs : G < w0.heap.size) (hG : w0.cell? ⟨G, 2, none⟩ = some (.int .i64 x)) (hsv : LivesAt w0 sv s)
    (hQ : ∀ a w, a.defers = a0.defers → a.tmps.size = 148 → (∀ t, (t < 6 ∨ 101 < t) → Tm a t = Tm a0 t) → Below w0.heap.size w0 w → Tm a 7 = .bool true →
      w.ownsRow w0.heap.size 84 2 (Tm a 6) (s.length + 1) (flatLive (s ++ [(x, n)])) → Q .normal a w) :
    (Code.region id ops true).wp Tryd.prog Q a0 w0 := by
  obtain ⟨i0, hi0, hz0, hz1, hz2⟩ := info_parts' lInfo84
  have hX1 := flatLive_len s
  have hone1 := flatLive_one s
  have hX12 : flatLive (s ++ [(x, n)]) = flatLive s ++ [.int .i64 x, .int .i64 n] := by rw [flatLive_app]; rfl
  rw [hX12] at hQ
  have hcel := fun (w : World) (A : Addr) (cap : Nat) (h : LivesAt w (.slice (some A) s.length cap) s) => lives_cells h
  generalize flatLive s = X1 at *
  have hXk : ([Value.int .i64 x, Value.int .i64 n] : List Value).length = 2 := rfl
  refine wp_region_inv (by kernel_rfl) (fun l a w => RInv2 (acSpec w0.heap.size G sv x n X1) a0 w0 l a w ∧ (Lst l 9 → Tm a 6 = Tm a 101) ∧ Tm a 1 = sv ∧ Tm a 5 = .pointer (some ⟨G, 0, none⟩) ∧ (¬ Lst l 5 → Tm a 11 = .int .i64 n)) ?_ ?_ ?_
  · refine ⟨⟨rfl, rfl, by rw [Array.size_replicate]; exact hn, fun _ _ => rfl, fun i _ _ _ _ hL => absurd hL (lst_none _ i), fun i hL => absurd hL (lst_none _ i), fun i _ _ _ hL => absurd hL (lst_none _ i), w0.drew, (Below.refl _ w0).drew, fun _ => rfl, fun hL => absurd hL (lst_none _ _), fun hL => absurd hL (lst_none _ _), ?_⟩, fun hL => absurd hL (lst_none _ _), t1', t5', fun _ => t11'⟩
    have hpre : ∀ j, ¬ (acSpec w0.heap.size G sv x n X1).R.live (Array.replicate ops.size false) j := fun j hl => by
      rcases hl.1 with hp | hp
      · cases hp
      · exact lst_none _ j hp
    exact ⟨fun j d xs hj hl => absurd hl (hpre j), fun j k' d e xs ys hj hk' hne hl hl' => absurd hl (hpre j)⟩
  · intro l a w ⟨h, h9, _, _, _⟩ hr
    have hall := h.all hn hT hr
    obtain ⟨m1, m5⟩ := h.world (fun hh => h.dom 18 hh rfl)
    have v8 : (acSpec w0.heap.size G sv x n X1).R.live l 8 := ⟨.inr (hall 8 (by show 8 < 11; decide)), fun hh => h.dom 18 hh rfl⟩
    refine hQ a w h.defers (h.size.trans hs) h.out m1 (h.tri 10 7 _ rfl (hall 10 (by show 10 < 11; decide))) ?_
    rw [h9 (hall 9 (by show 9 < 11; decide))]
    have := m5.own 8 _ _ rfl v8
    rw [show (X1 ++ [Value.int .i64 x, Value.int .i64 n]).length / 2 = s.length + 1 by rw [List.length_append, hX1, hXk]; omega] at this
    exact this
  intro l a w i o ⟨h, h9, t1, t5, ht11⟩ ho hun hall
  obtain ⟨d, p, ds, hD, hd, hp, hg', hdeps', _⟩ := hT i o ho
  have hdeps := deps_of hdeps'
  have hpre : ∀ j ∈ ds, Lst l j := fun j hj => by
    obtain ⟨e, he, hb, rfl⟩ := hdeps j hj
    exact hall e he hb
  refine wpOp_plain ho hg' ?_
  have hi : i < 11 := by have := (Array.getElem?_eq_some_iff.1 ho).1; omega
  have hns1 : ¬ Lst l 18 := fun hh => h.dom 18 hh rfl
  have hns2 : ¬ Lst l 19 := fun hh => h.dom 19 hh rfl
  obtain ⟨hw, hrows⟩ := h.world hns1
  have hbw := hw.size
  have has : a.tmps.size = 148 := h.size.trans hs
  clear hall hdeps hdeps' ho hT hQ hn
  rcases (show i = 0 ∨ i = 1 ∨ i = 2 ∨ i = 3 ∨ i = 4 ∨ i = 5 ∨ i = 6 ∨ i = 7 ∨ i = 8 ∨ i = 9 ∨ i = 10 by omega) with rfl | rfl | rfl | rfl | rfl | rfl | rfl | rfl | rfl | rfl | rfl
  · cases hD
    refine op_ofW hd (run_lit74 hp) ⟨?_, keep6 h9 hun (nne rfl) (nne rfl) (.inl (nne rfl)) (by omega), (by rw [tm_put (by omega), if_neg (nne rfl)]; exact t1), (by rw [tm_put (by omega), if_neg (nne rfl)]; exact t5), fun hh => by rw [tm_put (by omega), if_neg (nne rfl)]; exact ht11 (fun h5 => hh ((lst_set hun).2 (.inl h5)))⟩
    refine h.make hun rfl hpre hns1 hns2 ⟨nle rfl, nle rfl⟩ (by omega) (fun k c' hk => by simp only [acSpec] at hk; split at hk <;> (cases hk; done)) rfl rfl (fun j hj => by cases hj) (fun hh => lst_not hun (h.clo 2 _ _ _ rfl hh 0 (by simp))) (nne rfl) (nne rfl) (nne rfl) (hw.alloc hbw _) ?_ (fun g hg _ => Below.heap_alloc w _ g hg) (fun g hg => .inl (by cases hg; exact Nat.le_refl _))
    exact World.ownsRow_lit w #[] 0 hbw (by decide) (show (#[] : Array Value).size = 0 * 2 from rfl)
  · cases hD
    exact op_of hd (run_move hp t1) ⟨h.plain hun rfl hpre rfl ⟨nle rfl, nle rfl⟩ (by omega) (fun k c' hk => by simp only [acSpec] at hk; split at hk <;> first | rfl | (cases hk; done)) rfl (fun j d xs hj => by simp only [acSpec, acRows] at hj ⊢; split at hj <;> first | (cases hj; done) | decide) (fun j xs hj => by simp only [acSpec, acRows] at hj; split at hj <;> (cases hj; done)) (nne rfl) (nne rfl) (nne rfl) (nne rfl), keep6 h9 hun (nne rfl) (nne rfl) (.inl (nne rfl)) (by omega), (by rw [tm_put (by omega), if_neg (nne rfl)]; exact t1), (by rw [tm_put (by omega), if_neg (nne rfl)]; exact t5), fun hh => by rw [tm_put (by omega), if_neg (nne rfl)]; exact ht11 (fun h5 => hh ((lst_set hun).2 (.inl h5)))⟩
  · cases hD
    have la : (acSpec w0.heap.size G sv x n X1).R.live l 0 := ⟨.inr (hpre 0 (by simp)), lst_not hun⟩
    have oa := hrows.own 0 _ _ rfl la
    rw [show ([] : List Value).length / 2 = 0 from rfl] at oa
    obtain ⟨ad, cap, hsvv, hcase⟩ := hsv
    have hsv' : LivesAt w0 sv s := ⟨ad, cap, hsvv, hcase⟩
    cases ad with
    | none =>
      have hs0 : s = [] := by
        rcases hcase with h | ⟨g, h, _⟩
        · exact h
        · cases h
      subst hs0
      have hX0 : X1 = [] := List.length_eq_zero_iff.1 hX1
      subst hX0
      have hr : (execOp a.eval o).run Tryd.prog w = .ok (.value (Tm a 93)) w := by
        have ht := (h.tri 1 94 _ rfl (hpre 1 (by simp))).trans hsvv
        rcases oa.2 with ⟨e, _⟩ | ⟨g, c, cur, e, _⟩
        · have e' : Tm a 93 = .slice none 0 0 := e
          rw [e']
          exact run_appendNil0 hp e' (c2 := cap) (by simpa using ht)
        · have e' : Tm a 93 = .slice (some ⟨g, 0, none⟩) 0 c := e
          rw [e']
          exact run_appendNil hp e' (c2 := cap) (by simpa using ht)
      refine op_of hd hr ⟨?_, keep6 h9 hun (nne rfl) (nne rfl) (.inl (nne rfl)) (by omega), (by rw [tm_put (by omega), if_neg (nne rfl)]; exact t1), (by rw [tm_put (by omega), if_neg (nne rfl)]; exact t5), fun hh => by rw [tm_put (by omega), if_neg (nne rfl)]; exact ht11 (fun h5 => hh ((lst_set hun).2 (.inl h5)))⟩
      exact h.make hun rfl hpre hns1 hns2 ⟨nle rfl, nle rfl⟩ (by omega) (fun k c' hk => by simp only [acSpec] at hk; split at hk <;> (cases hk; done)) rfl rfl (fun j hj => by cases hj) (fun hh => lst_not hun (h.clo 8 _ _ _ rfl hh 2 (by simp))) (nne rfl) (nne rfl) (nne rfl) hw oa (fun _ _ _ => rfl) (fun g hg => .inr ⟨0, _, _, rfl, rfl, la, hg⟩)
    | some A =>
      refine wp_append_at (.tmp 93) (.tmp 94) 74 hp w0.heap.size 84 i0 (.agg #[.int .i64 0, .int .i64 0]) 2 16 Tryd.underlying74 hi0 hz0 hz1 hz2 rfl (by decide) _ _ _ rfl oa A s.length cap X1 ((h.tri 1 94 _ rfl (hpre 1 (by simp))).trans hsvv) hX1 (hcel w A cap (by rw [← hsvv]; exact hsv'.kept (CellsKept.of hw))) hone1 (by unfold maxLen; omega) (by omega) hbw ?_
      intro v' w' hown hgrow hat
      rw [hd]
      refine ⟨?_, keep6 h9 hun (nne rfl) (nne rfl) (.inl (nne rfl)) (by omega), (by rw [tm_put (by omega), if_neg (nne rfl)]; exact t1), (by rw [tm_put (by omega), if_neg (nne rfl)]; exact t5), fun hh => by rw [tm_put (by omega), if_neg (nne rfl)]; exact ht11 (fun h5 => hh ((lst_set hun).2 (.inl h5)))⟩
      refine h.make hun rfl hpre hns1 hns2 ⟨nle rfl, nle rfl⟩ (by omega) (fun k c' hk => by simp only [acSpec] at hk; split at hk <;> (cases hk; done)) rfl rfl (fun j hj => by cases hj) (fun hh => lst_not hun (h.clo 8 _ _ _ rfl hh 2 (by simp))) (nne rfl) (nne rfl) (nne rfl) (hw.grown hgrow hbw (own_later oa)) ?_ (fun g'' hg'' hno => hgrow.block g'' hg'' (hno 0 _ _ rfl rfl la).symm) (fun g'' hg'' => ?_)
      · rw [show X1.length / 2 = 0 + s.length by rw [hX1]; omega]; exact hown
      · rcases hat with hat | hat
        · exact .inr ⟨0, _, _, rfl, rfl, la, hat.symm.trans hg''⟩
        · rw [hat] at hg''
          cases hg''
          exact .inl (Nat.le_refl _)
  · cases hD
    exact op_of hd (run_fieldAt hp t5) ⟨h.plain hun rfl hpre rfl ⟨nle rfl, nle rfl⟩ (by omega) (fun k c' hk => by simp only [acSpec] at hk; split at hk <;> first | rfl | (cases hk; done)) rfl (fun j d xs hj => by simp only [acSpec, acRows] at hj ⊢; split at hj <;> first | (cases hj; done) | decide) (fun j xs hj => by simp only [acSpec, acRows] at hj; split at hj <;> (cases hj; done)) (nne rfl) (nne rfl) (nne rfl) (nne rfl), keep6 h9 hun (nne rfl) (nne rfl) (.inl (nne rfl)) (by omega), (by rw [tm_put (by omega), if_neg (nne rfl)]; exact t1), (by rw [tm_put (by omega), if_neg (nne rfl)]; exact t5), fun hh => by rw [tm_put (by omega), if_neg (nne rfl)]; exact ht11 (fun h5 => hh ((lst_set hun).2 (.inl h5)))⟩
  · cases hD
    exact op_of hd (run_load3 hp (h.tri 3 96 _ rfl (hpre 3 (by simp))) ((hw.cell (p := ⟨G, 2, none⟩) hGs).trans hG)) ⟨h.plain hun rfl hpre rfl ⟨nle rfl, nle rfl⟩ (by omega) (fun k c' hk => by simp only [acSpec] at hk; split at hk <;> first | rfl | (cases hk; done)) rfl (fun j d xs hj => by simp only [acSpec, acRows] at hj ⊢; split at hj <;> first | (cases hj; done) | decide) (fun j xs hj => by simp only [acSpec, acRows] at hj; split at hj <;> (cases hj; done)) (nne rfl) (nne rfl) (nne rfl) (nne rfl), keep6 h9 hun (nne rfl) (nne rfl) (.inl (nne rfl)) (by omega), (by rw [tm_put (by omega), if_neg (nne rfl)]; exact t1), (by rw [tm_put (by omega), if_neg (nne rfl)]; exact t5), fun hh => by rw [tm_put (by omega), if_neg (nne rfl)]; exact ht11 (fun h5 => hh ((lst_set hun).2 (.inl h5)))⟩
  · cases hD
    exact op_of hd (run_move hp (ht11 (lst_not hun))) ⟨h.plain hun rfl hpre rfl ⟨nle rfl, nle rfl⟩ (by omega) (fun k c' hk => by simp only [acSpec] at hk; split at hk <;> first | rfl | (cases hk; done)) rfl (fun j d xs hj => by simp only [acSpec, acRows] at hj ⊢; split at hj <;> first | (cases hj; done) | decide) (fun j xs hj => by simp only [acSpec, acRows] at hj; split at hj <;> (cases hj; done)) (nne rfl) (nne rfl) (nne rfl) (nne rfl), keep6 h9 hun (nne rfl) (nne rfl) (.inl (nne rfl)) (by omega), (by rw [tm_put (by omega), if_neg (nne rfl)]; exact t1), (by rw [tm_put (by omega), if_neg (nne rfl)]; exact t5), fun hh => by rw [tm_put (by omega), if_neg (nne rfl)]; exact ht11 (fun h5 => hh ((lst_set hun).2 (.inl h5)))⟩
  · cases hD
    exact op_of hd (run_build84 hp (h.tri 4 97 _ rfl (hpre 4 (by simp))) (h.tri 5 98 _ rfl (hpre 5 (by simp)))) ⟨h.plain hun rfl hpre rfl ⟨nle rfl, nle rfl⟩ (by omega) (fun k c' hk => by simp only [acSpec] at hk; split at hk <;> first | rfl | (cases hk; done)) rfl (fun j d xs hj => by simp only [acSpec, acRows] at hj ⊢; split at hj <;> first | (cases hj; done) | decide) (fun j xs hj => by simp only [acSpec, acRows] at hj; split at hj <;> (cases hj; done)) (nne rfl) (nne rfl) (nne rfl) (nne rfl), keep6 h9 hun (nne rfl) (nne rfl) (.inl (nne rfl)) (by omega), (by rw [tm_put (by omega), if_neg (nne rfl)]; exact t1), (by rw [tm_put (by omega), if_neg (nne rfl)]; exact t5), fun hh => by rw [tm_put (by omega), if_neg (nne rfl)]; exact ht11 (fun h5 => hh ((lst_set hun).2 (.inl h5)))⟩
  · cases hD
    refine op_ofW hd (run_litPair hp (h.tri 6 99 _ rfl (hpre 6 (by simp)))) ⟨?_, keep6 h9 hun (nne rfl) (nne rfl) (.inl (nne rfl)) (by omega), (by rw [tm_put (by omega), if_neg (nne rfl)]; exact t1), (by rw [tm_put (by omega), if_neg (nne rfl)]; exact t5), fun hh => by rw [tm_put (by omega), if_neg (nne rfl)]; exact ht11 (fun h5 => hh ((lst_set hun).2 (.inl h5)))⟩
    refine h.make hun rfl hpre hns1 hns2 ⟨nle rfl, nle rfl⟩ (by omega) (fun k c' hk => by simp only [acSpec] at hk; split at hk <;> (cases hk; done)) rfl rfl (fun j hj => by cases hj) (fun hh => lst_not hun (h.clo 8 _ _ _ rfl hh 7 (by simp))) (nne rfl) (nne rfl) (nne rfl) (hw.alloc hbw _) ?_ (fun g hg _ => Below.heap_alloc w _ g hg) (fun g hg => .inl (by cases hg; exact Nat.le_refl _))
    rw [show ([Value.int .i64 x, Value.int .i64 n] : List Value).length / 2 = 1 by rw [hXk]]
    exact World.ownsRow_lit w #[.int .i64 x, .int .i64 n] 1 hbw (by decide) (show (#[.int .i64 x, .int .i64 n] : Array Value).size = 1 * 2 from rfl)
  · cases hD
    have la : (acSpec w0.heap.size G sv x n X1).R.live l 2 := ⟨.inr (hpre 2 (by simp)), lst_not hun⟩
    have lb : (acSpec w0.heap.size G sv x n X1).R.live l 7 := ⟨.inr (hpre 7 (by simp)), lst_not hun⟩
    have oa := hrows.own 2 _ _ rfl la
    have ob := hrows.own 7 _ _ rfl lb
    have e1 : ([Value.int .i64 x, Value.int .i64 n] : List Value).length / 2 = 1 := by rw [hXk]
    rw [e1] at ob
    obtain ⟨gb, cb, eb, _, _⟩ := ob.form (by decide)
    have ob' := ob
    rw [eb] at ob'
    refine wp_append_at (.tmp 95) (.tmp 100) 74 hp w0.heap.size 84 i0 (.agg #[.int .i64 0, .int .i64 0]) 2 16 Tryd.underlying74 hi0 hz0 hz1 hz2 rfl (by decide) _ _ _ rfl oa ⟨gb, 0, none⟩ 1 cb [.int .i64 x, .int .i64 n] eb rfl (World.ownsRow.cells ob' (g := gb) rfl) (by simp [Value.oneCell']) (by unfold maxLen; rw [hX1]; omega) (by rw [hX1]; omega) hbw ?_
    intro v' w' hown hgrow hat
    rw [hd]
    refine ⟨?_, keep6 h9 hun (nne rfl) (nne rfl) (.inr (fun hh => lst_not hun (h.clo 9 _ _ _ rfl hh 8 (by simp)))) (by omega), (by rw [tm_put (by omega), if_neg (nne rfl)]; exact t1), (by rw [tm_put (by omega), if_neg (nne rfl)]; exact t5), fun hh => by rw [tm_put (by omega), if_neg (nne rfl)]; exact ht11 (fun h5 => hh ((lst_set hun).2 (.inl h5)))⟩
    refine h.make hun rfl hpre hns1 hns2 ⟨nle rfl, nle rfl⟩ (by omega) (fun k c' hk => by simp only [acSpec] at hk; split at hk <;> (cases hk; done)) rfl rfl (fun j hj => by cases hj) (fun hh => h.dom 18 hh rfl) (nne rfl) (nne rfl) (nne rfl) (hw.grown hgrow hbw (own_later oa)) ?_ (fun g'' hg'' hno => hgrow.block g'' hg'' (hno 2 _ _ rfl rfl la).symm) (fun g'' hg'' => ?_)
    · rw [show (X1 ++ [Value.int .i64 x, Value.int .i64 n]).length / 2 = X1.length / 2 + 1 by rw [List.length_append, hX1, hXk]; omega]; exact hown
    · rcases hat with hat | hat
      · exact .inr ⟨2, _, _, rfl, rfl, la, hat.symm.trans hg''⟩
      · rw [hat] at hg''
        cases hg''
        exact .inl (Nat.le_refl _)
  · cases hD
    refine op_of hd (run_assign hp rfl) ⟨h.free hun rfl hpre rfl ⟨nle rfl, nle rfl⟩ (by omega) (fun k c' hk => by simp only [acSpec] at hk; split at hk <;> (cases hk; done)) rfl (fun j d xs hj => by simp only [acSpec, acRows] at hj ⊢; split at hj <;> first | (cases hj; done) | decide) (fun j xs hj => by simp only [acSpec, acRows] at hj; split at hj <;> (cases hj; done)) (nne rfl) (nne rfl) (nne rfl) (nne rfl), fun _ => ?_, (by rw [tm_put (by omega), if_neg (nne rfl)]; exact t1), (by rw [tm_put (by omega), if_neg (nne rfl)]; exact t5), fun hh => by rw [tm_put (by omega), if_neg (nne rfl)]; exact ht11 (fun h5 => hh ((lst_set hun).2 (.inl h5)))⟩
    rw [tm_put (by omega), tm_put (by omega), if_pos rfl, if_neg (by decide)]
  · cases hD
    exact op_of hd (run_assignT hp) ⟨h.plain hun rfl hpre rfl ⟨nle rfl, nle rfl⟩ (by omega) (fun k c' hk => by simp only [acSpec] at hk; split at hk <;> first | rfl | (cases hk; done)) rfl (fun j d xs hj => by simp only [acSpec, acRows] at hj ⊢; split at hj <;> first | (cases hj; done) | decide) (fun j xs hj => by simp only [acSpec, acRows] at hj; split at hj <;> (cases hj; done)) (nne rfl) (nne rfl) (nne rfl) (nne rfl), keep6 h9 hun (nne rfl) (nne rfl) (.inl (nne rfl)) (by omega), (by rw [tm_put (by omega), if_neg (nne rfl)]; exact t1), (by rw [tm_put (by omega), if_neg (nne rfl)]; exact t5), fun hh => by rw [tm_put (by omega), if_neg (nne rfl)]; exact ht11 (fun h5 => hh ((lst_set hun).2 (.inl h5)))⟩
end Go.Proofs.YtomheapokfphiaaDoor
