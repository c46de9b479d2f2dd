/-
  The statement of live.alloc that draws its order: two slices are copied, and each has one number more.
-/
import Derived.Test.YtomheapokfphiaaDoorRawStep
namespace Go.Proofs.YtomheapokfphiaaDoor
open Go Go.RowKit Go.Shelf

def allocRows (L1 L2 : List Int) (x n : Int) : Rows where
  row := fun
    | 2 => some (.tmp 74, L1.map iV)
    | 5 => some (.tmp 77, [iV x])
    | 6 => some (.tmp 78, L1.map iV ++ [iV x])
    | 9 => some (.tmp 81, L2.map iV)
    | 11 => some (.tmp 83, [iV n])
    | 12 => some (.tmp 84, L2.map iV ++ [iV n])
    | _ => none
  con := fun
    | 2 => 6
    | 5 => 6
    | 9 => 12
    | 11 => 12
    | _ => 17
  inj := fun j k d xs ys hj hk => by
    split at hj <;> split at hk <;> first | rfl | (cases hj; done) | (cases hk; done) | (cases hj; cases hk; done)
  pre := fun _ => false
def allocSpec (bs B C : Nat) (av nv : Value) (L1 L2 : List Int) (x n : Int) : RSpec where
  D := fun
    | 0 => some (some 72, .fieldAddr 63 (.tmp 2) 1, [])
    | 1 => some (some 73, .load 41 (.tmp 72), [0])
    | 2 => some (some 74, .call { callee := .value (.func 71), args := #[.tmp 73], argTypes := #[41] }, [1])
    | 3 => some (some 75, .fieldAddr 50 (.tmp 3) 2, [])
    | 4 => some (some 76, .load 3 (.tmp 75), [3])
    | 5 => some (some 77, .buildSlice 41 1 #[(0, .tmp 76)], [4])
    | 6 => some (some 78, .call { callee := .builtin .append, args := #[.tmp 74, .tmp 77], argTypes := #[41, 41] }, [2, 5])
    | 7 => some (some 79, .fieldAddr 63 (.tmp 2) 2, [])
    | 8 => some (some 80, .load 41 (.tmp 79), [7])
    | 9 => some (some 81, .call { callee := .value (.func 71), args := #[.tmp 80], argTypes := #[41] }, [8, 6])
    | 10 => some (some 82, .move (.tmp 9), [])
    | 11 => some (some 83, .buildSlice 41 1 #[(0, .tmp 82)], [10])
    | 12 => some (some 84, .call { callee := .builtin .append, args := #[.tmp 81, .tmp 83], argTypes := #[41, 41] }, [9, 11])
    | 13 => some (some 85, .fieldAddr 63 (.tmp 2) 1, [])
    | 14 => some (none, .store 41 (.tmp 85) (.tmp 78), [13, 6, 12])
    | 15 => some (some 86, .fieldAddr 63 (.tmp 2) 2, [])
    | 16 => some (none, .store 41 (.tmp 86) (.tmp 84), [15, 12, 14])
    | _ => none
  triv := fun
    | 0 => some (72, .pointer (some ⟨B, 1, none⟩))
    | 1 => some (73, av)
    | 3 => some (75, .pointer (some ⟨C, 2, none⟩))
    | 4 => some (76, .int .i64 x)
    | 7 => some (79, .pointer (some ⟨B, 2, none⟩))
    | 8 => some (80, nv)
    | 10 => some (82, .int .i64 n)
    | 13 => some (85, .pointer (some ⟨B, 1, none⟩))
    | 15 => some (86, .pointer (some ⟨B, 2, none⟩))
    | _ => none
  R := allocRows L1 L2 x n
  s1 := 14
  s2 := 16
  v1 := 78
  v2 := 84
  A1 := ⟨B, 1, none⟩
  A2 := ⟨B, 2, none⟩
  lo := 72
  hi := 86
  N := 17
  base := bs

theorem op_of {o : Oper} {P : Program} {a : Act} {w : World} {K : Act → World → Prop} {Q : Exit → Act → World → Prop} {d : Option Nat} (hd : o.dst = d) {v : Value} (hr : (execOp a.eval o).run P w = .ok (.value v) w) (h : K (a.put d v) w) : Oper.wp P o a w K Q := by
  unfold Oper.wp
  rw [hr, Oper.upon_value, hd]
  exact h
theorem tm_get {a : Act} {t : Nat} {v : Value} (h : Tm a t = v) : a.tmps[t]?.getD undef = v := by simpa [Tm, Array.getD_eq_getD_getElem?] using h
theorem run_fieldAddr1 {o : Oper} {a : Act} {w : World} {B : Nat} (hp : o.op = .fieldAddr 63 (.tmp 2) 1) (h : Tm a 2 = .pointer (some ⟨B, 0, none⟩)) : (execOp a.eval o).run Tryd.prog w = .ok (.value (.pointer (some ⟨B, 1, none⟩))) w := by
  have h' := tm_get h
  simp [execOp, hp, h', go_sem]
theorem run_load41 {o : Oper} {a : Act} {w : World} {t : Nat} {A : Addr} {ad : Option Addr} {n c : Nat} (hp : o.op = .load 41 (.tmp t)) (h : Tm a t = .pointer (some A)) (hc : w.cell? A = some (.slice ad n c)) : (execOp a.eval o).run Tryd.prog w = .ok (.value (.slice ad n c)) w := by
  have h' := tm_get h
  simp [execOp, hp, h', go_sem, hc]
theorem run_load3 {o : Oper} {a : Act} {w : World} {t : Nat} {A : Addr} {x : Int} (hp : o.op = .load 3 (.tmp t)) (h : Tm a t = .pointer (some A)) (hc : w.cell? A = some (.int .i64 x)) : (execOp a.eval o).run Tryd.prog w = .ok (.value (.int .i64 x)) w := by
  have h' := tm_get h
  simp [execOp, hp, h', go_sem, hc]
theorem run_move {o : Oper} {a : Act} {w : World} {t : Nat} {v : Value} (hp : o.op = .move (.tmp t)) (h : Tm a t = v) : (execOp a.eval o).run Tryd.prog w = .ok (.value v) w := by
  have h' := tm_get h
  simp [execOp, hp, h', go_sem]
theorem run_lit {o : Oper} {a : Act} {w : World} {t : Nat} {x : Int} (hp : o.op = .buildSlice 41 1 #[(0, .tmp t)]) (h : Tm a t = .int .i64 x) : (execOp a.eval o).run Tryd.prog w = .ok (.value (.slice (some ⟨w.heap.size, 0, none⟩) 1 1)) (w.alloc (.cells #[.int .i64 x] 3)) := by
  have h' := tm_get h
  simp [execOp, hp, h', go_sem]
theorem nle {a b : Nat} (h : Nat.ble a b = true) : a ≤ b := Nat.le_of_ble_eq_true h
theorem nlt {a b : Nat} (h : Nat.ble (a + 1) b = true) : a < b := Nat.le_of_ble_eq_true h
theorem nne {a b : Nat} (h : Nat.beq a b = false) : a ≠ b := Nat.ne_of_beq_eq_false h
theorem run_call71 {o : Oper} {a : Act} {w : World} {K : Act → World → Prop} {Q : Exit → Act → World → Prop} {t : Nat} {v : Value} (hp : o.op = .call { callee := .value (.func 71), args := #[.tmp t], argTypes := #[41] }) (h : Tm a t = v)
    (hc : Calls Tryd.prog 71 #[v] w fun e w' => ∃ u, e = .returned u ∧ K (a.put o.dst u) w') : Oper.wp Tryd.prog o a w K Q := by
  have h' := tm_get h
  unfold Oper.wp
  have hr : (execOp a.eval o).run Tryd.prog w = .ok (.enter 71 #[v]) w := by
    simp [execOp, hp, h', go_sem]
  rw [hr, Oper.upon_enter]
  refine hc.mono ?_
  rintro e w' ⟨u, rfl, hK⟩
  exact hK
theorem op_ofW {o : Oper} {P : Program} {a : Act} {w w' : World} {K : Act → World → Prop} {Q : Exit → Act → World → Prop} {d : Option Nat} (hd : o.dst = d) {v : Value} (hr : (execOp a.eval o).run P w = .ok (.value v) w') (h : K (a.put d v) w') : Oper.wp P o a w K Q := by
  unfold Oper.wp
  rw [hr, Oper.upon_value, hd]
  exact h
theorem run_fieldAddr2 {o : Oper} {a : Act} {w : World} {B : Nat} (hp : o.op = .fieldAddr 63 (.tmp 2) 2) (h : Tm a 2 = .pointer (some ⟨B, 0, none⟩)) : (execOp a.eval o).run Tryd.prog w = .ok (.value (.pointer (some ⟨B, 2, none⟩))) w := by
  have h' := tm_get h
  simp [execOp, hp, h', go_sem]
theorem run_fieldAddrO {o : Oper} {a : Act} {w : World} {B : Nat} (hp : o.op = .fieldAddr 50 (.tmp 3) 2) (h : Tm a 3 = .pointer (some ⟨B, 0, none⟩)) : (execOp a.eval o).run Tryd.prog w = .ok (.value (.pointer (some ⟨B, 2, none⟩))) w := by
  have h' := tm_get h
  simp [execOp, hp, h', go_sem]
theorem run_store41 {o : Oper} {a : Act} {w : World} {K : Act → World → Prop} {Q : Exit → Act → World → Prop} {t u : Nat} {A : Addr} {ad : Option Addr} {n c : Nat} {old : Value} (hp : o.op = .store 41 (.tmp t) (.tmp u)) (hd : o.dst = none) (h : Tm a t = .pointer (some A)) (hv : Tm a u = .slice ad n c)
    (hc : w.cell? A = some old) (hf : w.frozen? A = false) (hK : K a (w.setCell A (.slice ad n c))) : Oper.wp Tryd.prog o a w K Q := by
  have h' := tm_get h
  have hv' := tm_get hv
  unfold Oper.wp
  have hr : (execOp a.eval o).run Tryd.prog w = .ok .skip (w.setCell A (.slice ad n c)) := by
    simp [execOp, hp, h', hv', go_sem, hc, hf]
  rw [hr, Oper.upon_skip, hd]
  exact hK
theorem own_weaken {W : World} {n m e size k : Nat} {v : Value} {xs : List Value} (h : W.ownsRow n e size v k xs) (hm : m ≤ n) : W.ownsRow m e size v k xs := by
  obtain ⟨h1, h2⟩ := h
  refine ⟨h1, ?_⟩
  rcases h2 with h2 | ⟨g, cap, cur, hv, hg, r⟩
  · exact .inl h2
  · exact .inr ⟨g, cap, cur, hv, Nat.le_trans hm hg, r⟩
theorem new_below2 {w0 w : World} (h : Below w0.heap.size w0 w) (o : Obj) : Below w0.heap.size w0 (w.alloc o) := h.alloc h.size o
theorem own_later {W : World} {B e size n : Nat} {v : Value} {xs : List Value} (h : W.ownsRow B e size v n xs) : ∀ k, v.ownBlock = some k → B ≤ k := fun _ hk => (own_lt h hk).2
theorem own_slice {W : World} {B e size n : Nat} {v : Value} {xs : List Value} (h : W.ownsRow B e size v n xs) : ∃ ad cap, v = .slice ad n cap := by
  rcases h.2 with ⟨rfl, rfl⟩ | ⟨g, cap, cur, rfl, _⟩
  · exact ⟨_, _, rfl⟩
  · exact ⟨_, _, rfl⟩
theorem own_one {W : World} {B : Nat} {v : Value} {x : Value} (h : W.ownsRow B 3 1 v 1 [x]) : ∃ g cap, v = .slice (some ⟨g, 0, none⟩) 1 cap ∧ ∀ j u, [x][j]? = some u → W.cell? ((⟨g, 0, none⟩ : Addr).add j) = some u := by
  have hh := h
  rcases h.2 with ⟨_, h0⟩ | ⟨g, cap, cur, rfl, _⟩
  · cases h0
  · refine ⟨g, cap, rfl, fun j u hu => ?_⟩
    have hj := (List.getElem?_eq_some_iff.1 hu).1
    rw [add0, World.ownsRow.cellAt hh j (by simpa using hj)]
    exact hu

theorem allocPre {bs B C : Nat} {av nv : Value} {L1 L2 : List Int} {x n : Int} {a0 a : Act} {w0 w : World} {l : Array Bool} (h : RInv (allocSpec bs B C av nv L1 L2 x n) a0 w0 l a w) (h14 : Lst l 14) : ∀ j, j ≤ 13 → Lst l j := by
  have c := fun i d p ds hD hl j hj => h.clo i d p ds hD hl j hj
  have q13 := c 14 _ _ _ rfl h14 13 (by simp)
  have q6 := c 14 _ _ _ rfl h14 6 (by simp)
  have q12 := c 14 _ _ _ rfl h14 12 (by simp)
  have q9 := c 12 _ _ _ rfl q12 9 (by simp)
  have q11 := c 12 _ _ _ rfl q12 11 (by simp)
  have q8 := c 9 _ _ _ rfl q9 8 (by simp)
  have q7 := c 8 _ _ _ rfl q8 7 (by simp)
  have q10 := c 11 _ _ _ rfl q11 10 (by simp)
  have q2 := c 6 _ _ _ rfl q6 2 (by simp)
  have q5 := c 6 _ _ _ rfl q6 5 (by simp)
  have q1 := c 2 _ _ _ rfl q2 1 (by simp)
  have q0 := c 1 _ _ _ rfl q1 0 (by simp)
  have q4 := c 5 _ _ _ rfl q5 4 (by simp)
  have q3 := c 4 _ _ _ rfl q4 3 (by simp)
  intro j hj
  rcases (show j = 0 ∨ j = 1 ∨ j = 2 ∨ j = 3 ∨ j = 4 ∨ j = 5 ∨ j = 6 ∨ j = 7 ∨ j = 8 ∨ j = 9 ∨ j = 10 ∨ j = 11 ∨ j = 12 ∨ j = 13 by omega) with rfl | rfl | rfl | rfl | rfl | rfl | rfl | rfl | rfl | rfl | rfl | rfl | rfl | rfl <;> assumption

set_option maxHeartbeats 2000000 in
theorem alloc_region {ops : Array Oper} {Q : Exit → Act → World → Prop} {id : Nat} {a0 : Act} {w0 : World} (B C : Nat) (av nv : Value) (L1 L2 : List Int) (x n : Int)
    (hT : (allocSpec w0.heap.size B C av nv L1 L2 x n).Text ops) (hn : ops.size = 17)
    (t2 : Tm a0 2 = .pointer (some ⟨B, 0, none⟩)) (t3 : Tm a0 3 = .pointer (some ⟨C, 0, none⟩)) (t9 : Tm a0 9 = .int .i64 n) (hs : a0.tmps.size = 88)
    (c1 : w0.cell? ⟨B, 1, none⟩ = some av) (c2 : w0.cell? ⟨B, 2, none⟩ = some nv) (cx : w0.cell? ⟨C, 2, none⟩ = some (.int .i64 x)) (hB : B < w0.heap.size) (hC : C < w0.heap.size)
    (f1 : w0.frozen? ⟨B, 1, none⟩ = false) (f2 : w0.frozen? ⟨B, 2, none⟩ = false)
    (h1 : IntsAt w0 av L1) (h2 : IntsAt w0 nv L2) (l1 : L1.length ≤ 65536) (l2 : L2.length ≤ 65536)
    (hQ : ∀ a Wm, a.defers = a0.defers → a.tmps.size = 88 → (∀ t, (t < 72 ∨ 86 < t) → Tm a t = Tm a0 t) → Below w0.heap.size w0 Wm →
      Wm.ownsRow w0.heap.size 3 1 (Tm a 78) (L1.length + 1) (L1.map iV ++ [iV x]) → Wm.ownsRow w0.heap.size 3 1 (Tm a 84) (L2.length + 1) (L2.map iV ++ [iV n]) →
      Q .normal a ((Wm.setCell ⟨B, 1, none⟩ (Tm a 78)).setCell ⟨B, 2, none⟩ (Tm a 84))) :
    (Code.region id ops true).wp Tryd.prog Q a0 w0 := by
  obtain ⟨i0, hi0, hz0, hz1, hz2⟩ := info_parts' lInfo3
  obtain ⟨ad, acap, rfl, ha⟩ := h1
  have h1 : IntsAt w0 (.slice ad L1.length acap) L1 := ⟨_, _, rfl, ha⟩
  obtain ⟨nd, ncap, rfl, hb⟩ := h2
  have h2 : IntsAt w0 (.slice nd L2.length ncap) L2 := ⟨_, _, rfl, hb⟩
  refine wp_region_inv (by kernel_rfl) (RInv (allocSpec w0.heap.size B C (.slice ad L1.length acap) (.slice nd L2.length ncap) L1 L2 x n) a0 w0) ?_ ?_ ?_
  · refine ⟨rfl, rfl, by rw [Array.size_replicate]; exact hn, fun _ _ => rfl, fun i _ _ _ _ hL => absurd hL (lst_none _ i), fun i hL => absurd hL (lst_none _ i), fun i _ _ _ hL => absurd hL (lst_none _ i), w0.drew, (Below.refl _ w0).drew, fun _ => rfl, fun hL => absurd hL (lst_none _ _), fun hL => absurd hL (lst_none _ _), ?_⟩
    refine ⟨fun j d xs hj hl => ?_, fun j k d e xs ys hj hk _ hl _ => ?_⟩
    · rcases hl.1 with hp | hp
      · cases hp
      · exact absurd hp (lst_none _ j)
    · rcases hl.1 with hp | hp
      · cases hp
      · exact absurd hp (lst_none _ j)
  · intro l a w h hr
    have hall := h.all hn hT hr
    obtain ⟨Wm, m1, m2, m3, m4, m5⟩ := h.mem
    rw [m4 (hall 16 (by show 16 < 17; decide))]
    refine hQ a Wm h.defers (h.size.trans hs) h.out m1 ?_ ?_
    · have := m5.own 6 _ _ rfl ⟨.inr (hall 6 (by show 6 < 17; decide)), fun hh => h.dom 17 hh rfl⟩
      rw [show (L1.map iV ++ [iV x]).length = L1.length + 1 by simp] at this
      exact this
    · have := m5.own 12 _ _ rfl ⟨.inr (hall 12 (by show 12 < 17; decide)), fun hh => h.dom 17 hh rfl⟩
      rw [show (L2.map iV ++ [iV n]).length = L2.length + 1 by simp] at this
      exact this
  intro l a w i o h ho hun hall
  obtain ⟨d, p, ds, hD, hd, hp, hg, hdeps', _⟩ := hT i o ho
  have hdeps := deps_of hdeps'
  have hpre : ∀ j ∈ ds, Lst l j := fun j hj => by
    obtain ⟨e, he, hb, rfl⟩ := hdeps j hj
    exact hall e he hb
  refine wpOp_plain ho hg ?_
  have hi : i < 17 := by have := (Array.getElem?_eq_some_iff.1 ho).1; omega
  clear hall hdeps hdeps' ho hT hQ hn
  rcases (show i = 0 ∨ i = 1 ∨ i = 2 ∨ i = 3 ∨ i = 4 ∨ i = 5 ∨ i = 6 ∨ i = 7 ∨ i = 8 ∨ i = 9 ∨ i = 10 ∨ i = 11 ∨ i = 12 ∨ i = 13 ∨ i = 14 ∨ i = 15 ∨ i = 16 by omega) with rfl | rfl | rfl | rfl | rfl | rfl | rfl | rfl | rfl | rfl | rfl | rfl | rfl | rfl | rfl | rfl | rfl
  · cases hD
    refine op_of hd (run_fieldAddr1 hp ((h.out 2 (.inl (nlt rfl))).trans t2)) (h.plain hun rfl hpre rfl ⟨nle rfl, nle rfl⟩ (by omega) (fun k c' hk => by simp only [allocSpec] at hk; split at hk <;> first | rfl | (cases hk; done)) rfl (fun j d xs hj => by simp only [allocSpec, allocRows] at hj ⊢; split at hj <;> first | (cases hj; done) | decide) (fun j xs hj => by simp only [allocSpec, allocRows] at hj; split at hj <;> (cases hj; done)) (nne rfl) (nne rfl) (nne rfl) (nne rfl))
  · cases hD
    have hw := (h.world (fun hh => lst_not hun (allocPre h hh 1 (by decide)))).1
    refine op_of hd (run_load41 hp (h.tri 0 72 _ rfl (hpre 0 (by simp))) ((hw.cell (p := ⟨B, 1, none⟩) hB).trans c1)) (h.plain hun rfl hpre rfl ⟨nle rfl, nle rfl⟩ (by omega) (fun k c' hk => by simp only [allocSpec] at hk; split at hk <;> first | rfl | (cases hk; done)) rfl (fun j d xs hj => by simp only [allocSpec, allocRows] at hj ⊢; split at hj <;> first | (cases hj; done) | decide) (fun j xs hj => by simp only [allocSpec, allocRows] at hj; split at hj <;> (cases hj; done)) (nne rfl) (nne rfl) (nne rfl) (nne rfl))
  · cases hD
    have hns1 : ¬ Lst l 14 := fun hh => lst_not hun (allocPre h hh 2 (by decide))
    have hns2 : ¬ Lst l 16 := fun hh => hns1 (h.clo 16 _ _ _ rfl hh 14 (by simp))
    obtain ⟨hw, hrows⟩ := h.world hns1
    refine run_call71 hp (h.tri 1 73 _ rfl (hpre 1 (by simp))) ((clone_any L1 (by omega) _ w (h1.kept (CellsKept.of hw))).mono ?_)
    rintro e w' ⟨⟨u, rfl, ho⟩, hb⟩
    refine ⟨u, rfl, ?_⟩
    rw [hd]
    refine h.make hun rfl hpre hns1 hns2 ⟨nle rfl, nle rfl⟩ (by omega) (fun k c' hk => by simp only [allocSpec] at hk; split at hk <;> (cases hk; done)) rfl rfl (fun j hj => by cases hj) (fun hh => lst_not hun (h.clo 6 _ _ _ rfl hh 2 (by simp))) (nne rfl) (nne rfl) (nne rfl) (hw.trans (hb.mono hw.size)) ?_ (fun g hg _ => hb.block g hg) (fun g hg => .inl (own_lt ho hg).2)
    rw [List.length_map]
    exact own_weaken ho hw.size
  · cases hD
    refine op_of hd (run_fieldAddrO hp ((h.out 3 (.inl (nlt rfl))).trans t3)) (h.plain hun rfl hpre rfl ⟨nle rfl, nle rfl⟩ (by omega) (fun k c' hk => by simp only [allocSpec] at hk; split at hk <;> first | rfl | (cases hk; done)) rfl (fun j d xs hj => by simp only [allocSpec, allocRows] at hj ⊢; split at hj <;> first | (cases hj; done) | decide) (fun j xs hj => by simp only [allocSpec, allocRows] at hj; split at hj <;> (cases hj; done)) (nne rfl) (nne rfl) (nne rfl) (nne rfl))
  · cases hD
    have hw := (h.world (fun hh => lst_not hun (allocPre h hh 4 (by decide)))).1
    refine op_of hd (run_load3 hp (h.tri 3 75 _ rfl (hpre 3 (by simp))) ((hw.cell (p := ⟨C, 2, none⟩) hC).trans cx)) (h.plain hun rfl hpre rfl ⟨nle rfl, nle rfl⟩ (by omega) (fun k c' hk => by simp only [allocSpec] at hk; split at hk <;> first | rfl | (cases hk; done)) rfl (fun j d xs hj => by simp only [allocSpec, allocRows] at hj ⊢; split at hj <;> first | (cases hj; done) | decide) (fun j xs hj => by simp only [allocSpec, allocRows] at hj; split at hj <;> (cases hj; done)) (nne rfl) (nne rfl) (nne rfl) (nne rfl))
  · cases hD
    have hns1 : ¬ Lst l 14 := fun hh => lst_not hun (allocPre h hh 5 (by decide))
    have hns2 : ¬ Lst l 16 := fun hh => hns1 (h.clo 16 _ _ _ rfl hh 14 (by simp))
    obtain ⟨hw, hrows⟩ := h.world hns1
    refine op_ofW hd (run_lit hp (h.tri 4 76 _ rfl (hpre 4 (by simp)))) ?_
    refine h.make hun rfl hpre hns1 hns2 ⟨nle rfl, nle rfl⟩ (by omega) (fun k c' hk => by simp only [allocSpec] at hk; split at hk <;> (cases hk; done)) rfl rfl (fun j hj => by cases hj) (fun hh => lst_not hun (h.clo 6 _ _ _ rfl hh 5 (by simp))) (nne rfl) (nne rfl) (nne rfl) (new_below2 hw _) ?_ (fun g hg _ => Below.heap_alloc w _ g hg) (fun g hg => .inl (by cases hg; exact Nat.le_refl _))
    exact World.ownsRow_lit w #[_] 1 hw.size (by decide) (by simp)
  · cases hD
    have hns1 : ¬ Lst l 14 := fun hh => lst_not hun (allocPre h hh 6 (by decide))
    have hns2 : ¬ Lst l 16 := fun hh => hns1 (h.clo 16 _ _ _ rfl hh 14 (by simp))
    obtain ⟨hw, hrows⟩ := h.world hns1
    have la : (allocSpec w0.heap.size B C (.slice ad L1.length acap) (.slice nd L2.length ncap) L1 L2 x n).R.live l 2 := ⟨.inr (hpre 2 (by simp)), lst_not hun⟩
    have lb : (allocSpec w0.heap.size B C (.slice ad L1.length acap) (.slice nd L2.length ncap) L1 L2 x n).R.live l 5 := ⟨.inr (hpre 5 (by simp)), lst_not hun⟩
    have oa := hrows.own 2 _ _ rfl la
    have ob := hrows.own 5 _ _ rfl lb
    obtain ⟨gb, cb, eb, hbl⟩ := own_one ob
    refine wp_append_lies w (.tmp 74) (.tmp 77) 41 hp w0.heap.size 3 i0 (.int .i64 0) 1 8 Tryd.underlying41 hi0 hz0 hz1 hz2 rfl (by decide) _ _ _ rfl oa _ 1 cb [iV x] eb rfl hbl (by simp [Value.oneCell', iV]) (by omega) (by unfold maxLen; simp; omega) (by simp; omega) hw.size _ rfl ?_
    intro g cap w' hown hgrow hat hlt
    rw [hd]
    refine h.make hun rfl hpre hns1 hns2 ⟨nle rfl, nle rfl⟩ (by omega) (fun k c' hk => by simp only [allocSpec] at hk; split at hk <;> (cases hk; done)) rfl rfl (fun j hj => by cases hj) (fun hh => h.dom 17 hh rfl) (nne rfl) (nne rfl) (nne rfl) (hw.grown hgrow hw.size (own_later oa)) (by rw [List.length_append]; exact hown) (fun g' hg' hno => hgrow.block g' hg' (hno 2 _ _ rfl rfl la).symm) (fun g' hg' => ?_)
    cases hg'
    rcases hat with hat | hat
    · exact .inr ⟨2, _, _, rfl, rfl, la, hat⟩
    · exact .inl (Nat.le_of_eq hat.symm)
  · cases hD
    refine op_of hd (run_fieldAddr2 hp ((h.out 2 (.inl (nlt rfl))).trans t2)) (h.plain hun rfl hpre rfl ⟨nle rfl, nle rfl⟩ (by omega) (fun k c' hk => by simp only [allocSpec] at hk; split at hk <;> first | rfl | (cases hk; done)) rfl (fun j d xs hj => by simp only [allocSpec, allocRows] at hj ⊢; split at hj <;> first | (cases hj; done) | decide) (fun j xs hj => by simp only [allocSpec, allocRows] at hj; split at hj <;> (cases hj; done)) (nne rfl) (nne rfl) (nne rfl) (nne rfl))
  · cases hD
    have hw := (h.world (fun hh => lst_not hun (allocPre h hh 8 (by decide)))).1
    refine op_of hd (run_load41 hp (h.tri 7 79 _ rfl (hpre 7 (by simp))) ((hw.cell (p := ⟨B, 2, none⟩) hB).trans c2)) (h.plain hun rfl hpre rfl ⟨nle rfl, nle rfl⟩ (by omega) (fun k c' hk => by simp only [allocSpec] at hk; split at hk <;> first | rfl | (cases hk; done)) rfl (fun j d xs hj => by simp only [allocSpec, allocRows] at hj ⊢; split at hj <;> first | (cases hj; done) | decide) (fun j xs hj => by simp only [allocSpec, allocRows] at hj; split at hj <;> (cases hj; done)) (nne rfl) (nne rfl) (nne rfl) (nne rfl))
  · cases hD
    have hns1 : ¬ Lst l 14 := fun hh => lst_not hun (allocPre h hh 9 (by decide))
    have hns2 : ¬ Lst l 16 := fun hh => hns1 (h.clo 16 _ _ _ rfl hh 14 (by simp))
    obtain ⟨hw, hrows⟩ := h.world hns1
    refine run_call71 hp (h.tri 8 80 _ rfl (hpre 8 (by simp))) ((clone_any L2 (by omega) _ w (h2.kept (CellsKept.of hw))).mono ?_)
    rintro e w' ⟨⟨u, rfl, ho⟩, hb⟩
    refine ⟨u, rfl, ?_⟩
    rw [hd]
    refine h.make hun rfl hpre hns1 hns2 ⟨nle rfl, nle rfl⟩ (by omega) (fun k c' hk => by simp only [allocSpec] at hk; split at hk <;> (cases hk; done)) rfl rfl (fun j hj => by cases hj) (fun hh => lst_not hun (h.clo 12 _ _ _ rfl hh 9 (by simp))) (nne rfl) (nne rfl) (nne rfl) (hw.trans (hb.mono hw.size)) ?_ (fun g hg _ => hb.block g hg) (fun g hg => .inl (own_lt ho hg).2)
    rw [List.length_map]
    exact own_weaken ho hw.size
  · cases hD
    refine op_of hd (run_move hp ((h.out 9 (.inl (nlt rfl))).trans t9)) (h.plain hun rfl hpre rfl ⟨nle rfl, nle rfl⟩ (by omega) (fun k c' hk => by simp only [allocSpec] at hk; split at hk <;> first | rfl | (cases hk; done)) rfl (fun j d xs hj => by simp only [allocSpec, allocRows] at hj ⊢; split at hj <;> first | (cases hj; done) | decide) (fun j xs hj => by simp only [allocSpec, allocRows] at hj; split at hj <;> (cases hj; done)) (nne rfl) (nne rfl) (nne rfl) (nne rfl))
  · cases hD
    have hns1 : ¬ Lst l 14 := fun hh => lst_not hun (allocPre h hh 11 (by decide))
    have hns2 : ¬ Lst l 16 := fun hh => hns1 (h.clo 16 _ _ _ rfl hh 14 (by simp))
    obtain ⟨hw, hrows⟩ := h.world hns1
    refine op_ofW hd (run_lit hp (h.tri 10 82 _ rfl (hpre 10 (by simp)))) ?_
    refine h.make hun rfl hpre hns1 hns2 ⟨nle rfl, nle rfl⟩ (by omega) (fun k c' hk => by simp only [allocSpec] at hk; split at hk <;> (cases hk; done)) rfl rfl (fun j hj => by cases hj) (fun hh => lst_not hun (h.clo 12 _ _ _ rfl hh 11 (by simp))) (nne rfl) (nne rfl) (nne rfl) (new_below2 hw _) ?_ (fun g hg _ => Below.heap_alloc w _ g hg) (fun g hg => .inl (by cases hg; exact Nat.le_refl _))
    exact World.ownsRow_lit w #[_] 1 hw.size (by decide) (by simp)
  · cases hD
    have hns1 : ¬ Lst l 14 := fun hh => lst_not hun (allocPre h hh 12 (by decide))
    have hns2 : ¬ Lst l 16 := fun hh => hns1 (h.clo 16 _ _ _ rfl hh 14 (by simp))
    obtain ⟨hw, hrows⟩ := h.world hns1
    have la : (allocSpec w0.heap.size B C (.slice ad L1.length acap) (.slice nd L2.length ncap) L1 L2 x n).R.live l 9 := ⟨.inr (hpre 9 (by simp)), lst_not hun⟩
    have lb : (allocSpec w0.heap.size B C (.slice ad L1.length acap) (.slice nd L2.length ncap) L1 L2 x n).R.live l 11 := ⟨.inr (hpre 11 (by simp)), lst_not hun⟩
    have oa := hrows.own 9 _ _ rfl la
    have ob := hrows.own 11 _ _ rfl lb
    obtain ⟨gb, cb, eb, hbl⟩ := own_one ob
    refine wp_append_lies w (.tmp 81) (.tmp 83) 41 hp w0.heap.size 3 i0 (.int .i64 0) 1 8 Tryd.underlying41 hi0 hz0 hz1 hz2 rfl (by decide) _ _ _ rfl oa _ 1 cb [iV n] eb rfl hbl (by simp [Value.oneCell', iV]) (by omega) (by unfold maxLen; simp; omega) (by simp; omega) hw.size _ rfl ?_
    intro g cap w' hown hgrow hat hlt
    rw [hd]
    refine h.make hun rfl hpre hns1 hns2 ⟨nle rfl, nle rfl⟩ (by omega) (fun k c' hk => by simp only [allocSpec] at hk; split at hk <;> (cases hk; done)) rfl rfl (fun j hj => by cases hj) (fun hh => h.dom 17 hh rfl) (nne rfl) (nne rfl) (nne rfl) (hw.grown hgrow hw.size (own_later oa)) (by rw [List.length_append]; exact hown) (fun g' hg' hno => hgrow.block g' hg' (hno 9 _ _ rfl rfl la).symm) (fun g' hg' => ?_)
    cases hg'
    rcases hat with hat | hat
    · exact .inr ⟨9, _, _, rfl, rfl, la, hat⟩
    · exact .inl (Nat.le_of_eq hat.symm)
  · cases hD
    refine op_of hd (run_fieldAddr1 hp ((h.out 2 (.inl (nlt rfl))).trans t2)) (h.plain hun rfl hpre rfl ⟨nle rfl, nle rfl⟩ (by omega) (fun k c' hk => by simp only [allocSpec] at hk; split at hk <;> first | rfl | (cases hk; done)) rfl (fun j d xs hj => by simp only [allocSpec, allocRows] at hj ⊢; split at hj <;> first | (cases hj; done) | decide) (fun j xs hj => by simp only [allocSpec, allocRows] at hj; split at hj <;> (cases hj; done)) (nne rfl) (nne rfl) (nne rfl) (nne rfl))
  · cases hD
    have hns2 : ¬ Lst l 16 := fun hh => lst_not hun (h.clo 16 _ _ _ rfl hh 14 (by simp))
    obtain ⟨hw, hrows⟩ := h.world (lst_not hun)
    have ov := hrows.own 6 _ _ rfl ⟨.inr (hpre 6 (by simp)), fun hh => h.dom 17 hh rfl⟩
    obtain ⟨vd, vc, ev⟩ := own_slice ov
    have ev' : Tm a 78 = _ := ev
    refine run_store41 hp hd (h.tri 13 85 _ rfl (hpre 13 (by simp))) ev' ((hw.cell (p := ⟨B, 1, none⟩) hB).trans c1) ((hw.frozen (p := ⟨B, 1, none⟩) hB).trans f1) ?_
    have := h.store1 hun rfl hpre hns2 (nne rfl) rfl rfl (fun j d xs hj => by simp only [allocSpec, allocRows] at hj ⊢; split at hj <;> first | (cases hj; done) | decide)
    rw [← ev']
    exact this
  · cases hD
    refine op_of hd (run_fieldAddr2 hp ((h.out 2 (.inl (nlt rfl))).trans t2)) (h.plain hun rfl hpre rfl ⟨nle rfl, nle rfl⟩ (by omega) (fun k c' hk => by simp only [allocSpec] at hk; split at hk <;> first | rfl | (cases hk; done)) rfl (fun j d xs hj => by simp only [allocSpec, allocRows] at hj ⊢; split at hj <;> first | (cases hj; done) | decide) (fun j xs hj => by simp only [allocSpec, allocRows] at hj; split at hj <;> (cases hj; done)) (nne rfl) (nne rfl) (nne rfl) (nne rfl))
  · cases hD
    have hl14 := hpre 14 (by simp)
    obtain ⟨Wm, m1, m2, m3, m4, m5⟩ := h.mem
    have ew := m3 hl14 (lst_not hun)
    have ov := m5.own 12 _ _ rfl ⟨.inr (hpre 12 (by simp)), fun hh => h.dom 17 hh rfl⟩
    obtain ⟨vd, vc, ev⟩ := own_slice ov
    have ev' : Tm a 84 = _ := ev
    have hcc : w.cell? ⟨B, 2, none⟩ = some (.slice nd L2.length ncap) := by
      rw [ew]
      exact (World.cell?_setCell_other _ _ _ _ (show (⟨B, 1, none⟩ : Addr) ≠ ⟨B, 2, none⟩ by simp)).trans ((m1.cell (p := ⟨B, 2, none⟩) hB).trans c2)
    have hff : w.frozen? ⟨B, 2, none⟩ = false := by
      rw [ew]
      exact (World.frozen?_setCell ..).trans ((m1.frozen (p := ⟨B, 2, none⟩) hB).trans f2)
    refine run_store41 hp hd (h.tri 15 86 _ rfl (hpre 15 (by simp))) ev' hcc hff ?_
    have := h.store2 hun rfl hpre hl14 rfl rfl (fun j d xs hj => by simp only [allocSpec, allocRows] at hj ⊢; split at hj <;> first | (cases hj; done) | decide)
    rw [← ev']
    exact this
end Go.Proofs.YtomheapokfphiaaDoor
