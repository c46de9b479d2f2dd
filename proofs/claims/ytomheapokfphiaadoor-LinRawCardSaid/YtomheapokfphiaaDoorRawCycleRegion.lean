/-
  The statement of live.cycle that draws its order: two slices have one number more each, and are stored.
-/
import Derived.Test.YtomheapokfphiaaDoorRawAllocRegion
namespace Go.Proofs.YtomheapokfphiaaDoor
open Go Go.RowKit Go.Shelf

def cycRows (c1 c2 : Value) (L1 L2 : List Int) (x y : Int) : Rows where
  row := fun
    | 100 => some (.const c1, L1.map iV)
    | 101 => some (.const c2, L2.map iV)
    | 3 => some (.tmp 45, [iV x])
    | 4 => some (.tmp 46, L1.map iV ++ [iV x])
    | 12 => some (.tmp 54, [iV y])
    | 13 => some (.tmp 55, L2.map iV ++ [iV y])
    | _ => none
  con := fun
    | 100 => 4
    | 101 => 13
    | 3 => 4
    | 12 => 13
    | _ => 18
  inj := fun j k d xs ys hj hk => by
    split at hj <;> split at hk <;> first | rfl | (cases hj; done) | (cases hk; done) | (cases hj; cases hk; done)
  pre := fun
    | 100 => true
    | 101 => true
    | _ => false
def cycSpec (bs B D g gc k : Nat) (c1 c2 nv : Value) (L1 L2 : List Int) (x y : Int) : RSpec where
  D := fun
    | 0 => some (some 42, .fieldAddr 63 (.tmp 6) 1, [])
    | 1 => some (some 43, .load 41 (.tmp 42), [0])
    | 2 => some (some 44, .move (.tmp 8), [])
    | 3 => some (some 45, .buildSlice 41 1 #[(0, .tmp 44)], [2])
    | 4 => some (some 46, .call { callee := .builtin .append, args := #[.tmp 43, .tmp 45], argTypes := #[41, 41] }, [1, 3])
    | 5 => some (some 47, .fieldAddr 63 (.tmp 6) 2, [])
    | 6 => some (some 48, .load 41 (.tmp 47), [5])
    | 7 => some (some 49, .fieldAddr 63 (.tmp 2) 2, [])
    | 8 => some (some 50, .load 41 (.tmp 49), [7])
    | 9 => some (some 51, .move (.tmp 9), [])
    | 10 => some (some 52, .indexAddr 41 (.tmp 50) (.tmp 51), [8, 9])
    | 11 => some (some 53, .load 3 (.tmp 52), [10])
    | 12 => some (some 54, .buildSlice 41 1 #[(0, .tmp 53)], [11])
    | 13 => some (some 55, .call { callee := .builtin .append, args := #[.tmp 48, .tmp 54], argTypes := #[41, 41] }, [6, 12])
    | 14 => some (some 56, .fieldAddr 63 (.tmp 6) 1, [])
    | 15 => some (none, .store 41 (.tmp 56) (.tmp 46), [14, 4, 13])
    | 16 => some (some 57, .fieldAddr 63 (.tmp 6) 2, [])
    | 17 => some (none, .store 41 (.tmp 57) (.tmp 55), [16, 13, 15])
    | _ => none
  triv := fun
    | 0 => some (42, .pointer (some ⟨B, 1, none⟩))
    | 1 => some (43, c1)
    | 2 => some (44, .int .i64 x)
    | 5 => some (47, .pointer (some ⟨B, 2, none⟩))
    | 6 => some (48, c2)
    | 7 => some (49, .pointer (some ⟨D, 2, none⟩))
    | 8 => some (50, nv)
    | 9 => some (51, .int .i64 k)
    | 10 => some (52, .pointer (some ⟨g, gc + k, none⟩))
    | 11 => some (53, .int .i64 y)
    | 14 => some (56, .pointer (some ⟨B, 1, none⟩))
    | 16 => some (57, .pointer (some ⟨B, 2, none⟩))
    | _ => none
  R := cycRows c1 c2 L1 L2 x y
  s1 := 15
  s2 := 17
  v1 := 46
  v2 := 55
  A1 := ⟨B, 1, none⟩
  A2 := ⟨B, 2, none⟩
  lo := 42
  hi := 57
  N := 18
  base := bs

theorem run_fieldAddrT {o : Oper} {a : Act} {w : World} {B j : Nat} (hp : o.op = .fieldAddr 63 (.tmp 6) j) (h : Tm a 6 = .pointer (some ⟨B, 0, none⟩)) (hj : j = 1 ∨ j = 2 := by omega) : (execOp a.eval o).run Tryd.prog w = .ok (.value (.pointer (some ⟨B, j, none⟩))) w := by
  have h' := tm_get h
  rcases hj with rfl | rfl <;> simp [execOp, hp, h', go_sem]
theorem run_index41 {o : Oper} {a : Act} {w : World} {g gc n c k : Nat} (hp : o.op = .indexAddr 41 (.tmp 50) (.tmp 51)) (h : Tm a 50 = .slice (some ⟨g, gc, none⟩) n c) (h2 : Tm a 51 = .int .i64 (k : Nat)) (hk : k < n) : (execOp a.eval o).run Tryd.prog w = .ok (.value (.pointer (some ⟨g, gc + k, none⟩))) w := by
  have h' := tm_get h
  have h2' := tm_get h2
  have hk' : (k : Int) < n := by omega
  simp [execOp, hp, h', h2', go_sem, hk']

theorem cycPre {bs B D g gc k : Nat} {c1 c2 nv : Value} {L1 L2 : List Int} {x y : Int} {a0 a : Act} {w0 w : World} {l : Array Bool} (h : RInv (cycSpec bs B D g gc k c1 c2 nv L1 L2 x y) a0 w0 l a w) (h15 : Lst l 15) : ∀ j, j ≤ 14 → Lst l j := by
  have c := fun i d p ds hD hl j hj => h.clo i d p ds hD hl j hj
  have q14 := c 15 _ _ _ rfl h15 14 (by simp)
  have q4 := c 15 _ _ _ rfl h15 4 (by simp)
  have q13 := c 15 _ _ _ rfl h15 13 (by simp)
  have q6 := c 13 _ _ _ rfl q13 6 (by simp)
  have q12 := c 13 _ _ _ rfl q13 12 (by simp)
  have q11 := c 12 _ _ _ rfl q12 11 (by simp)
  have q10 := c 11 _ _ _ rfl q11 10 (by simp)
  have q8 := c 10 _ _ _ rfl q10 8 (by simp)
  have q9 := c 10 _ _ _ rfl q10 9 (by simp)
  have q7 := c 8 _ _ _ rfl q8 7 (by simp)
  have q5 := c 6 _ _ _ rfl q6 5 (by simp)
  have q1 := c 4 _ _ _ rfl q4 1 (by simp)
  have q3 := c 4 _ _ _ rfl q4 3 (by simp)
  have q0 := c 1 _ _ _ rfl q1 0 (by simp)
  have q2 := c 3 _ _ _ rfl q3 2 (by simp)
  intro j hj
  rcases (show j = 0 ∨ j = 1 ∨ j = 2 ∨ j = 3 ∨ j = 4 ∨ j = 5 ∨ j = 6 ∨ j = 7 ∨ j = 8 ∨ j = 9 ∨ j = 10 ∨ j = 11 ∨ j = 12 ∨ j = 13 ∨ j = 14 by omega) with rfl | rfl | rfl | rfl | rfl | rfl | rfl | rfl | rfl | rfl | rfl | rfl | rfl | rfl | rfl <;> assumption

set_option maxHeartbeats 2000000 in
theorem cyc_region {ops : Array Oper} {Q : Exit → Act → World → Prop} {id : Nat} {a0 : Act} {w0 : World} (bs B D g gc k ncap : Nat) (c1 c2 : Value) (L1 L2 : List Int) (nn : Nat) (x y : Int)
    (hT : (cycSpec bs B D g gc k c1 c2 (.slice (some ⟨g, gc, none⟩) nn ncap) L1 L2 x y).Text ops) (hn : ops.size = 18)
    (t6 : Tm a0 6 = .pointer (some ⟨B, 0, none⟩)) (t2 : Tm a0 2 = .pointer (some ⟨D, 0, none⟩)) (t8 : Tm a0 8 = .int .i64 x) (t9 : Tm a0 9 = .int .i64 (k : Nat)) (hs : a0.tmps.size = 60)
    (k1 : w0.cell? ⟨B, 1, none⟩ = some c1) (k2 : w0.cell? ⟨B, 2, none⟩ = some c2) (kn : w0.cell? ⟨D, 2, none⟩ = some (.slice (some ⟨g, gc, none⟩) nn ncap)) (ky : w0.cell? ⟨g, gc + k, none⟩ = some (.int .i64 y)) (hk : k < nn)
    (hB : B < bs) (hDb : D < bs) (hg : g < bs) (hbs : bs ≤ w0.heap.size)
    (f1 : w0.frozen? ⟨B, 1, none⟩ = false) (f2 : w0.frozen? ⟨B, 2, none⟩ = false)
    (o1 : w0.ownsRow bs 3 1 c1 L1.length (L1.map iV)) (o2 : w0.ownsRow bs 3 1 c2 L2.length (L2.map iV)) (hap : Apart c1 c2) (l1 : L1.length ≤ 65536) (l2 : L2.length ≤ 65536)
    (hQ : ∀ a Wm, a.defers = a0.defers → a.tmps.size = 60 → (∀ t, (t < 42 ∨ 57 < t) → Tm a t = Tm a0 t) → Below bs w0 Wm →
      Wm.ownsRow bs 3 1 (Tm a 46) (L1.length + 1) (L1.map iV ++ [iV x]) → Wm.ownsRow bs 3 1 (Tm a 55) (L2.length + 1) (L2.map iV ++ [iV y]) → Apart (Tm a 46) (Tm a 55) →
      Q .normal a ((Wm.setCell ⟨B, 1, none⟩ (Tm a 46)).setCell ⟨B, 2, none⟩ (Tm a 55))) :
    (Code.region id ops true).wp Tryd.prog Q a0 w0 := by
  obtain ⟨i0, hi0, hz0, hz1, hz2⟩ := info_parts' lInfo3
  obtain ⟨dd, dcap, rfl⟩ := own_slice o1
  obtain ⟨ed, ecap, rfl⟩ := own_slice o2
  refine wp_region_inv (by kernel_rfl) (RInv (cycSpec bs B D g gc k (.slice dd L1.length dcap) (.slice ed L2.length ecap) (.slice (some ⟨g, gc, none⟩) nn ncap) L1 L2 x y) a0 w0) ?_ ?_ ?_
  · refine ⟨rfl, rfl, by rw [Array.size_replicate]; exact hn, fun _ _ => rfl, fun i _ _ _ _ hL => absurd hL (lst_none _ i), fun i hL => absurd hL (lst_none _ i), fun i _ _ _ hL => absurd hL (lst_none _ i), w0.drew, (Below.refl _ w0).drew, fun _ => rfl, fun hL => absurd hL (lst_none _ _), fun hL => absurd hL (lst_none _ _), ?_⟩
    have hpre : ∀ j, (cycSpec bs B D g gc k (.slice dd L1.length dcap) (.slice ed L2.length ecap) (.slice (some ⟨g, gc, none⟩) nn ncap) L1 L2 x y).R.live (Array.replicate ops.size false) j → j = 100 ∨ j = 101 := fun j hl => by
      rcases hl.1 with hp | hp
      · simp only [cycSpec, cycRows] at hp
        split at hp
        · exact .inl rfl
        · exact .inr rfl
        · cases hp
      · exact absurd hp (lst_none _ j)
    refine ⟨fun j d xs hj hl => ?_, fun j k' d e xs ys hj hk' hne hl hl' => ?_⟩
    · rcases hpre j hl with rfl | rfl
      · cases hj
        rw [List.length_map]; exact o1
      · cases hj
        rw [List.length_map]; exact o2
    · rcases hpre j hl with rfl | rfl <;> rcases hpre k' hl' with rfl | rfl
      · exact absurd rfl hne
      · cases hj; cases hk'; exact hap
      · cases hj; cases hk'; exact fun g' h1 h2 => hap g' h2 h1
      · exact absurd rfl hne
  · intro l a w h hr
    have hall := h.all hn hT hr
    obtain ⟨Wm, m1, m2, m3, m4, m5⟩ := h.mem
    rw [m4 (hall 17 (by show 17 < 18; decide))]
    have v4 : (cycSpec bs B D g gc k (.slice dd L1.length dcap) (.slice ed L2.length ecap) (.slice (some ⟨g, gc, none⟩) nn ncap) L1 L2 x y).R.live l 4 := ⟨.inr (hall 4 (by show 4 < 18; decide)), fun hh => h.dom 18 hh rfl⟩
    have v13 : (cycSpec bs B D g gc k (.slice dd L1.length dcap) (.slice ed L2.length ecap) (.slice (some ⟨g, gc, none⟩) nn ncap) L1 L2 x y).R.live l 13 := ⟨.inr (hall 13 (by show 13 < 18; decide)), fun hh => h.dom 18 hh rfl⟩
    refine hQ a Wm h.defers (h.size.trans hs) h.out m1 ?_ ?_ (m5.apart 4 13 _ _ _ _ rfl rfl (by decide) v4 v13)
    · have := m5.own 4 _ _ rfl v4
      rw [show (L1.map iV ++ [iV x]).length = L1.length + 1 by simp] at this
      exact this
    · have := m5.own 13 _ _ rfl v13
      rw [show (L2.map iV ++ [iV y]).length = L2.length + 1 by simp] at this
      exact this
  intro l a w i o h ho hun hall
  obtain ⟨d, p, ds, hD, hd, hp, hg', hdeps', _⟩ := hT i o ho
  have hdeps := deps_of hdeps'
  have hpre : ∀ j ∈ ds, Lst l j := fun j hj => by
    obtain ⟨e, he, hb, rfl⟩ := hdeps j hj
    exact hall e he hb
  refine wpOp_plain ho hg' ?_
  have hi : i < 18 := by have := (Array.getElem?_eq_some_iff.1 ho).1; omega
  clear hall hdeps hdeps' ho hT hQ hn
  rcases (show i = 0 ∨ i = 1 ∨ i = 2 ∨ i = 3 ∨ i = 4 ∨ i = 5 ∨ i = 6 ∨ i = 7 ∨ i = 8 ∨ i = 9 ∨ i = 10 ∨ i = 11 ∨ i = 12 ∨ i = 13 ∨ i = 14 ∨ i = 15 ∨ i = 16 ∨ i = 17 by omega) with rfl | rfl | rfl | rfl | rfl | rfl | rfl | rfl | rfl | rfl | rfl | rfl | rfl | rfl | rfl | rfl | rfl | rfl
  · cases hD
    refine op_of hd (run_fieldAddrT (j := 1) hp ((h.out 6 (.inl (nlt rfl))).trans t6)) (h.plain hun rfl hpre rfl ⟨nle rfl, nle rfl⟩ (by omega) (fun k c' hk => by simp only [cycSpec] at hk; split at hk <;> first | rfl | (cases hk; done)) rfl (fun j d xs hj => by simp only [cycSpec, cycRows] at hj ⊢; split at hj <;> first | (cases hj; done) | decide) (fun j xs hj => by simp only [cycSpec, cycRows] at hj; split at hj <;> (cases hj; done)) (nne rfl) (nne rfl) (nne rfl) (nne rfl))
  · cases hD
    have hw := (h.world (fun hh => lst_not hun (cycPre h hh 1 (by decide)))).1
    refine op_of hd (run_load41 hp (h.tri 0 42 _ rfl (hpre 0 (by simp))) ((hw.cell (p := ⟨B, 1, none⟩) hB).trans k1)) (h.plain hun rfl hpre rfl ⟨nle rfl, nle rfl⟩ (by omega) (fun k c' hk => by simp only [cycSpec] at hk; split at hk <;> first | rfl | (cases hk; done)) rfl (fun j d xs hj => by simp only [cycSpec, cycRows] at hj ⊢; split at hj <;> first | (cases hj; done) | decide) (fun j xs hj => by simp only [cycSpec, cycRows] at hj; split at hj <;> (cases hj; done)) (nne rfl) (nne rfl) (nne rfl) (nne rfl))
  · cases hD
    refine op_of hd (run_move hp ((h.out 8 (.inl (nlt rfl))).trans t8)) (h.plain hun rfl hpre rfl ⟨nle rfl, nle rfl⟩ (by omega) (fun k c' hk => by simp only [cycSpec] at hk; split at hk <;> first | rfl | (cases hk; done)) rfl (fun j d xs hj => by simp only [cycSpec, cycRows] at hj ⊢; split at hj <;> first | (cases hj; done) | decide) (fun j xs hj => by simp only [cycSpec, cycRows] at hj; split at hj <;> (cases hj; done)) (nne rfl) (nne rfl) (nne rfl) (nne rfl))
  · cases hD
    have hns1 : ¬ Lst l 15 := fun hh => lst_not hun (cycPre h hh 3 (by decide))
    have hns2 : ¬ Lst l 17 := fun hh => hns1 (h.clo 17 _ _ _ rfl hh 15 (by simp))
    obtain ⟨hw, hrows⟩ := h.world hns1
    have hbw := Nat.le_trans hbs hw.size
    refine op_ofW hd (run_lit hp (h.tri 2 44 _ rfl (hpre 2 (by simp)))) ?_
    refine h.make hun rfl hpre hns1 hns2 ⟨nle rfl, nle rfl⟩ (by omega) (fun k c' hk => by simp only [cycSpec] at hk; split at hk <;> (cases hk; done)) rfl rfl (fun j hj => by simp only [cycSpec, cycRows] at hj; split at hj <;> first | (cases hj; done) | decide) (fun hh => lst_not hun (h.clo 4 _ _ _ rfl hh 3 (by simp))) (nne rfl) (nne rfl) (nne rfl) (hw.alloc hbw _) ?_ (fun g hg _ => Below.heap_alloc w _ g hg) (fun g hg => .inl (by cases hg; exact Nat.le_refl _))
    exact World.ownsRow_lit w #[_] 1 hbw (by decide) (by simp)
  · cases hD
    have hns1 : ¬ Lst l 15 := fun hh => lst_not hun (cycPre h hh 4 (by decide))
    have hns2 : ¬ Lst l 17 := fun hh => hns1 (h.clo 17 _ _ _ rfl hh 15 (by simp))
    obtain ⟨hw, hrows⟩ := h.world hns1
    have hbw := Nat.le_trans hbs hw.size
    have la : (cycSpec bs B D g gc k (.slice dd L1.length dcap) (.slice ed L2.length ecap) (.slice (some ⟨g, gc, none⟩) nn ncap) L1 L2 x y).R.live l 100 := ⟨.inl rfl, lst_not hun⟩
    have lb : (cycSpec bs B D g gc k (.slice dd L1.length dcap) (.slice ed L2.length ecap) (.slice (some ⟨g, gc, none⟩) nn ncap) L1 L2 x y).R.live l 3 := ⟨.inr (hpre 3 (by simp)), lst_not hun⟩
    have oa := hrows.own 100 _ _ rfl la
    have ob := hrows.own 3 _ _ rfl lb
    obtain ⟨gb, cb, eb, hbl⟩ := own_one ob
    refine wp_append_lies w (.tmp 43) (.tmp 45) 41 hp bs 3 i0 (.int .i64 0) 1 8 Tryd.underlying41 hi0 hz0 hz1 hz2 rfl (by decide) _ _ _ (h.tri 1 43 _ rfl (hpre 1 (by simp))) oa _ 1 cb [iV x] eb rfl hbl (by simp [Value.oneCell', iV]) (by omega) (by unfold maxLen; simp; omega) (by simp; omega) hbw _ rfl ?_
    intro g' cap w' hown hgrow hat hlt
    rw [hd]
    refine h.make hun rfl hpre hns1 hns2 ⟨nle rfl, nle rfl⟩ (by omega) (fun k c' hk => by simp only [cycSpec] at hk; split at hk <;> (cases hk; done)) rfl rfl (fun j hj => by simp only [cycSpec, cycRows] at hj; split at hj <;> first | (cases hj; done) | decide) (fun hh => h.dom 18 hh rfl) (nne rfl) (nne rfl) (nne rfl) (hw.grown hgrow hbw (own_later oa)) (by rw [List.length_append]; exact hown) (fun g'' hg'' hno => hgrow.block g'' hg'' (hno 100 _ _ rfl rfl la).symm) (fun g'' hg'' => ?_)
    cases hg''
    rcases hat with hat | hat
    · exact .inr ⟨100, _, _, rfl, rfl, la, hat⟩
    · exact .inl (Nat.le_of_eq hat.symm)
  · cases hD
    refine op_of hd (run_fieldAddrT (j := 2) hp ((h.out 6 (.inl (nlt rfl))).trans t6)) (h.plain hun rfl hpre rfl ⟨nle rfl, nle rfl⟩ (by omega) (fun k c' hk => by simp only [cycSpec] at hk; split at hk <;> first | rfl | (cases hk; done)) rfl (fun j d xs hj => by simp only [cycSpec, cycRows] at hj ⊢; split at hj <;> first | (cases hj; done) | decide) (fun j xs hj => by simp only [cycSpec, cycRows] at hj; split at hj <;> (cases hj; done)) (nne rfl) (nne rfl) (nne rfl) (nne rfl))
  · cases hD
    have hw := (h.world (fun hh => lst_not hun (cycPre h hh 6 (by decide)))).1
    refine op_of hd (run_load41 hp (h.tri 5 47 _ rfl (hpre 5 (by simp))) ((hw.cell (p := ⟨B, 2, none⟩) hB).trans k2)) (h.plain hun rfl hpre rfl ⟨nle rfl, nle rfl⟩ (by omega) (fun k c' hk => by simp only [cycSpec] at hk; split at hk <;> first | rfl | (cases hk; done)) rfl (fun j d xs hj => by simp only [cycSpec, cycRows] at hj ⊢; split at hj <;> first | (cases hj; done) | decide) (fun j xs hj => by simp only [cycSpec, cycRows] at hj; split at hj <;> (cases hj; done)) (nne rfl) (nne rfl) (nne rfl) (nne rfl))
  · cases hD
    refine op_of hd (run_fieldAddr2 hp ((h.out 2 (.inl (nlt rfl))).trans t2)) (h.plain hun rfl hpre rfl ⟨nle rfl, nle rfl⟩ (by omega) (fun k c' hk => by simp only [cycSpec] at hk; split at hk <;> first | rfl | (cases hk; done)) rfl (fun j d xs hj => by simp only [cycSpec, cycRows] at hj ⊢; split at hj <;> first | (cases hj; done) | decide) (fun j xs hj => by simp only [cycSpec, cycRows] at hj; split at hj <;> (cases hj; done)) (nne rfl) (nne rfl) (nne rfl) (nne rfl))
  · cases hD
    have hw := (h.world (fun hh => lst_not hun (cycPre h hh 8 (by decide)))).1
    refine op_of hd (run_load41 hp (h.tri 7 49 _ rfl (hpre 7 (by simp))) ((hw.cell (p := ⟨D, 2, none⟩) hDb).trans kn)) (h.plain hun rfl hpre rfl ⟨nle rfl, nle rfl⟩ (by omega) (fun k c' hk => by simp only [cycSpec] at hk; split at hk <;> first | rfl | (cases hk; done)) rfl (fun j d xs hj => by simp only [cycSpec, cycRows] at hj ⊢; split at hj <;> first | (cases hj; done) | decide) (fun j xs hj => by simp only [cycSpec, cycRows] at hj; split at hj <;> (cases hj; done)) (nne rfl) (nne rfl) (nne rfl) (nne rfl))
  · cases hD
    refine op_of hd (run_move hp ((h.out 9 (.inl (nlt rfl))).trans t9)) (h.plain hun rfl hpre rfl ⟨nle rfl, nle rfl⟩ (by omega) (fun k c' hk => by simp only [cycSpec] at hk; split at hk <;> first | rfl | (cases hk; done)) rfl (fun j d xs hj => by simp only [cycSpec, cycRows] at hj ⊢; split at hj <;> first | (cases hj; done) | decide) (fun j xs hj => by simp only [cycSpec, cycRows] at hj; split at hj <;> (cases hj; done)) (nne rfl) (nne rfl) (nne rfl) (nne rfl))
  · cases hD
    refine op_of hd (run_index41 hp (h.tri 8 50 _ rfl (hpre 8 (by simp))) (h.tri 9 51 _ rfl (hpre 9 (by simp))) hk) (h.plain hun rfl hpre rfl ⟨nle rfl, nle rfl⟩ (by omega) (fun k c' hk => by simp only [cycSpec] at hk; split at hk <;> first | rfl | (cases hk; done)) rfl (fun j d xs hj => by simp only [cycSpec, cycRows] at hj ⊢; split at hj <;> first | (cases hj; done) | decide) (fun j xs hj => by simp only [cycSpec, cycRows] at hj; split at hj <;> (cases hj; done)) (nne rfl) (nne rfl) (nne rfl) (nne rfl))
  · cases hD
    have hw := (h.world (fun hh => lst_not hun (cycPre h hh 11 (by decide)))).1
    refine op_of hd (run_load3 hp (h.tri 10 52 _ rfl (hpre 10 (by simp))) ((hw.cell (p := ⟨g, gc + k, none⟩) hg).trans ky)) (h.plain hun rfl hpre rfl ⟨nle rfl, nle rfl⟩ (by omega) (fun k c' hk => by simp only [cycSpec] at hk; split at hk <;> first | rfl | (cases hk; done)) rfl (fun j d xs hj => by simp only [cycSpec, cycRows] at hj ⊢; split at hj <;> first | (cases hj; done) | decide) (fun j xs hj => by simp only [cycSpec, cycRows] at hj; split at hj <;> (cases hj; done)) (nne rfl) (nne rfl) (nne rfl) (nne rfl))
  · cases hD
    have hns1 : ¬ Lst l 15 := fun hh => lst_not hun (cycPre h hh 12 (by decide))
    have hns2 : ¬ Lst l 17 := fun hh => hns1 (h.clo 17 _ _ _ rfl hh 15 (by simp))
    obtain ⟨hw, hrows⟩ := h.world hns1
    have hbw := Nat.le_trans hbs hw.size
    refine op_ofW hd (run_lit hp (h.tri 11 53 _ rfl (hpre 11 (by simp)))) ?_
    refine h.make hun rfl hpre hns1 hns2 ⟨nle rfl, nle rfl⟩ (by omega) (fun k c' hk => by simp only [cycSpec] at hk; split at hk <;> (cases hk; done)) rfl rfl (fun j hj => by simp only [cycSpec, cycRows] at hj; split at hj <;> first | (cases hj; done) | decide) (fun hh => lst_not hun (h.clo 13 _ _ _ rfl hh 12 (by simp))) (nne rfl) (nne rfl) (nne rfl) (hw.alloc hbw _) ?_ (fun g hg _ => Below.heap_alloc w _ g hg) (fun g hg => .inl (by cases hg; exact Nat.le_refl _))
    exact World.ownsRow_lit w #[_] 1 hbw (by decide) (by simp)
  · cases hD
    have hns1 : ¬ Lst l 15 := fun hh => lst_not hun (cycPre h hh 13 (by decide))
    have hns2 : ¬ Lst l 17 := fun hh => hns1 (h.clo 17 _ _ _ rfl hh 15 (by simp))
    obtain ⟨hw, hrows⟩ := h.world hns1
    have hbw := Nat.le_trans hbs hw.size
    have la : (cycSpec bs B D g gc k (.slice dd L1.length dcap) (.slice ed L2.length ecap) (.slice (some ⟨g, gc, none⟩) nn ncap) L1 L2 x y).R.live l 101 := ⟨.inl rfl, lst_not hun⟩
    have lb : (cycSpec bs B D g gc k (.slice dd L1.length dcap) (.slice ed L2.length ecap) (.slice (some ⟨g, gc, none⟩) nn ncap) L1 L2 x y).R.live l 12 := ⟨.inr (hpre 12 (by simp)), lst_not hun⟩
    have oa := hrows.own 101 _ _ rfl la
    have ob := hrows.own 12 _ _ rfl lb
    obtain ⟨gb, cb, eb, hbl⟩ := own_one ob
    refine wp_append_lies w (.tmp 48) (.tmp 54) 41 hp bs 3 i0 (.int .i64 0) 1 8 Tryd.underlying41 hi0 hz0 hz1 hz2 rfl (by decide) _ _ _ (h.tri 6 48 _ rfl (hpre 6 (by simp))) oa _ 1 cb [iV y] eb rfl hbl (by simp [Value.oneCell', iV]) (by omega) (by unfold maxLen; simp; omega) (by simp; omega) hbw _ rfl ?_
    intro g' cap w' hown hgrow hat hlt
    rw [hd]
    refine h.make hun rfl hpre hns1 hns2 ⟨nle rfl, nle rfl⟩ (by omega) (fun k c' hk => by simp only [cycSpec] at hk; split at hk <;> (cases hk; done)) rfl rfl (fun j hj => by simp only [cycSpec, cycRows] at hj; split at hj <;> first | (cases hj; done) | decide) (fun hh => h.dom 18 hh rfl) (nne rfl) (nne rfl) (nne rfl) (hw.grown hgrow hbw (own_later oa)) (by rw [List.length_append]; exact hown) (fun g'' hg'' hno => hgrow.block g'' hg'' (hno 101 _ _ rfl rfl la).symm) (fun g'' hg'' => ?_)
    cases hg''
    rcases hat with hat | hat
    · exact .inr ⟨101, _, _, rfl, rfl, la, hat⟩
    · exact .inl (Nat.le_of_eq hat.symm)
  · cases hD
    refine op_of hd (run_fieldAddrT (j := 1) hp ((h.out 6 (.inl (nlt rfl))).trans t6)) (h.plain hun rfl hpre rfl ⟨nle rfl, nle rfl⟩ (by omega) (fun k c' hk => by simp only [cycSpec] at hk; split at hk <;> first | rfl | (cases hk; done)) rfl (fun j d xs hj => by simp only [cycSpec, cycRows] at hj ⊢; split at hj <;> first | (cases hj; done) | decide) (fun j xs hj => by simp only [cycSpec, cycRows] at hj; split at hj <;> (cases hj; done)) (nne rfl) (nne rfl) (nne rfl) (nne rfl))
  · cases hD
    have hns2 : ¬ Lst l 17 := fun hh => lst_not hun (h.clo 17 _ _ _ rfl hh 15 (by simp))
    obtain ⟨hw, hrows⟩ := h.world (lst_not hun)
    have ov := hrows.own 4 _ _ rfl ⟨.inr (hpre 4 (by simp)), fun hh => h.dom 18 hh rfl⟩
    obtain ⟨vd, vc, ev⟩ := own_slice ov
    have ev' : Tm a 46 = _ := ev
    refine run_store41 hp hd (h.tri 14 56 _ rfl (hpre 14 (by simp))) ev' ((hw.cell (p := ⟨B, 1, none⟩) hB).trans k1) ((hw.frozen (p := ⟨B, 1, none⟩) hB).trans f1) ?_
    have := h.store1 hun rfl hpre hns2 (nne rfl) rfl rfl (fun j d xs hj => by simp only [cycSpec, cycRows] at hj ⊢; split at hj <;> first | (cases hj; done) | decide)
    rw [← ev']
    exact this
  · cases hD
    refine op_of hd (run_fieldAddrT (j := 2) hp ((h.out 6 (.inl (nlt rfl))).trans t6)) (h.plain hun rfl hpre rfl ⟨nle rfl, nle rfl⟩ (by omega) (fun k c' hk => by simp only [cycSpec] at hk; split at hk <;> first | rfl | (cases hk; done)) rfl (fun j d xs hj => by simp only [cycSpec, cycRows] at hj ⊢; split at hj <;> first | (cases hj; done) | decide) (fun j xs hj => by simp only [cycSpec, cycRows] at hj; split at hj <;> (cases hj; done)) (nne rfl) (nne rfl) (nne rfl) (nne rfl))
  · cases hD
    have hl15 := hpre 15 (by simp)
    obtain ⟨Wm, m1, m2, m3, m4, m5⟩ := h.mem
    have ew := m3 hl15 (lst_not hun)
    have ov := m5.own 13 _ _ rfl ⟨.inr (hpre 13 (by simp)), fun hh => h.dom 18 hh rfl⟩
    obtain ⟨vd, vc, ev⟩ := own_slice ov
    have ev' : Tm a 55 = _ := ev
    have hcc : w.cell? ⟨B, 2, none⟩ = some (.slice ed L2.length ecap) := by
      rw [ew]
      exact (World.cell?_setCell_other _ _ _ _ (show (⟨B, 1, none⟩ : Addr) ≠ ⟨B, 2, none⟩ by simp)).trans ((m1.cell (p := ⟨B, 2, none⟩) hB).trans k2)
    have hff : w.frozen? ⟨B, 2, none⟩ = false := by
      rw [ew]
      exact (World.frozen?_setCell ..).trans ((m1.frozen (p := ⟨B, 2, none⟩) hB).trans f2)
    refine run_store41 hp hd (h.tri 16 57 _ rfl (hpre 16 (by simp))) ev' hcc hff ?_
    have := h.store2 hun rfl hpre hl15 rfl rfl (fun j d xs hj => by simp only [cycSpec, cycRows] at hj ⊢; split at hj <;> first | (cases hj; done) | decide)
    rw [← ev']
    exact this
end Go.Proofs.YtomheapokfphiaaDoor
