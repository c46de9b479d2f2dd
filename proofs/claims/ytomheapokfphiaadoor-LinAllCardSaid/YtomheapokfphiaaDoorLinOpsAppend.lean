/-
  The statement of Ops that appends an address to a call's list: it draws its order.
-/
import Derived.Test.YtomheapokfphiaaDoorLinTable
namespace Go.Proofs.YtomheapokfphiaaDoor
open Go Go.RowKit Go.Shelf

def apRows (c1 : Value) (L : List Int) (x : Int) : Rows where
  row := fun
    | 100 => some (.const c1, L.map iV)
    | 14 => some (.tmp 116, [iV x])
    | 15 => some (.tmp 117, L.map iV ++ [iV x])
    | _ => none
  con := fun
    | 100 => 15
    | 14 => 15
    | _ => 18
  inj := fun j k d xs ys hj hk => by
    split at hj <;> split at hk <;> first | rfl | (cases hj; done) | (cases hk; done) | (cases hj; cases hk; done)
  pre := fun
    | 100 => true
    | _ => false

def apSpec (G gn cn n cap i n3 q : Nat) (c1 : Value) (L : List Int) : RSpec where
  D := fun
    | 0 => some (some 102, .fieldAddr 50 (.tmp 7) 4, [])
    | 1 => some (some 103, .load 41 (.tmp 102), [0])
    | 2 => some (some 104, .move (.tmp 0), [])
    | 3 => some (some 105, .move (.tmp 6), [])
    | 4 => some (some 106, .binOp .add 3 (.tmp 105) (.const (.int .i64 3)) 3, [3])
    | 5 => some (some 107, .indexAddr 38 (.tmp 104) (.tmp 106), [2, 4])
    | 6 => some (some 108, .load 5 (.tmp 107), [5])
    | 7 => some (some 109, .convert 5 3 (.tmp 108), [6])
    | 8 => some (some 110, .binOp .rem 3 (.tmp 109) (.const (.int .i64 9)) 3, [7])
    | 9 => some (some 111, .move (.tmp 8), [])
    | 10 => some (some 112, .binOp .mul 3 (.tmp 110) (.tmp 111) 3, [8, 9])
    | 11 => some (some 113, .move (.tmp 8), [])
    | 12 => some (some 114, .binOp .add 3 (.tmp 112) (.tmp 113) 3, [10, 11])
    | 13 => some (some 115, .binOp .mul 3 (.const (.int .i64 128)) (.tmp 114) 3, [12])
    | 14 => some (some 116, .buildSlice 41 1 #[(0, .tmp 115)], [13])
    | 15 => some (some 117, .call { callee := .builtin .append, args := #[.tmp 103, .tmp 116], argTypes := #[41, 41] }, [1, 14])
    | 16 => some (some 118, .fieldAddr 50 (.tmp 7) 4, [])
    | 17 => some (none, .store 41 (.tmp 118) (.tmp 117), [16, 15])
    | _ => none
  triv := fun
    | 0 => some (102, .pointer (some ⟨G, 4, none⟩))
    | 1 => some (103, c1)
    | 2 => some (104, .slice (some ⟨gn, cn, none⟩) n cap)
    | 3 => some (105, .int .i64 (i : Nat))
    | 4 => some (106, .int .i64 ((i + 3 : Nat) : Int))
    | 5 => some (107, .pointer (some ⟨gn, cn + (i + 3), none⟩))
    | 6 => some (108, .int .u8 (n3 : Nat))
    | 7 => some (109, .int .i64 (n3 : Nat))
    | 8 => some (110, .int .i64 ((n3 % 9 : Nat) : Int))
    | 9 => some (111, .int .i64 (q : Nat))
    | 10 => some (112, .int .i64 ((n3 % 9 * q : Nat) : Int))
    | 11 => some (113, .int .i64 (q : Nat))
    | 12 => some (114, .int .i64 ((n3 % 9 * q + q : Nat) : Int))
    | 13 => some (115, .int .i64 (128 * ((n3 % 9 * q + q : Nat) : Int)))
    | 16 => some (118, .pointer (some ⟨G, 4, none⟩))
    | _ => none
  R := apRows c1 L (128 * ((n3 % 9 * q + q : Nat) : Int))
  s1 := 17
  s2 := 18
  v1 := 117
  v2 := 0
  A1 := ⟨G, 4, none⟩
  A2 := ⟨G, 4, none⟩
  lo := 102
  hi := 118
  N := 18
  base := G + 1

theorem apPre {G gn cn n cap i n3 q : Nat} {c1 : Value} {L : List Int} {a0 a : Act} {w0 w : World} {l : Array Bool} (h : RInv (apSpec G gn cn n cap i n3 q c1 L) a0 w0 l a w) (h17 : Lst l 17) : ∀ j, j ≤ 16 → Lst l j := by
  have c := fun i d p ds hD hl j hj => h.clo i d p ds hD hl j hj
  have q16 := c 17 _ _ _ rfl h17 16 (by simp)
  have q15 := c 17 _ _ _ rfl h17 15 (by simp)
  have q1 := c 15 _ _ _ rfl q15 1 (by simp)
  have q14 := c 15 _ _ _ rfl q15 14 (by simp)
  have q0 := c 1 _ _ _ rfl q1 0 (by simp)
  have q13 := c 14 _ _ _ rfl q14 13 (by simp)
  have q12 := c 13 _ _ _ rfl q13 12 (by simp)
  have q10 := c 12 _ _ _ rfl q12 10 (by simp)
  have q11 := c 12 _ _ _ rfl q12 11 (by simp)
  have q8 := c 10 _ _ _ rfl q10 8 (by simp)
  have q9 := c 10 _ _ _ rfl q10 9 (by simp)
  have q7 := c 8 _ _ _ rfl q8 7 (by simp)
  have q6 := c 7 _ _ _ rfl q7 6 (by simp)
  have q5 := c 6 _ _ _ rfl q6 5 (by simp)
  have q2 := c 5 _ _ _ rfl q5 2 (by simp)
  have q4 := c 5 _ _ _ rfl q5 4 (by simp)
  have q3 := c 4 _ _ _ rfl q4 3 (by simp)
  intro j hj
  rcases (show j = 0 ∨ j = 1 ∨ j = 2 ∨ j = 3 ∨ j = 4 ∨ j = 5 ∨ j = 6 ∨ j = 7 ∨ j = 8 ∨ j = 9 ∨ j = 10 ∨ j = 11 ∨ j = 12 ∨ j = 13 ∨ j = 14 ∨ j = 15 ∨ j = 16 by omega) with rfl | rfl | rfl | rfl | rfl | rfl | rfl | rfl | rfl | rfl | rfl | rfl | rfl | rfl | rfl | rfl | rfl <;> assumption

set_option maxHeartbeats 2000000 in
theorem ap_region {ops : Array Oper} {Q : Exit → Act → World → Prop} {id : Nat} {a0 : Act} {w0 : World} (G gn cn n cap i n3 q : Nat) (c1 : Value) (L : List Int)
    (hT : (apSpec G gn cn n cap i n3 q c1 L).Text ops) (hn : ops.size = 18)
    (t0 : Tm a0 0 = .slice (some ⟨gn, cn, none⟩) n cap) (t6 : Tm a0 6 = .int .i64 (i : Nat)) (t7 : Tm a0 7 = .pointer (some ⟨G, 0, none⟩)) (t8 : Tm a0 8 = .int .i64 (q : Nat)) (hs : a0.tmps.size = 135) (hi : i + 5 < n) (hmax : n ≤ 9223372036854775807) (hgn : gn < G) (hG : G < w0.heap.size)
    (k1 : w0.cell? ⟨G, 4, none⟩ = some c1) (f1 : w0.frozen? ⟨G, 4, none⟩ = false) (o1 : w0.ownsRow (G + 1) 3 1 c1 L.length (L.map iV)) (l1 : L.length ≤ 4)
    (c3 : w0.cell? ⟨gn, cn + (i + 3), none⟩ = some (.int .u8 (n3 : Nat))) (b3 : n3 ≤ 255) (hq : q < 4)
    (hQ : ∀ a Wm, a.defers = a0.defers → a.tmps.size = 135 → (∀ t, (t < 102 ∨ 118 < t) → Tm a t = Tm a0 t) → Below (G + 1) w0 Wm →
      Wm.ownsRow (G + 1) 3 1 (Tm a 117) (L.length + 1) (L.map iV ++ [iV (128 * ((n3 % 9 * q + q : Nat) : Int))]) → Q .normal a (Wm.setCell ⟨G, 4, none⟩ (Tm a 117))) :
    (Code.region id ops true).wp Tryd.prog Q a0 w0 := by
  obtain ⟨i0, hi0, hz0, hz1, hz2⟩ := info_parts' lInfo3
  obtain ⟨dd, dcap, rfl⟩ := own_slice o1
  have h9 : n3 % 9 < 9 := Nat.mod_lt _ (by decide)
  have hm8 : n3 % 9 * q ≤ 8 * 3 := Nat.mul_le_mul (by omega) (by omega)
  have hmul : IntKind.i64.wrap (((n3 % 9 : Nat) : Int) * (q : Int)) = ((n3 % 9 * q : Nat) : Int) := by
    rw [← Int.natCast_mul, IntKind.wrap_i64]; omega
  have hadd : IntKind.i64.wrap (((n3 % 9 * q : Nat) : Int) + (q : Int)) = ((n3 % 9 * q + q : Nat) : Int) := by
    rw [← Int.natCast_add, IntKind.wrap_i64]; omega
  have hmulc : IntKind.i64.wrap (128 * ((n3 % 9 * q + q : Nat) : Int)) = 128 * ((n3 % 9 * q + q : Nat) : Int) := by
    rw [IntKind.wrap_i64]; omega
  have hbs : G + 1 ≤ w0.heap.size := hG
  refine wp_region_inv (by kernel_rfl) (RInv (apSpec G gn cn n cap i n3 q (.slice dd L.length dcap) L) a0 w0) ?_ ?_ ?_
  · refine ⟨rfl, rfl, by rw [Array.size_replicate]; exact hn, fun _ _ => rfl, fun i _ _ _ _ hL => absurd hL (lst_none _ i), fun i hL => absurd hL (lst_none _ i), fun i _ _ _ hL => absurd hL (lst_none _ i), w0.drew, (Below.refl _ w0).drew, fun _ => rfl, fun hL => absurd hL (lst_none _ _), fun hL => absurd hL (lst_none _ _), ?_⟩
    have hpre : ∀ j, (apSpec G gn cn n cap i n3 q (.slice dd L.length dcap) L).R.live (Array.replicate ops.size false) j → j = 100 := fun j hl => by
      rcases hl.1 with hp | hp
      · simp only [apSpec, apRows] at hp
        split at hp
        · rfl
        · cases hp
      · exact absurd hp (lst_none _ j)
    refine ⟨fun j d xs hj hl => ?_, fun j k' d e xs ys hj hk' hne hl hl' => ?_⟩
    · obtain rfl := hpre j hl
      cases hj
      rw [List.length_map]; exact o1
    · exact absurd ((hpre j hl).trans (hpre k' hl').symm) hne
  · intro l a w h hr
    have hall := h.all hn hT hr
    obtain ⟨Wm, m1, m2, m3, m4, m5⟩ := h.mem
    rw [m3 (hall 17 (by show 17 < 18; decide)) (fun hh => h.dom 18 hh rfl)]
    have v15 : (apSpec G gn cn n cap i n3 q (.slice dd L.length dcap) L).R.live l 15 := ⟨.inr (hall 15 (by show 15 < 18; decide)), fun hh => h.dom 18 hh rfl⟩
    refine hQ a Wm h.defers (h.size.trans hs) h.out m1 ?_
    have := m5.own 15 _ _ rfl v15
    rw [show (L.map iV ++ [iV (128 * ((n3 % 9 * q + q : Nat) : Int))]).length = L.length + 1 by simp] at this
    exact this
  intro l a w i' o h ho hun hall
  obtain ⟨d, p, ds, hD, hd, hp, hg', hdeps', _⟩ := hT i' o ho
  have hdeps := deps_of hdeps'
  have hpre : ∀ j ∈ ds, Lst l j := fun j hj => by
    obtain ⟨e, he, hb, rfl⟩ := hdeps j hj
    exact hall e he hb
  refine wpOp_plain ho hg' ?_
  have hi' : i' < 18 := by have := (Array.getElem?_eq_some_iff.1 ho).1; omega
  clear hall hdeps hdeps' ho hT hQ hn
  rcases (show i' = 0 ∨ i' = 1 ∨ i' = 2 ∨ i' = 3 ∨ i' = 4 ∨ i' = 5 ∨ i' = 6 ∨ i' = 7 ∨ i' = 8 ∨ i' = 9 ∨ i' = 10 ∨ i' = 11 ∨ i' = 12 ∨ i' = 13 ∨ i' = 14 ∨ i' = 15 ∨ i' = 16 ∨ i' = 17 by omega) with rfl | rfl | rfl | rfl | rfl | rfl | rfl | rfl | rfl | rfl | rfl | rfl | rfl | rfl | rfl | rfl | rfl | rfl
  · cases hD
    exact op_of hd (run_field50 hp ((h.out 7 (.inl (nlt rfl))).trans t7)) (h.plain hun rfl hpre rfl ⟨nle rfl, nle rfl⟩ (by omega) (fun k c' hk => by simp only [apSpec] at hk; split at hk <;> first | rfl | (cases hk; done)) rfl (fun j d xs hj => by simp only [apSpec, apRows] at hj ⊢; split at hj <;> first | (cases hj; done) | decide) (fun j xs hj => by simp only [apSpec, apRows] at hj; split at hj <;> (cases hj; done)) (nne rfl) (nne rfl) (nne rfl) (nne rfl))
  · cases hD
    have hw := (h.world (fun hh => lst_not hun (apPre h hh 1 (by decide)))).1
    exact op_of hd (run_load41 hp (h.tri 0 102 _ rfl (hpre 0 (by simp))) ((hw.cell (p := ⟨G, 4, none⟩) (Nat.lt_succ_self G)).trans k1)) (h.plain hun rfl hpre rfl ⟨nle rfl, nle rfl⟩ (by omega) (fun k c' hk => by simp only [apSpec] at hk; split at hk <;> first | rfl | (cases hk; done)) rfl (fun j d xs hj => by simp only [apSpec, apRows] at hj ⊢; split at hj <;> first | (cases hj; done) | decide) (fun j xs hj => by simp only [apSpec, apRows] at hj; split at hj <;> (cases hj; done)) (nne rfl) (nne rfl) (nne rfl) (nne rfl))
  · cases hD
    exact op_of hd (run_move hp ((h.out 0 (.inl (nlt rfl))).trans t0)) (h.plain hun rfl hpre rfl ⟨nle rfl, nle rfl⟩ (by omega) (fun k c' hk => by simp only [apSpec] at hk; split at hk <;> first | rfl | (cases hk; done)) rfl (fun j d xs hj => by simp only [apSpec, apRows] at hj ⊢; split at hj <;> first | (cases hj; done) | decide) (fun j xs hj => by simp only [apSpec, apRows] at hj; split at hj <;> (cases hj; done)) (nne rfl) (nne rfl) (nne rfl) (nne rfl))
  · cases hD
    exact op_of hd (run_move hp ((h.out 6 (.inl (nlt rfl))).trans t6)) (h.plain hun rfl hpre rfl ⟨nle rfl, nle rfl⟩ (by omega) (fun k c' hk => by simp only [apSpec] at hk; split at hk <;> first | rfl | (cases hk; done)) rfl (fun j d xs hj => by simp only [apSpec, apRows] at hj ⊢; split at hj <;> first | (cases hj; done) | decide) (fun j xs hj => by simp only [apSpec, apRows] at hj; split at hj <;> (cases hj; done)) (nne rfl) (nne rfl) (nne rfl) (nne rfl))
  · cases hD
    exact op_of hd (run_addc hp (h.tri 3 105 _ rfl (hpre 3 (by simp))) (by rw [IntKind.wrap_i64]; omega)) (h.plain hun rfl hpre rfl ⟨nle rfl, nle rfl⟩ (by omega) (fun k c' hk => by simp only [apSpec] at hk; split at hk <;> first | rfl | (cases hk; done)) rfl (fun j d xs hj => by simp only [apSpec, apRows] at hj ⊢; split at hj <;> first | (cases hj; done) | decide) (fun j xs hj => by simp only [apSpec, apRows] at hj; split at hj <;> (cases hj; done)) (nne rfl) (nne rfl) (nne rfl) (nne rfl))
  · cases hD
    exact op_of hd (run_index38 hp (h.tri 2 104 _ rfl (hpre 2 (by simp))) (h.tri 4 106 _ rfl (hpre 4 (by simp))) (by omega)) (h.plain hun rfl hpre rfl ⟨nle rfl, nle rfl⟩ (by omega) (fun k c' hk => by simp only [apSpec] at hk; split at hk <;> first | rfl | (cases hk; done)) rfl (fun j d xs hj => by simp only [apSpec, apRows] at hj ⊢; split at hj <;> first | (cases hj; done) | decide) (fun j xs hj => by simp only [apSpec, apRows] at hj; split at hj <;> (cases hj; done)) (nne rfl) (nne rfl) (nne rfl) (nne rfl))
  · cases hD
    have hw := (h.world (fun hh => lst_not hun (apPre h hh 6 (by decide)))).1
    exact op_of hd (run_load5 hp (h.tri 5 107 _ rfl (hpre 5 (by simp))) ((hw.cell (p := ⟨gn, cn + (i + 3), none⟩) (Nat.lt_succ_of_lt hgn)).trans c3)) (h.plain hun rfl hpre rfl ⟨nle rfl, nle rfl⟩ (by omega) (fun k c' hk => by simp only [apSpec] at hk; split at hk <;> first | rfl | (cases hk; done)) rfl (fun j d xs hj => by simp only [apSpec, apRows] at hj ⊢; split at hj <;> first | (cases hj; done) | decide) (fun j xs hj => by simp only [apSpec, apRows] at hj; split at hj <;> (cases hj; done)) (nne rfl) (nne rfl) (nne rfl) (nne rfl))
  · cases hD
    exact op_of hd (run_conv hp (h.tri 6 108 _ rfl (hpre 6 (by simp))) b3) (h.plain hun rfl hpre rfl ⟨nle rfl, nle rfl⟩ (by omega) (fun k c' hk => by simp only [apSpec] at hk; split at hk <;> first | rfl | (cases hk; done)) rfl (fun j d xs hj => by simp only [apSpec, apRows] at hj ⊢; split at hj <;> first | (cases hj; done) | decide) (fun j xs hj => by simp only [apSpec, apRows] at hj; split at hj <;> (cases hj; done)) (nne rfl) (nne rfl) (nne rfl) (nne rfl))
  · cases hD
    exact op_of hd (run_rem9 hp (h.tri 7 109 _ rfl (hpre 7 (by simp))) rfl b3) (h.plain hun rfl hpre rfl ⟨nle rfl, nle rfl⟩ (by omega) (fun k c' hk => by simp only [apSpec] at hk; split at hk <;> first | rfl | (cases hk; done)) rfl (fun j d xs hj => by simp only [apSpec, apRows] at hj ⊢; split at hj <;> first | (cases hj; done) | decide) (fun j xs hj => by simp only [apSpec, apRows] at hj; split at hj <;> (cases hj; done)) (nne rfl) (nne rfl) (nne rfl) (nne rfl))
  · cases hD
    exact op_of hd (run_move hp ((h.out 8 (.inl (nlt rfl))).trans t8)) (h.plain hun rfl hpre rfl ⟨nle rfl, nle rfl⟩ (by omega) (fun k c' hk => by simp only [apSpec] at hk; split at hk <;> first | rfl | (cases hk; done)) rfl (fun j d xs hj => by simp only [apSpec, apRows] at hj ⊢; split at hj <;> first | (cases hj; done) | decide) (fun j xs hj => by simp only [apSpec, apRows] at hj; split at hj <;> (cases hj; done)) (nne rfl) (nne rfl) (nne rfl) (nne rfl))
  · cases hD
    exact op_of hd (run_mul2 hp (h.tri 8 110 _ rfl (hpre 8 (by simp))) (h.tri 9 111 _ rfl (hpre 9 (by simp))) hmul) (h.plain hun rfl hpre rfl ⟨nle rfl, nle rfl⟩ (by omega) (fun k c' hk => by simp only [apSpec] at hk; split at hk <;> first | rfl | (cases hk; done)) rfl (fun j d xs hj => by simp only [apSpec, apRows] at hj ⊢; split at hj <;> first | (cases hj; done) | decide) (fun j xs hj => by simp only [apSpec, apRows] at hj; split at hj <;> (cases hj; done)) (nne rfl) (nne rfl) (nne rfl) (nne rfl))
  · cases hD
    exact op_of hd (run_move hp ((h.out 8 (.inl (nlt rfl))).trans t8)) (h.plain hun rfl hpre rfl ⟨nle rfl, nle rfl⟩ (by omega) (fun k c' hk => by simp only [apSpec] at hk; split at hk <;> first | rfl | (cases hk; done)) rfl (fun j d xs hj => by simp only [apSpec, apRows] at hj ⊢; split at hj <;> first | (cases hj; done) | decide) (fun j xs hj => by simp only [apSpec, apRows] at hj; split at hj <;> (cases hj; done)) (nne rfl) (nne rfl) (nne rfl) (nne rfl))
  · cases hD
    exact op_of hd (run_add2 hp (h.tri 10 112 _ rfl (hpre 10 (by simp))) (h.tri 11 113 _ rfl (hpre 11 (by simp))) hadd) (h.plain hun rfl hpre rfl ⟨nle rfl, nle rfl⟩ (by omega) (fun k c' hk => by simp only [apSpec] at hk; split at hk <;> first | rfl | (cases hk; done)) rfl (fun j d xs hj => by simp only [apSpec, apRows] at hj ⊢; split at hj <;> first | (cases hj; done) | decide) (fun j xs hj => by simp only [apSpec, apRows] at hj; split at hj <;> (cases hj; done)) (nne rfl) (nne rfl) (nne rfl) (nne rfl))
  · cases hD
    exact op_of hd (run_mulc hp (h.tri 12 114 _ rfl (hpre 12 (by simp))) hmulc) (h.plain hun rfl hpre rfl ⟨nle rfl, nle rfl⟩ (by omega) (fun k c' hk => by simp only [apSpec] at hk; split at hk <;> first | rfl | (cases hk; done)) rfl (fun j d xs hj => by simp only [apSpec, apRows] at hj ⊢; split at hj <;> first | (cases hj; done) | decide) (fun j xs hj => by simp only [apSpec, apRows] at hj; split at hj <;> (cases hj; done)) (nne rfl) (nne rfl) (nne rfl) (nne rfl))
  · cases hD
    have hns1 : ¬ Lst l 17 := fun hh => lst_not hun (apPre h hh 14 (by decide))
    have hns2 : ¬ Lst l 18 := fun hh => h.dom 18 hh rfl
    obtain ⟨hw, hrows⟩ := h.world hns1
    have hbw := Nat.le_trans hbs hw.size
    refine op_ofW hd (run_lit hp (h.tri 13 115 _ rfl (hpre 13 (by simp)))) ?_
    refine h.make hun rfl hpre hns1 hns2 ⟨nle rfl, nle rfl⟩ (by omega) (fun k c' hk => by simp only [apSpec] at hk; split at hk <;> (cases hk; done)) rfl rfl (fun j hj => by simp only [apSpec, apRows] at hj; split at hj <;> first | (cases hj; done) | decide) (fun hh => lst_not hun (h.clo 15 _ _ _ rfl hh 14 (by simp))) (nne rfl) (nne rfl) (nne rfl) (hw.alloc hbw _) ?_ (fun g hg _ => Below.heap_alloc w _ g hg) (fun g hg => .inl (by cases hg; exact Nat.le_refl _))
    exact World.ownsRow_lit w #[_] 1 hbw (by decide) (by simp)
  · cases hD
    have hns1 : ¬ Lst l 17 := fun hh => lst_not hun (apPre h hh 15 (by decide))
    have hns2 : ¬ Lst l 18 := fun hh => h.dom 18 hh rfl
    obtain ⟨hw, hrows⟩ := h.world hns1
    have hbw := Nat.le_trans hbs hw.size
    have la : (apSpec G gn cn n cap i n3 q (.slice dd L.length dcap) L).R.live l 100 := ⟨.inl rfl, lst_not hun⟩
    have lb : (apSpec G gn cn n cap i n3 q (.slice dd L.length dcap) L).R.live l 14 := ⟨.inr (hpre 14 (by simp)), lst_not hun⟩
    have oa := hrows.own 100 _ _ rfl la
    have ob := hrows.own 14 _ _ rfl lb
    obtain ⟨gb, cb, eb, hbl⟩ := own_one ob
    refine wp_append_lies w (.tmp 103) (.tmp 116) 41 hp (G + 1) 3 i0 (.int .i64 0) 1 8 Tryd.underlying41 hi0 hz0 hz1 hz2 rfl (by decide) _ _ _ (h.tri 1 103 _ rfl (hpre 1 (by simp))) oa _ 1 cb [iV _] eb rfl hbl (by simp [Value.oneCell', iV]) (by omega) (by unfold maxLen; simp; omega) (by simp; omega) hbw _ rfl ?_
    intro g' cap w' hown hgrow hat hlt
    rw [hd]
    refine h.make hun rfl hpre hns1 hns2 ⟨nle rfl, nle rfl⟩ (by omega) (fun k c' hk => by simp only [apSpec] at hk; split at hk <;> (cases hk; done)) rfl rfl (fun j hj => by simp only [apSpec, apRows] at hj; split at hj <;> first | (cases hj; done) | decide) (fun hh => h.dom 18 hh rfl) (nne rfl) (nne rfl) (nne rfl) (hw.grown hgrow hbw (own_later oa)) (by rw [List.length_append]; exact hown) (fun g'' hg'' hno => hgrow.block g'' hg'' (hno 100 _ _ rfl rfl la).symm) (fun g'' hg'' => ?_)
    cases hg''
    rcases hat with hat | hat
    · exact .inr ⟨100, _, _, rfl, rfl, la, hat⟩
    · exact .inl (Nat.le_of_eq hat.symm)
  · cases hD
    exact op_of hd (run_field50 hp ((h.out 7 (.inl (nlt rfl))).trans t7)) (h.plain hun rfl hpre rfl ⟨nle rfl, nle rfl⟩ (by omega) (fun k c' hk => by simp only [apSpec] at hk; split at hk <;> first | rfl | (cases hk; done)) rfl (fun j d xs hj => by simp only [apSpec, apRows] at hj ⊢; split at hj <;> first | (cases hj; done) | decide) (fun j xs hj => by simp only [apSpec, apRows] at hj; split at hj <;> (cases hj; done)) (nne rfl) (nne rfl) (nne rfl) (nne rfl))
  · cases hD
    have hns2 : ¬ Lst l 18 := fun hh => h.dom 18 hh rfl
    obtain ⟨hw, hrows⟩ := h.world (lst_not hun)
    have ov := hrows.own 15 _ _ rfl ⟨.inr (hpre 15 (by simp)), fun hh => h.dom 18 hh rfl⟩
    obtain ⟨vd, vc, ev⟩ := own_slice ov
    have ev' : Tm a 117 = _ := ev
    refine run_store41 hp hd (h.tri 16 118 _ rfl (hpre 16 (by simp))) ev' ((hw.cell (p := ⟨G, 4, none⟩) (Nat.lt_succ_self G)).trans k1) ((hw.frozen (p := ⟨G, 4, none⟩) (Nat.lt_succ_self G)).trans f1) ?_
    have := h.store1 hun rfl hpre hns2 (nne rfl) rfl rfl (fun j d xs hj => by simp only [apSpec, apRows] at hj ⊢; split at hj <;> first | (cases hj; done) | decide)
    rw [← ev']
    exact this
end Go.Proofs.YtomheapokfphiaaDoor
