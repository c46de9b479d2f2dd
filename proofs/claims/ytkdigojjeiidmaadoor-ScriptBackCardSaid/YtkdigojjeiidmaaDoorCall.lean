/-
  The contract of the reader's call.
-/
import Derived.Test.YtkdigojjeiidmaaDoorNext
namespace Go.Proofs.YtkdigojjeiidmaaDoor
open Go Go.RowKit Go.Shelf

def callV (o : CallP) (lv : Value) : Value := .agg #[.int .i64 o.kind, .int .i64 o.a, lv]
/-- A call came back: its value, its list's block new. -/
def CallDone (base : Nat) (o : CallP) (e : Ending) (w' : World) : Prop := ∃ lv, e = .returned (callV o lv) ∧ w'.ownsRow base 3 1 lv o.L.length (o.L.map iV)
theorem callDone_nil {base : Nat} {w' : World} {k a : Int} : CallDone base ⟨k, a, []⟩ (.returned (.agg #[.int .i64 k, .int .i64 a, .slice none 0 0])) w' := ⟨_, rfl, World.ownsRow_nil _ _ _ _⟩
theorem callDone_eq {base : Nat} {w' : World} {k a b : Int} (h : b = a) : CallDone base ⟨k, a, []⟩ (.returned (.agg #[.int .i64 k, .int .i64 b, .slice none 0 0])) w' := by rw [h]; exact callDone_nil
theorem tmod_nat (x m : Nat) : (x : Int).tmod (m : Int) = ((x % m : Nat) : Int) := by rw [Int.tmod_eq_emod_of_nonneg (by omega)]; rfl
theorem callM_4 {x : Nat} (y z : Nat) (h : x % 8 = 4) : callM x y z = ⟨2, 0, []⟩ := by simp [callM, h]
theorem callM_5 {x : Nat} (y z : Nat) (h : x % 8 = 5) : callM x y z = ⟨3, ((1 + y % 16 : Nat) : Int), []⟩ := by simp [callM, h]
theorem callM_6 {x : Nat} (y z : Nat) (h : x % 8 = 6) : callM x y z = ⟨4, ((y % 2 : Nat) : Int), bitsM z 8⟩ := by simp [callM, h]
theorem callM_7 {x : Nat} (y z : Nat) (h : x % 8 = 7) : callM x y z = ⟨5, ((1 + y % 16 : Nat) : Int), []⟩ := by simp [callM, h]
theorem callM_0 {x : Nat} (y z : Nat) (h : x % 8 < 4) : callM x y z = ⟨1, ((y % 32 * 2 ^ (z % 11) : Nat) : Int), []⟩ := by
  rw [callM, if_neg (by omega), if_neg (by omega), if_neg (by omega), if_neg (by omega)]

def zero36 : Obj := .cells #[.int .i64 0, .int .i64 0, .slice none 0 0] 36
set_option maxRecDepth 8000 in
set_option maxHeartbeats 1600000 in
theorem rcall_4 (R : Nat) (ns : List Nat) (p : Nat) (w : World) (h : RdAt w R ns p) (hx : bt ns p % 8 = 4) :
    Calls Tryd.prog 25 #[.pointer (some ⟨R, 0, none⟩)] w fun e w' => CallDone w.heap.size (callM (bt ns p) (bt ns (p + 1)) (bt ns (p + 2))) e w' ∧ RdAt w' R ns (p + 3) ∧ Kept (fun g => g = R) w w' := by
  rw [callM_4 _ _ hx]
  obtain ⟨x, ex⟩ : ∃ x, bt ns p = x := ⟨_, rfl⟩
  obtain ⟨y, ey⟩ : ∃ y, bt ns (p + 1) = y := ⟨_, rfl⟩
  obtain ⟨z, ez⟩ : ∃ z, bt ns (p + 2) = z := ⟨_, rfl⟩
  have hRlt : R < w.heap.size := by obtain ⟨_, _, hb, _⟩ := h; exact (Array.getElem?_eq_some_iff.1 hb).1
  have h255 : ∀ i, bt ns i ≤ 255 := by obtain ⟨_, _, _, _, _, h5, _⟩ := h; exact bt_le h5
  have H1 := next_any R ns p (w.alloc zero36) (h.kept ((Kept.refl (fun _ => False) w).alloc _) (fun _ _ h => h))
  have by2 := h255 (p + 1)
  have bz2 := h255 (p + 2)
  rw [ex] at H1 hx
  rw [ey] at by2
  rw [ez] at bz2
  try rw [ey]
  try rw [ez]

  have EY := Lib.hid ey
  have EZ := Lib.hid ez
  have H1 := Lib.hid H1
  have HX := Lib.hid hx
  have K0 := Lib.hid ((Kept.refl (fun g => g = R) w).alloc zero36)
  have b0 : (w.alloc zero36).heap[w.heap.size]? = some zero36 := World.alloc_heap_new _ _
  have B0 := Lib.hid b0
  clear h hx b0 h255 ex ey ez
  unfold zero36 at *
  go_enter Tryd.func25, Tryd.ntmps25
  go_wp2_with fail
  refine H1.out.mono ?_
  rintro e w1 ⟨rfl, h1, k1⟩
  have H2 := next_any R ns (p + 1) w1 h1
  rw [EY.out] at H2
  have H2 := Lib.hid H2
  have K1 := Lib.hid (K0.out.trans k1 (fun g _ h => h))
  have B1 := Lib.hid (k1.blk B0.out (by omega))
  clear h1 k1
  go_wp2_with fail
  refine H2.out.mono ?_
  rintro e w2 ⟨rfl, h2, k2⟩
  have H3 := next_any R ns (p + 1 + 1) w2 h2
  rw [EZ.out] at H3
  have H3 := Lib.hid H3
  have K2 := Lib.hid (K1.out.trans k2 (fun g _ h => h))
  have B2 := Lib.hid (k2.blk B1.out (by omega))
  clear h2 k2
  go_wp2_with fail
  refine H3.out.mono ?_
  rintro e w3 ⟨rfl, h3, k3⟩
  have K3 := Lib.hid (K2.out.trans k3 (fun g _ h => h))
  have B3 := Lib.hid (k3.blk B2.out (by omega))
  have HR := Lib.hid h3
  clear h3 k3
  have c0 := blk_cell B3.out 0
  have c1 := blk_cell B3.out 1
  have c2 := blk_cell B3.out 2
  have f0 := blk_frozen B3.out 0
  have f1 := blk_frozen B3.out 1
  have f2 := blk_frozen B3.out 2
  simp at c0 c1 c2
  have r8 : (x : Int).tmod 8 = ((x % 8 : Nat) : Int) := tmod_nat x 8
  clear H1 H2 H3 B0 B1 B2 K0 K1 K2
  rw [HX.out] at r8

  go_wp2
  refine bodyPost_ret (by simp [results, Tryd.results25, go_sem, c0, c1, c2]) rfl ⟨callDone_nil, (HR.out.kept ((((Kept.refl (fun g => g = w.heap.size) w3).setCell (fun _ => rfl) _).setCell (fun _ => rfl) _).setCell (fun _ => rfl) _) (by omega)), ?_⟩
  exact ((K3.out.setCell (p := ⟨w.heap.size, 0, none⟩) (fun h => absurd h (Nat.lt_irrefl _)) _).setCell (p := ⟨w.heap.size, 1, none⟩) (fun h => absurd h (Nat.lt_irrefl _)) _).setCell (p := ⟨w.heap.size, 2, none⟩) (fun h => absurd h (Nat.lt_irrefl _)) _
set_option maxRecDepth 8000 in
set_option maxHeartbeats 1600000 in
theorem rcall_5 (R : Nat) (ns : List Nat) (p : Nat) (w : World) (h : RdAt w R ns p) (hx : bt ns p % 8 = 5) :
    Calls Tryd.prog 25 #[.pointer (some ⟨R, 0, none⟩)] w fun e w' => CallDone w.heap.size (callM (bt ns p) (bt ns (p + 1)) (bt ns (p + 2))) e w' ∧ RdAt w' R ns (p + 3) ∧ Kept (fun g => g = R) w w' := by
  rw [callM_5 _ _ hx]
  obtain ⟨x, ex⟩ : ∃ x, bt ns p = x := ⟨_, rfl⟩
  obtain ⟨y, ey⟩ : ∃ y, bt ns (p + 1) = y := ⟨_, rfl⟩
  obtain ⟨z, ez⟩ : ∃ z, bt ns (p + 2) = z := ⟨_, rfl⟩
  have hRlt : R < w.heap.size := by obtain ⟨_, _, hb, _⟩ := h; exact (Array.getElem?_eq_some_iff.1 hb).1
  have h255 : ∀ i, bt ns i ≤ 255 := by obtain ⟨_, _, _, _, _, h5, _⟩ := h; exact bt_le h5
  have H1 := next_any R ns p (w.alloc zero36) (h.kept ((Kept.refl (fun _ => False) w).alloc _) (fun _ _ h => h))
  have by2 := h255 (p + 1)
  have bz2 := h255 (p + 2)
  rw [ex] at H1 hx
  rw [ey] at by2
  rw [ez] at bz2
  try rw [ey]
  try rw [ez]
  obtain ⟨m0, em⟩ : ∃ m0, ((1 + y % 16 : Nat) : Int) = m0 := ⟨_, rfl⟩
  rw [em]
  have EM := Lib.hid em
  clear em
  have EY := Lib.hid ey
  have EZ := Lib.hid ez
  have H1 := Lib.hid H1
  have HX := Lib.hid hx
  have K0 := Lib.hid ((Kept.refl (fun g => g = R) w).alloc zero36)
  have b0 : (w.alloc zero36).heap[w.heap.size]? = some zero36 := World.alloc_heap_new _ _
  have B0 := Lib.hid b0
  clear h hx b0 h255 ex ey ez
  unfold zero36 at *
  go_enter Tryd.func25, Tryd.ntmps25
  go_wp2_with fail
  refine H1.out.mono ?_
  rintro e w1 ⟨rfl, h1, k1⟩
  have H2 := next_any R ns (p + 1) w1 h1
  rw [EY.out] at H2
  have H2 := Lib.hid H2
  have K1 := Lib.hid (K0.out.trans k1 (fun g _ h => h))
  have B1 := Lib.hid (k1.blk B0.out (by omega))
  clear h1 k1
  go_wp2_with fail
  refine H2.out.mono ?_
  rintro e w2 ⟨rfl, h2, k2⟩
  have H3 := next_any R ns (p + 1 + 1) w2 h2
  rw [EZ.out] at H3
  have H3 := Lib.hid H3
  have K2 := Lib.hid (K1.out.trans k2 (fun g _ h => h))
  have B2 := Lib.hid (k2.blk B1.out (by omega))
  clear h2 k2
  go_wp2_with fail
  refine H3.out.mono ?_
  rintro e w3 ⟨rfl, h3, k3⟩
  have K3 := Lib.hid (K2.out.trans k3 (fun g _ h => h))
  have B3 := Lib.hid (k3.blk B2.out (by omega))
  have HR := Lib.hid h3
  clear h3 k3
  have c0 := blk_cell B3.out 0
  have c1 := blk_cell B3.out 1
  have c2 := blk_cell B3.out 2
  have f0 := blk_frozen B3.out 0
  have f1 := blk_frozen B3.out 1
  have f2 := blk_frozen B3.out 2
  simp at c0 c1 c2
  have r8 : (x : Int).tmod 8 = ((x % 8 : Nat) : Int) := tmod_nat x 8
  clear H1 H2 H3 B0 B1 B2 K0 K1 K2
  rw [HX.out] at r8

  have r16 : (y : Int).tmod 16 = ((y % 16 : Nat) : Int) := tmod_nat y 16
  have hm16 : y % 16 < 16 := Nat.mod_lt _ (by decide)
  go_wp2
  refine bodyPost_ret (by simp [results, Tryd.results25, go_sem, c0, c1, c2]) rfl ⟨callDone_eq (b := 1 + ((y % 16 : Nat) : Int)) (by have := EM.out; omega), (HR.out.kept ((((Kept.refl (fun g => g = w.heap.size) w3).setCell (fun _ => rfl) _).setCell (fun _ => rfl) _).setCell (fun _ => rfl) _) (by omega)), ?_⟩
  exact ((K3.out.setCell (p := ⟨w.heap.size, 0, none⟩) (fun h => absurd h (Nat.lt_irrefl _)) _).setCell (p := ⟨w.heap.size, 1, none⟩) (fun h => absurd h (Nat.lt_irrefl _)) _).setCell (p := ⟨w.heap.size, 2, none⟩) (fun h => absurd h (Nat.lt_irrefl _)) _
set_option maxRecDepth 8000 in
set_option maxHeartbeats 1600000 in
theorem rcall_7 (R : Nat) (ns : List Nat) (p : Nat) (w : World) (h : RdAt w R ns p) (hx : bt ns p % 8 = 7) :
    Calls Tryd.prog 25 #[.pointer (some ⟨R, 0, none⟩)] w fun e w' => CallDone w.heap.size (callM (bt ns p) (bt ns (p + 1)) (bt ns (p + 2))) e w' ∧ RdAt w' R ns (p + 3) ∧ Kept (fun g => g = R) w w' := by
  rw [callM_7 _ _ hx]
  obtain ⟨x, ex⟩ : ∃ x, bt ns p = x := ⟨_, rfl⟩
  obtain ⟨y, ey⟩ : ∃ y, bt ns (p + 1) = y := ⟨_, rfl⟩
  obtain ⟨z, ez⟩ : ∃ z, bt ns (p + 2) = z := ⟨_, rfl⟩
  have hRlt : R < w.heap.size := by obtain ⟨_, _, hb, _⟩ := h; exact (Array.getElem?_eq_some_iff.1 hb).1
  have h255 : ∀ i, bt ns i ≤ 255 := by obtain ⟨_, _, _, _, _, h5, _⟩ := h; exact bt_le h5
  have H1 := next_any R ns p (w.alloc zero36) (h.kept ((Kept.refl (fun _ => False) w).alloc _) (fun _ _ h => h))
  have by2 := h255 (p + 1)
  have bz2 := h255 (p + 2)
  rw [ex] at H1 hx
  rw [ey] at by2
  rw [ez] at bz2
  try rw [ey]
  try rw [ez]
  obtain ⟨m0, em⟩ : ∃ m0, ((1 + y % 16 : Nat) : Int) = m0 := ⟨_, rfl⟩
  rw [em]
  have EM := Lib.hid em
  clear em
  have EY := Lib.hid ey
  have EZ := Lib.hid ez
  have H1 := Lib.hid H1
  have HX := Lib.hid hx
  have K0 := Lib.hid ((Kept.refl (fun g => g = R) w).alloc zero36)
  have b0 : (w.alloc zero36).heap[w.heap.size]? = some zero36 := World.alloc_heap_new _ _
  have B0 := Lib.hid b0
  clear h hx b0 h255 ex ey ez
  unfold zero36 at *
  go_enter Tryd.func25, Tryd.ntmps25
  go_wp2_with fail
  refine H1.out.mono ?_
  rintro e w1 ⟨rfl, h1, k1⟩
  have H2 := next_any R ns (p + 1) w1 h1
  rw [EY.out] at H2
  have H2 := Lib.hid H2
  have K1 := Lib.hid (K0.out.trans k1 (fun g _ h => h))
  have B1 := Lib.hid (k1.blk B0.out (by omega))
  clear h1 k1
  go_wp2_with fail
  refine H2.out.mono ?_
  rintro e w2 ⟨rfl, h2, k2⟩
  have H3 := next_any R ns (p + 1 + 1) w2 h2
  rw [EZ.out] at H3
  have H3 := Lib.hid H3
  have K2 := Lib.hid (K1.out.trans k2 (fun g _ h => h))
  have B2 := Lib.hid (k2.blk B1.out (by omega))
  clear h2 k2
  go_wp2_with fail
  refine H3.out.mono ?_
  rintro e w3 ⟨rfl, h3, k3⟩
  have K3 := Lib.hid (K2.out.trans k3 (fun g _ h => h))
  have B3 := Lib.hid (k3.blk B2.out (by omega))
  have HR := Lib.hid h3
  clear h3 k3
  have c0 := blk_cell B3.out 0
  have c1 := blk_cell B3.out 1
  have c2 := blk_cell B3.out 2
  have f0 := blk_frozen B3.out 0
  have f1 := blk_frozen B3.out 1
  have f2 := blk_frozen B3.out 2
  simp at c0 c1 c2
  have r8 : (x : Int).tmod 8 = ((x % 8 : Nat) : Int) := tmod_nat x 8
  clear H1 H2 H3 B0 B1 B2 K0 K1 K2
  rw [HX.out] at r8

  have r16 : (y : Int).tmod 16 = ((y % 16 : Nat) : Int) := tmod_nat y 16
  have hm16 : y % 16 < 16 := Nat.mod_lt _ (by decide)
  go_wp2
  refine bodyPost_ret (by simp [results, Tryd.results25, go_sem, c0, c1, c2]) rfl ⟨callDone_eq (b := 1 + ((y % 16 : Nat) : Int)) (by have := EM.out; omega), (HR.out.kept ((((Kept.refl (fun g => g = w.heap.size) w3).setCell (fun _ => rfl) _).setCell (fun _ => rfl) _).setCell (fun _ => rfl) _) (by omega)), ?_⟩
  exact ((K3.out.setCell (p := ⟨w.heap.size, 0, none⟩) (fun h => absurd h (Nat.lt_irrefl _)) _).setCell (p := ⟨w.heap.size, 1, none⟩) (fun h => absurd h (Nat.lt_irrefl _)) _).setCell (p := ⟨w.heap.size, 2, none⟩) (fun h => absurd h (Nat.lt_irrefl _)) _
set_option maxRecDepth 8000 in
set_option maxHeartbeats 1600000 in
theorem rcall_0 (R : Nat) (ns : List Nat) (p : Nat) (w : World) (h : RdAt w R ns p) (hx : bt ns p % 8 < 4) :
    Calls Tryd.prog 25 #[.pointer (some ⟨R, 0, none⟩)] w fun e w' => CallDone w.heap.size (callM (bt ns p) (bt ns (p + 1)) (bt ns (p + 2))) e w' ∧ RdAt w' R ns (p + 3) ∧ Kept (fun g => g = R) w w' := by
  rw [callM_0 _ _ hx]
  obtain ⟨x, ex⟩ : ∃ x, bt ns p = x := ⟨_, rfl⟩
  obtain ⟨y, ey⟩ : ∃ y, bt ns (p + 1) = y := ⟨_, rfl⟩
  obtain ⟨z, ez⟩ : ∃ z, bt ns (p + 2) = z := ⟨_, rfl⟩
  have hRlt : R < w.heap.size := by obtain ⟨_, _, hb, _⟩ := h; exact (Array.getElem?_eq_some_iff.1 hb).1
  have h255 : ∀ i, bt ns i ≤ 255 := by obtain ⟨_, _, _, _, _, h5, _⟩ := h; exact bt_le h5
  have H1 := next_any R ns p (w.alloc zero36) (h.kept ((Kept.refl (fun _ => False) w).alloc _) (fun _ _ h => h))
  have by2 := h255 (p + 1)
  have bz2 := h255 (p + 2)
  rw [ex] at H1 hx
  rw [ey] at by2
  rw [ez] at bz2
  try rw [ey]
  try rw [ez]
  obtain ⟨m0, em⟩ : ∃ m0, ((y % 32 * 2 ^ (z % 11) : Nat) : Int) = m0 := ⟨_, rfl⟩
  rw [em]
  have EM := Lib.hid em
  clear em
  have EY := Lib.hid ey
  have EZ := Lib.hid ez
  have H1 := Lib.hid H1
  have HX := Lib.hid hx
  have K0 := Lib.hid ((Kept.refl (fun g => g = R) w).alloc zero36)
  have b0 : (w.alloc zero36).heap[w.heap.size]? = some zero36 := World.alloc_heap_new _ _
  have B0 := Lib.hid b0
  clear h hx b0 h255 ex ey ez
  unfold zero36 at *
  go_enter Tryd.func25, Tryd.ntmps25
  go_wp2_with fail
  refine H1.out.mono ?_
  rintro e w1 ⟨rfl, h1, k1⟩
  have H2 := next_any R ns (p + 1) w1 h1
  rw [EY.out] at H2
  have H2 := Lib.hid H2
  have K1 := Lib.hid (K0.out.trans k1 (fun g _ h => h))
  have B1 := Lib.hid (k1.blk B0.out (by omega))
  clear h1 k1
  go_wp2_with fail
  refine H2.out.mono ?_
  rintro e w2 ⟨rfl, h2, k2⟩
  have H3 := next_any R ns (p + 1 + 1) w2 h2
  rw [EZ.out] at H3
  have H3 := Lib.hid H3
  have K2 := Lib.hid (K1.out.trans k2 (fun g _ h => h))
  have B2 := Lib.hid (k2.blk B1.out (by omega))
  clear h2 k2
  go_wp2_with fail
  refine H3.out.mono ?_
  rintro e w3 ⟨rfl, h3, k3⟩
  have K3 := Lib.hid (K2.out.trans k3 (fun g _ h => h))
  have B3 := Lib.hid (k3.blk B2.out (by omega))
  have HR := Lib.hid h3
  clear h3 k3
  have c0 := blk_cell B3.out 0
  have c1 := blk_cell B3.out 1
  have c2 := blk_cell B3.out 2
  have f0 := blk_frozen B3.out 0
  have f1 := blk_frozen B3.out 1
  have f2 := blk_frozen B3.out 2
  simp at c0 c1 c2
  have r8 : (x : Int).tmod 8 = ((x % 8 : Nat) : Int) := tmod_nat x 8
  clear H1 H2 H3 B0 B1 B2 K0 K1 K2
  have hk : x % 8 < 4 := HX.out
  clear HX
  generalize x % 8 = k at *

  have r32 : (y : Int).tmod 32 = ((y % 32 : Nat) : Int) := tmod_nat y 32
  have r11 : (z : Int).tmod 11 = ((z % 11 : Nat) : Int) := tmod_nat z 11
  have hm32 : y % 32 < 32 := Nat.mod_lt _ (by decide)
  have hm11 : z % 11 < 11 := Nat.mod_lt _ (by decide)
  have t4 : ((k : Int) == 4) = false := by simp; omega
  have t5 : ((k : Int) == 5) = false := by simp; omega
  have t6 : ((k : Int) == 6) = false := by simp; omega
  have t7 : ((k : Int) == 7) = false := by simp; omega
  have hp : 2 ^ (z % 11) ≤ 2 ^ 10 := Nat.pow_le_pow_right (by decide) (by omega)
  have hq : y % 32 * 2 ^ (z % 11) ≤ 31 * 1024 := Nat.mul_le_mul (by omega) hp
  obtain ⟨s, es⟩ : ∃ s, z % 11 = s := ⟨_, rfl⟩
  obtain ⟨q, eq⟩ : ∃ q, y % 32 = q := ⟨_, rfl⟩
  have em := EM.out
  rw [es, eq] at em hq
  rw [es] at r11 hm11
  rw [eq] at r32 hm32
  have hwr : wrap64 ((q : Int) * 2 ^ s) = m0 := by
    rw [← em]
    have e : (q : Int) * 2 ^ s = ((q * 2 ^ s : Nat) : Int) := by push_cast; rfl
    rw [e]
    unfold wrap64
    omega
  clear hp hq es eq em
  go_wp2
  refine bodyPost_ret (by simp [results, Tryd.results25, go_sem, c0, c1, c2]) rfl ⟨callDone_nil, (HR.out.kept ((((Kept.refl (fun g => g = w.heap.size) w3).setCell (fun _ => rfl) _).setCell (fun _ => rfl) _).setCell (fun _ => rfl) _) (by omega)), ?_⟩
  exact ((K3.out.setCell (p := ⟨w.heap.size, 0, none⟩) (fun h => absurd h (Nat.lt_irrefl _)) _).setCell (p := ⟨w.heap.size, 1, none⟩) (fun h => absurd h (Nat.lt_irrefl _)) _).setCell (p := ⟨w.heap.size, 2, none⟩) (fun h => absurd h (Nat.lt_irrefl _)) _
/-- The loop's list: the places found so far, in a block of their own. -/
def BitsAt (C : Nat) (m0 : Int) (z k : Nat) (W0 wr : World) : Prop := ∃ lv, wr.heap[C]? = some (.cells #[.int .i64 4, .int .i64 m0, lv] 36 (0, 0)) ∧ wr.ownsRow (C + 1) 3 1 lv (bitsM z k).length ((bitsM z k).map iV) ∧ Below C W0 wr
theorem i64_and1 : ∀ a : Nat, a < 256 → bits .and .i64 (a : Int) 1 = ((a % 2 : Nat) : Int) := by decide +kernel
theorem info3 : (Tryd.prog.info? 3).map (fun i => (i.zero, i.size, i.bytes)) = some (some (.int .i64 0), 1, 8) := by kernel_rfl
set_option maxRecDepth 8000 in
set_option maxHeartbeats 1600000 in
theorem rcall_6 (R : Nat) (ns : List Nat) (p : Nat) (w : World) (h : RdAt w R ns p) (hx : bt ns p % 8 = 6) :
    Calls Tryd.prog 25 #[.pointer (some ⟨R, 0, none⟩)] w fun e w' => CallDone w.heap.size (callM (bt ns p) (bt ns (p + 1)) (bt ns (p + 2))) e w' ∧ RdAt w' R ns (p + 3) ∧ Kept (fun g => g = R) w w' := by
  rw [callM_6 _ _ hx]
  obtain ⟨x, ex⟩ : ∃ x, bt ns p = x := ⟨_, rfl⟩
  obtain ⟨y, ey⟩ : ∃ y, bt ns (p + 1) = y := ⟨_, rfl⟩
  obtain ⟨z, ez⟩ : ∃ z, bt ns (p + 2) = z := ⟨_, rfl⟩
  have hRlt : R < w.heap.size := by obtain ⟨_, _, hb, _⟩ := h; exact (Array.getElem?_eq_some_iff.1 hb).1
  have h255 : ∀ i, bt ns i ≤ 255 := by obtain ⟨_, _, _, _, _, h5, _⟩ := h; exact bt_le h5
  have H1 := next_any R ns p (w.alloc zero36) (h.kept ((Kept.refl (fun _ => False) w).alloc _) (fun _ _ h => h))
  have by2 := h255 (p + 1)
  have bz2 := h255 (p + 2)
  rw [ex] at H1 hx
  rw [ey] at by2
  rw [ez] at bz2
  try rw [ey]
  try rw [ez]
  obtain ⟨m0, em⟩ : ∃ m0, ((y % 2 : Nat) : Int) = m0 := ⟨_, rfl⟩
  rw [em]
  have EM := Lib.hid em
  clear em
  have EY := Lib.hid ey
  have EZ := Lib.hid ez
  have H1 := Lib.hid H1
  have HX := Lib.hid hx
  have K0 := Lib.hid ((Kept.refl (fun g => g = R) w).alloc zero36)
  have b0 : (w.alloc zero36).heap[w.heap.size]? = some zero36 := World.alloc_heap_new _ _
  have B0 := Lib.hid b0
  clear h hx b0 h255 ex ey ez
  unfold zero36 at *
  go_enter Tryd.func25, Tryd.ntmps25
  go_wp2_with fail
  refine H1.out.mono ?_
  rintro e w1 ⟨rfl, h1, k1⟩
  have H2 := next_any R ns (p + 1) w1 h1
  rw [EY.out] at H2
  have H2 := Lib.hid H2
  have K1 := Lib.hid (K0.out.trans k1 (fun g _ h => h))
  have B1 := Lib.hid (k1.blk B0.out (by omega))
  clear h1 k1
  go_wp2_with fail
  refine H2.out.mono ?_
  rintro e w2 ⟨rfl, h2, k2⟩
  have H3 := next_any R ns (p + 1 + 1) w2 h2
  rw [EZ.out] at H3
  have H3 := Lib.hid H3
  have K2 := Lib.hid (K1.out.trans k2 (fun g _ h => h))
  have B2 := Lib.hid (k2.blk B1.out (by omega))
  clear h2 k2
  go_wp2_with fail
  refine H3.out.mono ?_
  rintro e w3 ⟨rfl, h3, k3⟩
  have K3 := Lib.hid (K2.out.trans k3 (fun g _ h => h))
  have B3 := Lib.hid (k3.blk B2.out (by omega))
  have HR := Lib.hid h3
  clear h3 k3
  have c0 := blk_cell B3.out 0
  have c1 := blk_cell B3.out 1
  have c2 := blk_cell B3.out 2
  have f0 := blk_frozen B3.out 0
  have f1 := blk_frozen B3.out 1
  have f2 := blk_frozen B3.out 2
  simp at c0 c1 c2
  have r8 : (x : Int).tmod 8 = ((x % 8 : Nat) : Int) := tmod_nat x 8
  clear H1 H2 H3 B0 B1 B2 K0 K1 K2
  rw [HX.out] at r8
  have r2 : (y : Int).tmod 2 = m0 := (tmod_nat y 2).trans EM.out
  obtain ⟨i0, hi0, hz0, hz1, hz2⟩ := info_parts' info3
  have hwlt : w.heap.size < w3.heap.size := (Array.getElem?_eq_some_iff.1 B3.out).1
  clear c0 c1 c2 f0 f1 f2
  go_wp2_with fail
  go_loopw [30] (fun i wr => ∃ k : Nat, k ≤ 8 ∧ i = .int .i64 k ∧ BitsAt w3.heap.size m0 z k w3 wr) (fun i _ => 8 - (intOf i).toNat)
  case atStart => exact ⟨0, by omega, rfl, .slice none 0 0, World.alloc_heap_new _ _, World.ownsRow_nil _ _ _ _, (Below.refl _ _).alloc (Nat.le_refl _) _⟩
  case round =>
    obtain ⟨k, hk8, rfl, lv, hC, hown, hbw⟩ := hrel
    obtain ⟨Wo, hWo⟩ : ∃ Wo, Wo = wr := ⟨_, rfl⟩
    subst hWo
    obtain ⟨ld, lcap, rfl⟩ := own_slice hown
    have hlen := bitsM_len z k
    have HC := Lib.hid hC
    have HO := Lib.hid hown
    have HBw := Lib.hid hbw
    have hsz : w3.heap.size < Wo.heap.size := (Array.getElem?_eq_some_iff.1 hC).1
    have d2 := blk_cell hC 2
    have g2 := blk_frozen hC 2
    simp at d2
    clear hC hown hbw
    by_cases hlt : k < 8
    · have hdiv : z / 2 ^ k < 256 := Nat.lt_of_le_of_lt (Nat.div_le_self _ _) (by omega)
      have hbit := i64_and1 (z / 2 ^ k) hdiv
      have Hsucc := Lib.hid (show bitsM z (k + 1) = bitsM z k ++ if z / 2 ^ k % 2 = 1 then [(k : Int)] else [] from rfl)
      have ediv : ((z / 2 ^ k : Nat) : Int) = (z : Int) / 2 ^ k := by push_cast; rfl
      rw [ediv] at hbit
      clear ediv hdiv
      generalize bitsM z k = L at *
      by_cases hb1 : z / 2 ^ k % 2 = 1
      · rw [hb1] at hbit
        rw [if_pos hb1] at Hsucc
        clear hb1
        have Hnews := Lib.hid (World.news_of_block (World.alloc_heap_new Wo (.cells #[.int .i64 (k : Nat)] 3)))
        have Hone := Lib.hid (show ∀ v ∈ [Value.int .i64 (k : Nat)], v.oneCell' = true by simp [Value.oneCell'])
        have Hl2 := Lib.hid (HO.out.alloc (.cells #[.int .i64 (k : Nat)] 3))
        go_wp2_with (at_builtin; refine wpList_append_lies _ rfl _ _ 27 rfl (w3.heap.size + 1) 3 i0 (.int .i64 0) 1 8 Tryd.underlying27 hi0 hz0 hz1 hz2 rfl (by decide) _ _ _ rfl Hl2.out _ 1 1 _ rfl rfl Hnews.out Hone.out (by omega) (by unfold maxLen; omega) (by omega) (by simp; omega) _ rfl ?_; intro g' cap' w1 hown' hgrow _ _; have HC1 := Lib.hid (blk_grown hgrow ((Below.heap_alloc _ _ _ hsz).trans HC.out) (fun e => by have := own_later HO.out _ e; omega)); have x2 := blk_cell HC1.out 2; have y2 := blk_frozen HC1.out 2; simp at x2)
        have HB1 := Lib.hid ((HBw.out.alloc (by omega) (.cells #[.int .i64 (k : Nat)] 3)).grown hgrow (by simp; omega) (fun j e => by have := own_later HO.out _ e; omega))
        have hs1 : w3.heap.size < w1.heap.size := (Array.getElem?_eq_some_iff.1 HC1.out).1
        go_roundw
        case rel =>
          refine ⟨k + 1, by omega, by go_num, _, (blk_set HC1.out 2 _).trans (by simp; rfl), ?_, HB1.out.setCell (Nat.le_refl _) _⟩
          rw [Hsucc.out, List.map_append, List.length_append]
          exact own_kept hown' (fun g hg => Below.heap_setCell _ _ _ _ (show g ≠ w3.heap.size by have := own_later hown' _ hg; omega))
        case measure => simp [intOf]; omega
      · have hb0 : z / 2 ^ k % 2 = 0 := by omega
        rw [hb0] at hbit
        rw [if_neg hb1, List.append_nil] at Hsucc
        clear hb1 hb0
        go_wp2_with fail
        go_roundw
        case rel => exact ⟨k + 1, by omega, by go_num, _, HC.out, by rw [Hsucc.out]; exact HO.out, HBw.out⟩
        case measure => simp [intOf]; omega
    · obtain rfl : k = 8 := by omega
      have d0 := blk_cell HC.out 0
      have d1 := blk_cell HC.out 1
      have B4 := Lib.hid ((HBw.out.block w.heap.size hwlt).trans B3.out)
      have c0 := blk_cell B4.out 0
      have c1 := blk_cell B4.out 1
      have c2 := blk_cell B4.out 2
      have f0 := blk_frozen B4.out 0
      have f1 := blk_frozen B4.out 1
      have f2 := blk_frozen B4.out 2
      simp at c0 c1 c2 d0 d1
      have K4 := Lib.hid (K3.out.trans (Kept.of HBw.out) (fun g hg h => absurd hg (by have := K3.out.size; omega)))
      go_wp2
      refine bodyPost_ret (by simp [results, Tryd.results25, go_sem, c0, c1, c2]; rfl) rfl ⟨⟨_, rfl, own_kept (own_weaken HO.out (by omega)) (fun g hg => ?_)⟩, (HR.out.kept ((((((Kept.of HBw.out).mono (Y := fun g => g = w.heap.size ∨ w3.heap.size ≤ g) (fun g _ h => .inr h)).setCell (fun _ => .inl rfl) _).setCell (fun _ => .inl rfl) _).setCell (fun _ => .inl rfl) _)) (by omega)), ?_⟩
      · have hne : g ≠ w.heap.size := by have := own_later HO.out _ hg; omega
        exact (Below.heap_setCell _ _ _ _ hne).trans ((Below.heap_setCell _ _ _ _ hne).trans (Below.heap_setCell _ _ _ _ hne))
      exact ((K4.out.setCell (p := ⟨w.heap.size, 0, none⟩) (fun h => absurd h (Nat.lt_irrefl _)) _).setCell (p := ⟨w.heap.size, 1, none⟩) (fun h => absurd h (Nat.lt_irrefl _)) _).setCell (p := ⟨w.heap.size, 2, none⟩) (fun h => absurd h (Nat.lt_irrefl _)) _
theorem rcall_any (R : Nat) (ns : List Nat) (p : Nat) (w : World) (h : RdAt w R ns p) :
    Calls Tryd.prog 25 #[.pointer (some ⟨R, 0, none⟩)] w fun e w' => CallDone w.heap.size (callM (bt ns p) (bt ns (p + 1)) (bt ns (p + 2))) e w' ∧ RdAt w' R ns (p + 3) ∧ Kept (fun g => g = R) w w' := by
  rcases (show bt ns p % 8 < 4 ∨ bt ns p % 8 = 4 ∨ bt ns p % 8 = 5 ∨ bt ns p % 8 = 6 ∨ bt ns p % 8 = 7 by omega) with hx | hx | hx | hx | hx
  · exact rcall_0 R ns p w h hx
  · exact rcall_4 R ns p w h hx
  · exact rcall_5 R ns p w h hx
  · exact rcall_6 R ns p w h hx
  · exact rcall_7 R ns p w h hx
end Go.Proofs.YtkdigojjeiidmaaDoor
