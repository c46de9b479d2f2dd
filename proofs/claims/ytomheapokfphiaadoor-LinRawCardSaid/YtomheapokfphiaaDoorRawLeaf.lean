/-
  The contracts of lin.over, lin.May, of slices.Index, Contains, Clone, of lin.ahead and lin.whole.
-/
import Derived.Test.YtomheapokfphiaaDoorRawMem
namespace Go.Proofs.YtomheapokfphiaaDoor
open Go Go.RowKit Go.Shelf

theorem over_any (p : Int) (w : World) : Calls Tryd.prog 48 #[.int .i64 p] w fun e w' => e = .returned (.bool (decide (1 ≤ p ∧ p ≤ 4096))) ∧ w = w' := by
  by_cases h1 : p < 1
  · rw [show decide (1 ≤ p ∧ p ≤ 4096) = false by simp; omega]
    go_enter Tryd.func48, Tryd.ntmps48
    go_wp2
    go_ret
    exact ⟨rfl, rfl⟩
  · by_cases h2 : p ≤ 4096
    · rw [show decide (1 ≤ p ∧ p ≤ 4096) = true by simp; omega]
      go_enter Tryd.func48, Tryd.ntmps48
      go_wp2
      go_ret
      exact ⟨rfl, rfl⟩
    · rw [show decide (1 ≤ p ∧ p ≤ 4096) = false by simp; omega]
      go_enter Tryd.func48, Tryd.ntmps48
      go_wp2
      go_ret
      exact ⟨rfl, rfl⟩

theorem new_below {w : World} (o : Obj) : Below w.heap.size w (w.alloc o) := (Below.refl _ w).alloc (Nat.le_refl _) _

set_option maxHeartbeats 1000000 in
theorem may1_any (o : OpP) (lv : Value) (w : World) : Calls Tryd.prog 53 #[opVal o lv] w fun e w' => e = .returned (.bool (badOp o)) ∧ Below w.heap.size w w' := by
  obtain ⟨kd, sz, at_, cd, L, b, e⟩ := o
  unfold opVal
  simp only []
  have HB := Lib.hid (new_below (w := w) (.cells #[.int .i64 kd, .int .i64 sz, .int .i64 at_, .int .i64 cd, lv, .int .i64 b, .int .i64 e] 50))
  by_cases h1 : b < 0
  · have hb : badOp ⟨kd, sz, at_, cd, L, b, e⟩ = true := by simp [badOp]; omega
    rw [hb]
    clear hb
    go_enter Tryd.func53, Tryd.ntmps53
    go_wp2
    go_ret
    exact ⟨rfl, HB.out⟩
  · by_cases h2 : 2147483648 < b
    · have hb : badOp ⟨kd, sz, at_, cd, L, b, e⟩ = true := by simp [badOp]; omega
      rw [hb]
      clear hb
      go_enter Tryd.func53, Tryd.ntmps53
      go_wp2
      go_ret
      exact ⟨rfl, HB.out⟩
    · by_cases h3 : e = -1
      · subst h3
        have hb : badOp ⟨kd, sz, at_, cd, L, b, -1⟩ = false := by simp [badOp]; omega
        rw [hb]
        clear hb
        go_enter Tryd.func53, Tryd.ntmps53
        go_wp2
        go_ret
        exact ⟨rfl, HB.out⟩
      · have h3' : (e != -1) = true := by simpa using h3
        by_cases h4 : e < b
        · have hb : badOp ⟨kd, sz, at_, cd, L, b, e⟩ = true := by simp [badOp]; omega
          rw [hb]
          clear hb
          go_enter Tryd.func53, Tryd.ntmps53
          go_wp2
          go_ret
          exact ⟨rfl, HB.out⟩
        · by_cases h5 : 2147483648 < e
          · have hb : badOp ⟨kd, sz, at_, cd, L, b, e⟩ = true := by simp [badOp]; omega
            rw [hb]
            clear hb
            go_enter Tryd.func53, Tryd.ntmps53
            go_wp2
            go_ret
            exact ⟨rfl, HB.out⟩
          · have hb : badOp ⟨kd, sz, at_, cd, L, b, e⟩ = false := by simp [badOp]; omega
            rw [hb]
            clear hb
            go_enter Tryd.func53, Tryd.ntmps53
            go_wp2
            go_ret
            exact ⟨rfl, HB.out⟩

theorem any_at {p : OpP → Bool} {l : List OpP} {k : Nat} (hk : k < l.length) (h : p (opAt l k) = true) : l.any p = true := by
  rw [List.any_eq_true]
  exact ⟨opAt l k, List.mem_of_getElem? (opAt_get hk), h⟩
theorem any_none {p : OpP → Bool} {l : List OpP} (h : ∀ j, j < l.length → p (opAt l j) = false) : l.any p = false := by
  rw [List.any_eq_false]
  intro o ho
  obtain ⟨j, hj, e⟩ := List.getElem_of_mem ho
  have := h j hj
  unfold opAt at this
  rw [List.getD_eq_getElem?_getD, List.getElem?_eq_getElem hj, Option.getD_some, e] at this
  rw [this]; exact Bool.false_ne_true

set_option maxHeartbeats 1000000 in
theorem findMay_any (l : List OpP) (hlen : l.length ≤ 1048576) (v : Value) (w : World) (h : OpsAt w v l) :
    Calls Tryd.prog 64 #[v, .func (.func 53) #[] #[]] w fun e w' => (∃ i : Int, e = .returned (.int .i64 i) ∧ (decide (0 ≤ i) = l.any badOp) ∧ -1 ≤ i) ∧ Below w.heap.size w w' := by
  have HH := Lib.hid h
  have H1 := Lib.hid (fun (o : OpP) (lv : Value) (W : World) => may1_any o lv W)
  obtain ⟨ad, cap, rfl, _⟩ := h
  go_enter Tryd.func64, Tryd.ntmps64
  go_wp2_with fail
  go_loopw [8] (fun i wr => ∃ k : Nat, k ≤ l.length ∧ i = .int .i64 k ∧ (∀ j, j < k → badOp (opAt l j) = false) ∧ Below w.heap.size w wr) (fun i _ => l.length - (intOf i).toNat)
  case atStart => exact ⟨0, Nat.zero_le _, rfl, fun j hj => absurd hj (Nat.not_lt_zero j), Below.refl _ _⟩
  case round =>
    obtain ⟨k, hk, rfl, hno, hbw⟩ := hrel
    have Hno := Lib.hid hno
    have Hbw := Lib.hid hbw
    by_cases hlt : k < l.length
    · obtain ⟨g, go, cap', lv, hv, hg, _, hc⟩ := opsAt_cell (HH.out.kept (CellsKept.of hbw)) hlt
      obtain ⟨rfl, rfl⟩ : ad = some ⟨g, go, none⟩ ∧ cap = cap' := by injection hv with h1 h2 h3; exact ⟨h1, h3⟩
      obtain ⟨c0, c1, c2, c3, c4, c5, c6⟩ := hc
      have h1 := H1.out (opAt l k) lv wr
      unfold opVal at h1
      have Hat := Lib.hid (fun hb => any_at (p := badOp) hlt hb)
      obtain ⟨b, eb⟩ : ∃ b, badOp (opAt l k) = b := ⟨_, rfl⟩
      rw [eb] at h1
      have Eb := Lib.hid eb
      have h1' := Lib.hid h1
      have hkI : (k : Int) < l.length := by omega
      clear h1 hno hbw eb hv
      cases b with
      | true =>
        go_wp2_with fail
        refine h1'.out.mono ?_
        rintro e w1 ⟨rfl, hb1⟩
        have Hb1 := Lib.hid hb1
        clear hb1
        go_wp2
        go_ret
        exact ⟨⟨_, rfl, by rw [Hat.out Eb.out]; simp, by omega⟩, Hbw.out.trans (Hb1.out.mono Hbw.out.size)⟩
      | false =>
        go_wp2_with fail
        refine h1'.out.mono ?_
        rintro e w1 ⟨rfl, hb1⟩
        have Hb1 := Lib.hid hb1
        clear hb1
        go_wp2
        go_roundw
        case rel => exact ⟨k + 1, hlt, by go_num, fun j hj => by
          rcases Nat.lt_or_ge j k with h | h
          · exact Hno.out j h
          · obtain rfl : j = k := by omega
            exact Eb.out, Hbw.out.trans (Hb1.out.mono Hbw.out.size)⟩
        case measure => simp [intOf]; omega
    · obtain rfl : k = l.length := by omega
      clear hno hbw
      go_wp2
      go_ret
      exact ⟨⟨-1, rfl, by rw [any_none Hno.out]; simp, by omega⟩, Hbw.out⟩

theorem anyMay_any (l : List OpP) (hlen : l.length ≤ 1048576) (v : Value) (w : World) (h : OpsAt w v l) :
    Calls Tryd.prog 52 #[v, .func (.func 53) #[] #[]] w fun e w' => e = .returned (.bool (l.any badOp)) ∧ Below w.heap.size w w' := by
  have H := Lib.hid (findMay_any l hlen v w h)
  clear h
  go_enter Tryd.func52, Tryd.ntmps52
  go_wp2_with fail
  refine H.out.mono ?_
  rintro e w1 ⟨⟨i, rfl, hi, hi0⟩, hb1⟩
  have Hi := Lib.hid hi
  have Hb1 := Lib.hid hb1
  clear hi hb1
  go_wp2
  go_ret
  exact ⟨by rw [← Hi.out]; rfl, Hb1.out⟩

theorem may_any (l : List OpP) (hlen : l.length ≤ 1048576) (v : Value) (w : World) (h : OpsAt w v l) :
    Calls Tryd.prog 38 #[v] w fun e w' => e = .returned (.bool (mayL l)) ∧ Below w.heap.size w w' := by
  have H := Lib.hid (anyMay_any l hlen v w h)
  clear h
  go_enter Tryd.func38, Tryd.ntmps38
  go_wp2_with fail
  refine H.out.mono ?_
  rintro e w1 ⟨rfl, hb1⟩
  have Hb1 := Lib.hid hb1
  clear hb1
  go_wp2
  go_ret
  exact ⟨rfl, Hb1.out⟩

/-- Where a number stands first; -1: nowhere. -/
def IndexV (L : List Int) (x : Int) (i : Int) : Prop := (∃ k : Nat, i = k ∧ k < L.length ∧ L.getD k 0 = x ∧ ∀ j, j < k → L.getD j 0 ≠ x) ∨ (i = -1 ∧ ∀ j, j < L.length → L.getD j 0 ≠ x)
theorem indexV_contains {L : List Int} {x i : Int} (h : IndexV L x i) : decide (0 ≤ i) = L.contains x := by
  rcases h with ⟨k, rfl, hk, he, _⟩ | ⟨rfl, hn⟩
  · have : x ∈ L := by
      have := List.mem_of_getElem? (getD_get hk)
      rw [he] at this; exact this
    simp [this]
  · have : x ∉ L := fun hm => by
      obtain ⟨j, hj, e⟩ := List.getElem_of_mem hm
      apply hn j hj
      rw [List.getD_eq_getElem?_getD, List.getElem?_eq_getElem hj, Option.getD_some, e]
    simp [this]

set_option maxHeartbeats 1000000 in
theorem index_any (L : List Int) (hlen : L.length ≤ 1048576) (x : Int) (v : Value) (w : World) (h : IntsAt w v L) :
    Calls Tryd.prog 65 #[v, .int .i64 x] w fun e w' => (∃ i : Int, e = .returned (.int .i64 i) ∧ IndexV L x i) ∧ w = w' := by
  have HH := Lib.hid h
  obtain ⟨ad, cap, rfl, _⟩ := h
  go_enter Tryd.func65, Tryd.ntmps65
  go_wp2_with fail
  go_loopw [8] (fun i wr => ∃ k : Nat, k ≤ L.length ∧ i = .int .i64 k ∧ (∀ j, j < k → L.getD j 0 ≠ x) ∧ wr = w) (fun i _ => L.length - (intOf i).toNat)
  case atStart => exact ⟨0, Nat.zero_le _, rfl, fun j hj => absurd hj (Nat.not_lt_zero j), rfl⟩
  case round =>
    obtain ⟨k, hk, rfl, hno, ewr⟩ := hrel
    have ewr' := ewr.symm
    subst ewr'
    clear ewr
    have Hno := Lib.hid hno
    by_cases hlt : k < L.length
    · obtain ⟨g, go, cap', hv, hg, c0⟩ := intsAt_cell HH.out hlt
      obtain ⟨rfl, rfl⟩ : ad = some ⟨g, go, none⟩ ∧ cap = cap' := by injection hv with h1 h2 h3; exact ⟨h1, h3⟩
      obtain ⟨y, ey⟩ : ∃ y, L.getD k 0 = y := ⟨_, rfl⟩
      rw [ey] at c0
      have Ey := Lib.hid ey
      have hkI : (k : Int) < L.length := by omega
      clear hno ey hv
      by_cases he : x = y
      · subst he
        go_wp2
        go_ret
        exact ⟨⟨_, rfl, .inl ⟨k, rfl, hlt, Ey.out, Hno.out⟩⟩, rfl⟩
      · go_wp2
        go_roundw
        case rel => exact ⟨k + 1, hlt, by go_num, fun j hj => by
          rcases Nat.lt_or_ge j k with h | h
          · exact Hno.out j h
          · obtain rfl : j = k := by omega
            rw [Ey.out]
            exact fun e => he e.symm, trivial⟩
        case measure => simp [intOf]; omega
    · obtain rfl : k = L.length := by omega
      clear hno
      go_wp2
      go_ret
      exact ⟨⟨-1, rfl, .inr ⟨rfl, Hno.out⟩⟩, rfl⟩

theorem contains_any (L : List Int) (hlen : L.length ≤ 1048576) (x : Int) (v : Value) (w : World) (h : IntsAt w v L) :
    Calls Tryd.prog 54 #[v, .int .i64 x] w fun e w' => e = .returned (.bool (L.contains x)) ∧ w = w' := by
  have H := Lib.hid (index_any L hlen x v w h)
  clear h
  go_enter Tryd.func54, Tryd.ntmps54
  go_wp2_with fail
  refine H.out.mono ?_
  rintro e w1 ⟨⟨i, rfl, hi⟩, rfl⟩
  have Hi := Lib.hid (indexV_contains hi)
  clear hi
  go_wp2
  go_ret
  exact ⟨by rw [← Hi.out]; rfl, rfl⟩

theorem eql41 (w : World) (a : Option Addr) (n c : Nat) : (binOp .eql 41 (.slice a n c) (.slice none 0 0)).run Tryd.prog w = .ok (.bool a.isNone) w := Lib.run_eql_slice_nil w 41 3 a n c 0 0 Tryd.underlying41
attribute [local go_sem] eql41
theorem lInfo3 : (Tryd.prog.info? 3).map (fun i => (i.zero, i.size, i.bytes)) = some (some (.int .i64 0), 1, 8) := by kernel_rfl
theorem lOwn0 (w : World) : (w.alloc (.cells #[] 3)).ownsRow w.heap.size 3 1 (.slice (some ⟨w.heap.size, 0, none⟩) 0 0) 0 [] :=
  World.ownsRow_lit w #[] 0 (Nat.le_refl _) (by decide) rfl
theorem addc (g c j : Nat) : (⟨g, c, none⟩ : Addr).add j = ⟨g, c + j, none⟩ := by
  unfold Addr.add
  split
  · simp [*]
  · rfl
theorem add0 (g j : Nat) : (⟨g, 0, none⟩ : Addr).add j = ⟨g, j, none⟩ := by
  unfold Addr.add
  by_cases h : j = 0
  · subst h; simp
  · simp [h]
theorem info_parts' {t : TypeId} {z : Value} {s b : Nat} (h : (Tryd.prog.info? t).map (fun i => (i.zero, i.size, i.bytes)) = some (some z, s, b)) : ∃ i, Tryd.prog.info? t = some i ∧ i.zero = some z ∧ i.size = s ∧ i.bytes = b := by
  obtain ⟨i, hi, he⟩ := Option.map_eq_some_iff.1 h
  injection he with h1 h2
  injection h2 with h2 h3
  exact ⟨i, hi, h1, h2, h3⟩

set_option maxHeartbeats 1000000 in
theorem clone_any (L : List Int) (hlen : L.length ≤ 1048576) (v : Value) (w : World) (h : IntsAt w v L) :
    Calls Tryd.prog 71 #[v] w fun e w' => (∃ u, e = .returned u ∧ w'.ownsRow w.heap.size 3 1 u L.length (L.map iV)) ∧ Below w.heap.size w w' := by
  obtain ⟨i0, hi, hz0, hz1, hz2⟩ := info_parts' lInfo3
  obtain ⟨ad, cap, rfl, hc⟩ := h
  cases ad with
  | none =>
    obtain rfl : L = [] := by
      rcases hc with h | ⟨g, c, h, _⟩
      · exact h
      · cases h
    go_enter Tryd.func71, Tryd.ntmps71
    go_wp2
    go_ret
    exact ⟨⟨_, rfl, World.ownsRow_nil _ _ _ _⟩, Below.refl _ _⟩
  | some x =>
    have hnews : ∀ j u, (L.map iV)[j]? = some u → (w.alloc (.cells #[] 3)).cell? (x.add j) = some u := fun j u hu => by
      rcases hc with rfl | ⟨g, c, hx, hg, hcell, _⟩
      · simp at hu
      · cases hx
        rw [List.getElem?_map] at hu
        obtain ⟨y, hy, rfl⟩ := Option.map_eq_some_iff.1 hu
        have := hcell j y hy
        rw [addc, (((Below.refl w.heap.size w).alloc (Nat.le_refl _) (.cells #[] 3))).cell (p := ⟨g, c + j, none⟩) hg]
        exact this
    have hone : ∀ u ∈ L.map iV, u.oneCell' = true := fun u hu => by
      obtain ⟨y, _, rfl⟩ := List.mem_map.1 hu
      rfl
    obtain ⟨n, hl⟩ : ∃ n, L.length = n := ⟨_, rfl⟩
    rw [hl] at hlen ⊢
    have Hnews := Lib.hid hnews
    have Hone := Lib.hid hone
    clear hnews hone hc
    go_enter Tryd.func71, Tryd.ntmps71
    go_wp2_with (at_builtin; refine wpList_append_own_at _ rfl _ _ 41 rfl w.heap.size 3 i0 (.int .i64 0) 1 8 Tryd.underlying41 hi hz0 hz1 hz2 rfl (by decide) _ 0 [] rfl (lOwn0 w) x _ _ (L.map iV) rfl (by simp [hl]) Hnews.out Hone.out (by unfold maxLen; omega) (by omega) (by simp) ?_; intro v' w1 hown' hgrow _ hat)
    go_ret
    exact ⟨⟨_, rfl, by simpa [hl] using hown'⟩, (new_below _).grown hgrow (by simp) (fun k e => by have e' : some w.heap.size = some k := e; injection e' with e'; omega)⟩

set_option maxHeartbeats 1000000 in
theorem ahead1_any (l : List OpP) (i k : Nat) (hi : i < l.length) (hk : k < l.length) (v : Value) (B C : Nat) (w : World) (h : OpsAt w v l) (hB : w.cell? ⟨B, 0, none⟩ = some v) (hC : w.cell? ⟨C, 0, none⟩ = some (.int .i64 i)) :
    Calls Tryd.prog 67 #[.int .i64 k, .pointer (some ⟨B, 0, none⟩), .pointer (some ⟨C, 0, none⟩)] w fun e w' => e = .returned (.bool (decide ((opAt l i).e < (opAt l k).b))) ∧ Below w.heap.size w w' := by
  obtain ⟨g, go, cap, lv, rfl, hg, _, hc⟩ := opsAt_cell h hi
  obtain ⟨g', g'o, cap', lv', hv, hg', _, hc'⟩ := opsAt_cell h hk
  obtain ⟨rfl, rfl, rfl⟩ : g = g' ∧ go = g'o ∧ cap = cap' := by injection hv with h1 h2 h3; injection h1 with h1; injection h1 with h1 h4; exact ⟨h1, h4, h3⟩
  have c6 := hc.2.2.2.2.2.2
  have c5 := hc'.2.2.2.2.2.1
  obtain ⟨x, ex⟩ : ∃ x, (opAt l i).e = x := ⟨_, rfl⟩
  obtain ⟨y, ey⟩ : ∃ y, (opAt l k).b = y := ⟨_, rfl⟩
  rw [ex] at c6 ⊢
  rw [ey] at c5 ⊢
  have hiI : (i : Int) < l.length := by omega
  have hkI : (k : Int) < l.length := by omega
  clear hc hc' h hv ex ey
  go_enter Tryd.func67, Tryd.ntmps67
  go_wp2_with fail
  go_quiet (fail)
  go_wp2
  go_ret
  refine ⟨rfl, ?_⟩
  exact ⟨rfl, rfl, rfl, Nat.le_refl _, fun _ _ => rfl⟩

theorem any_atI {p : Int → Bool} {L : List Int} {k : Nat} (hk : k < L.length) (h : p (L.getD k 0) = true) : L.any p = true := by
  rw [List.any_eq_true]
  exact ⟨L.getD k 0, List.mem_of_getElem? (getD_get hk), h⟩
theorem any_noneI {p : Int → Bool} {L : List Int} (h : ∀ j, j < L.length → p (L.getD j 0) = false) : L.any p = false := by
  rw [List.any_eq_false]
  intro o ho
  obtain ⟨j, hj, e⟩ := List.getElem_of_mem ho
  have := h j hj
  rw [List.getD_eq_getElem?_getD, List.getElem?_eq_getElem hj, Option.getD_some, e] at this
  rw [this]; exact Bool.false_ne_true

/-- The numbers of an order are places in the history. -/
def InL (l : List OpP) (L : List Int) : Prop := ∀ x ∈ L, 0 ≤ x ∧ x < l.length

set_option maxHeartbeats 1000000 in
theorem findAhead_any (l : List OpP) (_ : l.length ≤ 1048576) (i : Nat) (hi : i < l.length) (L : List Int) (hL : InL l L) (hlL : L.length ≤ 1048576) (v ov : Value) (B C : Nat) (w : World) (h : OpsAt w v l) (ho : IntsAt w ov L)
    (hB : w.cell? ⟨B, 0, none⟩ = some v) (hC : w.cell? ⟨C, 0, none⟩ = some (.int .i64 i)) :
    Calls Tryd.prog 72 #[ov, .func (.func 67) #[] #[.pointer (some ⟨B, 0, none⟩), .pointer (some ⟨C, 0, none⟩)]] w fun e w' => (∃ r : Int, e = .returned (.int .i64 r) ∧ decide (0 ≤ r) = L.any fun k => decide ((opAt l i).e < (opAt l k.toNat).b)) ∧ Below w.heap.size w w' := by
  have HH := Lib.hid ho
  have H1 := Lib.hid (fun (k : Nat) (hk : k < l.length) (W : World) (hb : CellsKept w W) => ahead1_any l i k hi hk v B C W (h.kept hb) (hb.cell hB) (hb.cell hC))
  have HL := Lib.hid hL
  obtain ⟨ad, cap, rfl, _⟩ := ho
  clear h hB hC hL hi
  go_enter Tryd.func72, Tryd.ntmps72
  go_wp2_with fail
  go_loopw [8] (fun s wr => ∃ k : Nat, k ≤ L.length ∧ s = .int .i64 k ∧ (∀ j, j < k → decide ((opAt l i).e < (opAt l (L.getD j 0).toNat).b) = false) ∧ Below w.heap.size w wr) (fun s _ => L.length - (intOf s).toNat)
  case atStart => exact ⟨0, Nat.zero_le _, rfl, fun j hj => absurd hj (Nat.not_lt_zero j), Below.refl _ _⟩
  case round =>
    obtain ⟨k, hk, rfl, hno, hbw⟩ := hrel
    have Hno := Lib.hid hno
    have Hbw := Lib.hid hbw
    by_cases hlt : k < L.length
    · obtain ⟨g, go, cap', hv, hg, c0⟩ := intsAt_cell (HH.out.kept (CellsKept.of hbw)) hlt
      obtain ⟨rfl, rfl⟩ : ad = some ⟨g, go, none⟩ ∧ cap = cap' := by injection hv with h1 h2 h3; exact ⟨h1, h3⟩
      have hin := HL.out _ (List.mem_of_getElem? (getD_get hlt))
      obtain ⟨n, hn⟩ := Int.eq_ofNat_of_zero_le hin.1
      have Hat := Lib.hid (fun hb => any_atI (p := fun k => decide ((opAt l i).e < (opAt l k.toNat).b)) hlt hb)
      have h1 := H1.out n (by omega) wr (CellsKept.of hbw)
      rw [hn] at c0
      have hni : L.getD k 0 = (n : Int) := hn
      obtain ⟨b, eb⟩ : ∃ b, decide ((opAt l i).e < (opAt l n).b) = b := ⟨_, rfl⟩
      rw [eb] at h1
      have h1' := Lib.hid h1
      have Eb := Lib.hid (show decide ((opAt l i).e < (opAt l (L.getD k 0).toNat).b) = b by rw [hni]; exact eb)
      have hkI : (k : Int) < L.length := by omega
      clear h1 hno hbw eb hv hn hni hin
      cases b with
      | true =>
        go_wp2_with fail
        refine h1'.out.mono ?_
        rintro e w1 ⟨rfl, hb1⟩
        have Hb1 := Lib.hid hb1
        clear hb1
        go_wp2
        go_ret
        exact ⟨⟨_, rfl, by rw [Hat.out Eb.out]; simp⟩, Hbw.out.trans (Hb1.out.mono Hbw.out.size)⟩
      | false =>
        go_wp2_with fail
        refine h1'.out.mono ?_
        rintro e w1 ⟨rfl, hb1⟩
        have Hb1 := Lib.hid hb1
        clear hb1
        go_wp2
        go_roundw
        case rel => exact ⟨k + 1, hlt, by go_num, fun j hj => by
          rcases Nat.lt_or_ge j k with h | h
          · exact Hno.out j h
          · obtain rfl : j = k := by omega
            exact Eb.out, Hbw.out.trans (Hb1.out.mono Hbw.out.size)⟩
        case measure => simp [intOf]; omega
    · obtain rfl : k = L.length := by omega
      clear hno hbw
      go_wp2
      go_ret
      exact ⟨⟨-1, rfl, by rw [any_noneI Hno.out]; simp⟩, Hbw.out⟩

theorem anyAhead_any (l : List OpP) (hlen : l.length ≤ 1048576) (i : Nat) (hi : i < l.length) (L : List Int) (hL : InL l L) (hlL : L.length ≤ 1048576) (v ov : Value) (B C : Nat) (w : World) (h : OpsAt w v l) (ho : IntsAt w ov L)
    (hB : w.cell? ⟨B, 0, none⟩ = some v) (hC : w.cell? ⟨C, 0, none⟩ = some (.int .i64 i)) :
    Calls Tryd.prog 66 #[ov, .func (.func 67) #[] #[.pointer (some ⟨B, 0, none⟩), .pointer (some ⟨C, 0, none⟩)]] w fun e w' => e = .returned (.bool (L.any fun k => decide ((opAt l i).e < (opAt l k.toNat).b))) ∧ Below w.heap.size w w' := by
  have H := Lib.hid (findAhead_any l hlen i hi L hL hlL v ov B C w h ho hB hC)
  clear h ho hB hC
  go_enter Tryd.func66, Tryd.ntmps66
  go_wp2_with fail
  refine H.out.mono ?_
  rintro e w1 ⟨⟨r, rfl, hr⟩, hb1⟩
  have Hr := Lib.hid hr
  have Hb1 := Lib.hid hb1
  clear hr hb1
  go_wp2
  go_ret
  exact ⟨by rw [← Hr.out]; rfl, Hb1.out⟩

set_option maxHeartbeats 1000000 in
theorem ahead_any (l : List OpP) (hlen : l.length ≤ 1048576) (i : Nat) (hi : i < l.length) (L : List Int) (hL : InL l L) (hlL : L.length ≤ 1048576) (v ov : Value) (w : World) (h : OpsAt w v l) (ho : IntsAt w ov L) :
    Calls Tryd.prog 55 #[v, ov, .int .i64 i] w fun e w' => e = .returned (.bool (aheadM l L i)) ∧ Below w.heap.size w w' := by
  have HB := Lib.hid (((Below.refl _ w).alloc (Nat.le_refl _) (.cells #[v] 39)).alloc (by simp) (.cells #[.int .i64 i] 3))
  have H := Lib.hid (fun B C W (hb : CellsKept w W) => anyAhead_any l hlen i hi L hL hlL v ov B C W (h.kept hb) (ho.kept hb))
  obtain ⟨g, go, cap, lv, rfl, hg, _, hc⟩ := opsAt_cell h hi
  have c6 := hc.2.2.2.2.2.2
  have c6' := (CellsKept.of HB.out).cell c6
  unfold aheadM
  obtain ⟨r, er⟩ : ∃ r, (L.any fun k => decide ((opAt l i).e < (opAt l k.toNat).b)) = r := ⟨_, rfl⟩
  simp only [er] at H ⊢
  obtain ⟨x, ex⟩ : ∃ x, (opAt l i).e = x := ⟨_, rfl⟩
  rw [ex] at c6' ⊢
  have hiI : (i : Int) < l.length := by omega
  clear hc h ho er ex c6 hL
  by_cases hx : x = -1
  · subst hx
    go_enter Tryd.func55, Tryd.ntmps55
    go_wp2_with fail
    go_ret
    exact ⟨rfl, HB.out⟩
  · have hx' : (x != -1) = true := by simpa using hx
    rw [show decide (x ≠ -1) = true by simpa using hx, Bool.true_and]
    go_enter Tryd.func55, Tryd.ntmps55
    go_wp2_with fail
    refine (H.out _ _ _ (CellsKept.of HB.out) (by simp) (by simp)).mono ?_
    rintro e w1 ⟨rfl, hb1⟩
    have Hb1 := Lib.hid (HB.out.trans (hb1.mono HB.out.size))
    clear hb1
    go_wp2
    go_ret
    exact ⟨rfl, Hb1.out⟩

theorem all_at {p : Nat → Bool} {n : Nat} (h : ∀ i, i < n → p i = true) : (List.range n).all p = true := by
  rw [List.all_eq_true]
  intro i hi
  exact h i (List.mem_range.1 hi)
theorem all_not {p : Nat → Bool} {n i : Nat} (hi : i < n) (h : p i = false) : (List.range n).all p = false := by
  rw [List.all_eq_false]
  exact ⟨i, List.mem_range.2 hi, by rw [h]; exact Bool.false_ne_true⟩

set_option maxHeartbeats 1000000 in
theorem whole_any (l : List OpP) (hlen : l.length ≤ 1048576) (L : List Int) (hlL : L.length ≤ 1048576) (v ov : Value) (w : World) (h : OpsAt w v l) (ho : IntsAt w ov L) :
    Calls Tryd.prog 50 #[v, ov] w fun e w' => e = .returned (.bool (wholeM l L)) ∧ Below w.heap.size w w' := by
  have HH := Lib.hid h
  have HC := Lib.hid (fun x W (hb : CellsKept w W) => contains_any L hlL x ov W (ho.kept hb))
  obtain ⟨ad, cap, rfl, _⟩ := h
  clear ho
  go_enter Tryd.func50, Tryd.ntmps50
  go_wp2_with fail
  go_loopw [9] (fun i wr => ∃ k : Nat, k ≤ l.length ∧ i = .int .i64 k ∧ (∀ j : Nat, j < k → (decide ((opAt l j).e = -1) || L.contains (j : Int)) = true) ∧ Below w.heap.size w wr) (fun i _ => l.length - (intOf i).toNat)
  case atStart => exact ⟨0, Nat.zero_le _, rfl, fun j hj => absurd hj (Nat.not_lt_zero j), Below.refl _ _⟩
  case round =>
    obtain ⟨k, hk, rfl, hno, hbw⟩ := hrel
    have Hno := Lib.hid hno
    have Hbw := Lib.hid hbw
    by_cases hlt : k < l.length
    · obtain ⟨g, go, cap', lv, hv, hg, hlv, hc⟩ := opsAt_cell (HH.out.kept (CellsKept.of hbw)) hlt
      obtain ⟨ld, lcap, rfl, _⟩ := hlv
      obtain ⟨rfl, rfl⟩ : ad = some ⟨g, go, none⟩ ∧ cap = cap' := by injection hv with h1 h2 h3; exact ⟨h1, h3⟩
      obtain ⟨c0, c1, c2, c3, c4, c5, c6⟩ := hc
      have HB1 := Lib.hid (hbw.alloc hbw.size (.cells #[.int .i64 (opAt l k).kind, .int .i64 (opAt l k).size, .int .i64 (opAt l k).at_, .int .i64 (opAt l k).code, .slice ld (opAt l k).L.length lcap, .int .i64 (opAt l k).b, .int .i64 (opAt l k).e] 50))
      have h1 := HC.out (k : Int) _ (CellsKept.of HB1.out)
      obtain ⟨b, eb⟩ : ∃ b, L.contains (k : Int) = b := ⟨_, rfl⟩
      rw [eb] at h1
      have Eb := Lib.hid eb
      obtain ⟨y, ey⟩ : ∃ y, (opAt l k).e = y := ⟨_, rfl⟩
      have Ey := Lib.hid ey
      rw [ey] at c6 h1 HB1
      have H1 := Lib.hid h1
      have hkI : (k : Int) < l.length := by omega
      clear h1 hno hbw eb hv ey
      by_cases hy : y = -1
      · subst hy
        go_wp2_with fail
        go_roundw
        case rel => exact ⟨k + 1, hlt, by go_num, fun j hj => by
          rcases Nat.lt_or_ge j k with h | h
          · exact Hno.out j h
          · obtain rfl : j = k := by omega
            simp [Ey.out], HB1.out⟩
        case measure => simp [intOf]; omega
      · have hy' : (y != -1) = true := by simpa using hy
        cases b with
        | true =>
          go_wp2_with fail
          refine H1.out.mono ?_
          rintro e w1 ⟨rfl, rfl⟩
          go_wp2
          go_roundw
          case rel => exact ⟨k + 1, hlt, by go_num, fun j hj => by
            rcases Nat.lt_or_ge j k with h | h
            · exact Hno.out j h
            · obtain rfl : j = k := by omega
              rw [Eb.out, Bool.or_true], HB1.out⟩
          case measure => simp [intOf]; omega
        | false =>
          go_wp2_with fail
          refine H1.out.mono ?_
          rintro e w1 ⟨rfl, rfl⟩
          go_wp2
          go_ret
          refine ⟨?_, HB1.out⟩
          rw [show wholeM l L = false from all_not hlt (by rw [Eb.out, Bool.or_false]; simpa [Ey.out] using hy)]
          rfl
    · obtain rfl : k = l.length := by omega
      clear hno hbw
      go_wp2
      go_ret
      refine ⟨?_, Hbw.out⟩
      rw [show wholeM l L = true from all_at Hno.out]
      rfl
end Go.Proofs.YtomheapokfphiaaDoor
