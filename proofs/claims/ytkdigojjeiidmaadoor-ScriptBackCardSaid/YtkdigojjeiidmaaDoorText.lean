/-
  The contract of Text.
-/
import Derived.Test.YtkdigojjeiidmaaDoorMay
import Derived.Test.YtkdigojjeiidmaaDoorItoa
import Derived.Lib.ItoaLen
import Derived.Lib.SmallJoins
namespace Go.Proofs.YtkdigojjeiidmaaDoor
open Go Go.RowKit Go.Shelf

def i64ok (n : Int) : Prop := -9223372036854775808 ≤ n ∧ n ≤ 9223372036854775807
/-- The list of powers of ten lies as the program's text lays it. -/
def Pow (w : World) : Prop := Lib.TabIs Tryd.prog w "internal/strconv.uint64pow10" .u64 Lib.pow10Tab
theorem gPow : Tryd.prog.globalNamed "internal/strconv.uint64pow10" = some 2 := by kernel_rfl
theorem Pow.below {w w' : World} (h : Pow w) (hb : Below w.heap.size w w') : Pow w' := Joins.tab_stays gPow h hb (Nat.le_refl _)
theorem grow_below (w : World) (k : Nat) (os : Array Obj) : Below w.heap.size w (Sort.grow (w.drewN k) os) := by
  refine ⟨rfl, rfl, rfl, by simp [Sort.grow, World.drewN], fun g hg => ?_⟩
  show (w.heap ++ os)[g]? = _
  rw [Array.getElem?_append_left hg]
theorem itoa_any (n : Int) (h : i64ok n) (w : World) (ht : Pow w) : Calls Tryd.prog 30 #[.int .i64 n] w fun e w' => e = .returned (.string ⟨(Lib.itoa n).toArray⟩) ∧ Below w.heap.size w w' :=
  (Tryd.strconv_Itoa n h.1 h.2 w ht).mono fun _ _ ⟨he, k, os, hw⟩ => ⟨he, by rw [hw]; exact grow_below w k os⟩

def namesT (L : List Int) : List UInt8 := L.flatMap fun n => 32 :: Lib.itoa n
def allocS : List UInt8 := [97, 108, 108, 111, 99, 32]
def flushS : List UInt8 := [102, 108, 117, 115, 104]
def sweepS : List UInt8 := [115, 119, 101, 101, 112, 32]
def releaseS : List UInt8 := [114, 101, 108, 101, 97, 115, 101, 32]
def keepS : List UInt8 := [107, 101, 101, 112]
def dropS : List UInt8 := [100, 114, 111, 112]
def wordsM (o : CallP) : List UInt8 :=
  if o.kind = 1 then allocS ++ Lib.itoa o.a
  else if o.kind = 2 then flushS
  else if o.kind = 3 then sweepS ++ Lib.itoa o.a
  else if o.kind = 5 then releaseS ++ Lib.itoa o.a
  else (if o.a = 1 then dropS else keepS) ++ namesT o.L
def textM (o : CallP) : List UInt8 := if mayM o = true then wordsM o else []
theorem namesT_len {L : List Int} (h : ∀ n ∈ L, i64ok n) : (namesT L).length ≤ 22 * L.length := by
  induction L with
  | nil => simp [namesT]
  | cons a L ih =>
    have h1 := ih (fun n hn => h n (List.mem_cons_of_mem _ hn))
    have h2 := Lib.itoa_length_le a (h a List.mem_cons_self).1 (h a List.mem_cons_self).2
    unfold namesT at *
    simp only [List.flatMap_cons, List.length_append, List.length_cons]
    omega
theorem namesT_snoc {L : List Int} {k : Nat} (h : k < L.length) : namesT (L.take (k + 1)) = namesT (L.take k) ++ 32 :: Lib.itoa (L.getD k 0) := by
  unfold namesT
  rw [List.take_succ_eq_append_getElem h, List.flatMap_append]
  have : L.getD k 0 = L[k] := by rw [List.getD_eq_getElem?_getD, List.getElem?_eq_getElem h]; rfl
  rw [this]
  simp
theorem may_kind {k a : Int} {L : List Int} (h : mayM ⟨k, a, L⟩ = true) (h1 : k ≠ 1) (h2 : k ≠ 2) (h3 : k ≠ 3) (h5 : k ≠ 5) : k = 4 := by
  unfold mayM at h
  dsimp only at h
  by_cases h4 : k = 4
  · exact h4
  · rw [if_neg h4] at h
    split at h
    · cases h
    · rw [if_neg (by omega : ¬ (k = 3 ∨ k = 5))] at h
      cases h
theorem may_len {a : Int} {L : List Int} (h : mayM ⟨4, a, L⟩ = true) : L.length ≤ 8 := by
  unfold mayM at h
  rw [if_pos rfl] at h
  simp at h
  exact h.2.2
theorem str_add (x y : List UInt8) : (ByteArray.mk x.toArray ++ ByteArray.mk y.toArray) = ByteArray.mk (x ++ y).toArray := ByteArray.mk_append_mk x y

theorem ret_str {a b : ByteArray} (h : a = b) : Ending.returned (.string a) = .returned (.string b) := by rw [h]

set_option maxRecDepth 8000 in
set_option maxHeartbeats 3200000 in
theorem text_any (o : CallP) (lv : Value) (w : World) (h : IntsAt w lv o.L) (hl : o.L.length ≤ 9223372036854775807) (ha : i64ok o.a) (hL : ∀ n ∈ o.L, i64ok n) (ht : Pow w) :
    Calls Tryd.prog 16 #[callV o lv] w fun e w' => e = .returned (.string ⟨(textM o).toArray⟩) ∧ Below w.heap.size w w' := by
  obtain ⟨ad, cap, rfl⟩ : ∃ ad cap, lv = .slice ad o.L.length cap := by obtain ⟨ad, cap, rfl, _⟩ := h; exact ⟨ad, cap, rfl⟩
  have hK := new_below (w := w) (.cells #[.int .i64 o.kind, .int .i64 o.a, .slice ad o.L.length cap] 36)
  have h' := h.kept (CellsKept.of hK)
  have HM := may_any o _ _ h' hl
  obtain ⟨k, a, L⟩ := o
  simp only [callV] at *
  have HB := World.alloc_heap_new w (.cells #[.int .i64 k, .int .i64 a, .slice ad L.length cap] 36)
  have HT := Lib.hid (ht.below hK)
  have HI := Lib.hid h'
  have HA := Lib.hid ha
  have HL := Lib.hid hL
  have HK := Lib.hid hK
  have HBk := Lib.hid HB
  clear h ht h' ha hL hK HB
  by_cases hm : mayM ⟨k, a, L⟩ = true
  · rw [show textM ⟨k, a, L⟩ = wordsM ⟨k, a, L⟩ from if_pos hm]
    rw [hm] at HM
    have HM := Lib.hid HM
    have Hm := Lib.hid hm
    clear hm
    have late : ∀ w1, Below (w.alloc (.cells #[.int .i64 k, .int .i64 a, .slice ad L.length cap] 36)).heap.size (w.alloc (.cells #[.int .i64 k, .int .i64 a, .slice ad L.length cap] 36)) w1 →
        w1.cell? ⟨w.heap.size, 0, none⟩ = some (.int .i64 k) ∧ w1.cell? ⟨w.heap.size, 1, none⟩ = some (.int .i64 a) ∧ w1.cell? ⟨w.heap.size, 2, none⟩ = some (.slice ad L.length cap) ∧ Below w.heap.size w w1 ∧ Pow w1 ∧ IntsAt w1 (.slice ad L.length cap) L := fun w1 hb => by
      have hbk := (hb.block w.heap.size (by simp)).trans HBk.out
      exact ⟨blk_cell hbk 0, blk_cell hbk 1, blk_cell hbk 2, HK.out.trans (hb.mono (by simp)), HT.out.below hb, HI.out.kept (CellsKept.of hb)⟩
    have Late := Lib.hid late
    clear late
    by_cases k1 : k = 1
    · subst k1
      rw [show wordsM ⟨1, a, L⟩ = allocS ++ Lib.itoa a by simp [wordsM]]
      have hz := Lib.itoa_length_le a HA.out.1 HA.out.2
      obtain ⟨z, ez⟩ : ∃ z, Lib.itoa a = z := ⟨_, rfl⟩
      have HC := Lib.hid (fun w1 (hp : Pow w1) => (by rw [← ez]; exact itoa_any a HA.out w1 hp : Calls Tryd.prog 30 #[.int .i64 a] w1 fun e w' => e = .returned (.string ⟨z.toArray⟩) ∧ Below w1.heap.size w1 w'))
      rw [ez] at hz ⊢
      clear ez
      go_enter Tryd.func16, Tryd.ntmps16
      go_wp2_with fail
      refine HM.out.mono ?_
      rintro e w1 ⟨rfl, hb⟩
      obtain ⟨c0, c1, _, hb1, hp1, _⟩ := Late.out w1 hb
      have HB1 := Lib.hid hb1
      have HP1 := Lib.hid hp1
      clear hb hb1 hp1
      go_wp2_with fail
      refine (HC.out _ HP1.out).mono ?_
      rintro e w2 ⟨rfl, hb2⟩
      have HB2 := Lib.hid (below_more HB1.out hb2)
      clear hb2
      go_wp2
      go_ret
      exact ⟨ret_str (str_add _ _), HB2.out⟩
    by_cases k2 : k = 2
    · subst k2
      rw [show wordsM ⟨2, a, L⟩ = flushS by simp [wordsM]]
      go_enter Tryd.func16, Tryd.ntmps16
      go_wp2_with fail
      refine HM.out.mono ?_
      rintro e w1 ⟨rfl, hb⟩
      obtain ⟨c0, c1, _, hb1, _, _⟩ := Late.out w1 hb
      have HB1 := Lib.hid hb1
      clear hb hb1
      go_wp2
      go_ret
      exact ⟨rfl, HB1.out⟩
    by_cases k3 : k = 3
    · subst k3
      rw [show wordsM ⟨3, a, L⟩ = sweepS ++ Lib.itoa a by simp [wordsM]]
      have hz := Lib.itoa_length_le a HA.out.1 HA.out.2
      obtain ⟨z, ez⟩ : ∃ z, Lib.itoa a = z := ⟨_, rfl⟩
      have HC := Lib.hid (fun w1 (hp : Pow w1) => (by rw [← ez]; exact itoa_any a HA.out w1 hp : Calls Tryd.prog 30 #[.int .i64 a] w1 fun e w' => e = .returned (.string ⟨z.toArray⟩) ∧ Below w1.heap.size w1 w'))
      rw [ez] at hz ⊢
      clear ez
      go_enter Tryd.func16, Tryd.ntmps16
      go_wp2_with fail
      refine HM.out.mono ?_
      rintro e w1 ⟨rfl, hb⟩
      obtain ⟨c0, c1, _, hb1, hp1, _⟩ := Late.out w1 hb
      have HB1 := Lib.hid hb1
      have HP1 := Lib.hid hp1
      clear hb hb1 hp1
      go_wp2_with fail
      refine (HC.out _ HP1.out).mono ?_
      rintro e w2 ⟨rfl, hb2⟩
      have HB2 := Lib.hid (below_more HB1.out hb2)
      clear hb2
      go_wp2
      go_ret
      exact ⟨ret_str (str_add _ _), HB2.out⟩
    by_cases k5 : k = 5
    · subst k5
      rw [show wordsM ⟨5, a, L⟩ = releaseS ++ Lib.itoa a by simp [wordsM]]
      have hz := Lib.itoa_length_le a HA.out.1 HA.out.2
      obtain ⟨z, ez⟩ : ∃ z, Lib.itoa a = z := ⟨_, rfl⟩
      have HC := Lib.hid (fun w1 (hp : Pow w1) => (by rw [← ez]; exact itoa_any a HA.out w1 hp : Calls Tryd.prog 30 #[.int .i64 a] w1 fun e w' => e = .returned (.string ⟨z.toArray⟩) ∧ Below w1.heap.size w1 w'))
      rw [ez] at hz ⊢
      clear ez
      go_enter Tryd.func16, Tryd.ntmps16
      go_wp2_with fail
      refine HM.out.mono ?_
      rintro e w1 ⟨rfl, hb⟩
      obtain ⟨c0, c1, _, hb1, hp1, _⟩ := Late.out w1 hb
      have HB1 := Lib.hid hb1
      have HP1 := Lib.hid hp1
      clear hb hb1 hp1
      go_wp2_with fail
      refine (HC.out _ HP1.out).mono ?_
      rintro e w2 ⟨rfl, hb2⟩
      have HB2 := Lib.hid (below_more HB1.out hb2)
      clear hb2
      go_wp2
      go_ret
      exact ⟨ret_str (str_add _ _), HB2.out⟩
    obtain rfl : k = 4 := may_kind Hm.out k1 k2 k3 k5
    clear k1 k2 k3 k5
    have hn8 := may_len Hm.out
    rw [show wordsM ⟨4, a, L⟩ = (if a = 1 then dropS else keepS) ++ namesT L by simp [wordsM]]
    obtain ⟨n, en⟩ : ∃ n, L.length = n := ⟨_, rfl⟩
    have En := Lib.hid en
    rw [en] at hn8 hl
    obtain ⟨hd, ehd⟩ : ∃ hd, (if a = 1 then dropS else keepS) = hd := ⟨_, rfl⟩
    have hhd : hd.length = 4 := by rw [← ehd]; split <;> rfl
    have Ehd := Lib.hid ehd
    rw [ehd]
    clear ehd
    obtain ⟨res, eres⟩ : ∃ res, hd ++ namesT L = res := ⟨_, rfl⟩
    have Eres := Lib.hid eres
    rw [eres]
    clear eres
    rw [en] at HM HI HK HT HBk Late ⊢
    clear en
    have Hlen := Lib.hid (fun k (hk : k ≤ n) => (by
      have h := namesT_len (L := L.take k) (fun x hx => HL.out x (List.mem_of_mem_take hx))
      rw [List.length_take, En.out] at h
      omega : (namesT (L.take k)).length ≤ 22 * k))
    have hcase : (a == 1) = true ∧ hd = dropS ∨ (a == 1) = false ∧ hd = keepS := by
      by_cases ha1 : a = 1
      · left; rw [if_pos ha1] at Ehd; exact ⟨by simp [ha1], Ehd.out.symm⟩
      · right; rw [if_neg ha1] at Ehd; exact ⟨by simp [ha1], Ehd.out.symm⟩
    rcases hcase with ⟨ta, hdv⟩ | ⟨ta, hdv⟩
    all_goals
      have HDV := Lib.hid hdv
      clear hdv
      go_enter Tryd.func16, Tryd.ntmps16
      go_wp2_with fail
      refine HM.out.mono ?_
      rintro e w1 ⟨rfl, hb⟩
      obtain ⟨c0, c1, c2, hb1, hp1, hi1⟩ := Late.out w1 hb
      have HB1 := Lib.hid hb1
      have HP1 := Lib.hid hp1
      have HI1 := Lib.hid hi1
      clear hb hb1 hp1 hi1
      go_wp2_with fail
      clear c0 c1 c2
      go_loopw [3, 37] (fun s i wr => ∃ k : Nat, k ≤ n ∧ i = .int .i64 k ∧ s = .string ⟨(hd ++ namesT (L.take k)).toArray⟩ ∧ Below w1.heap.size w1 wr) (fun _ i _ => n - (intOf i).toNat)
      case atStart =>
        exact ⟨0, by omega, rfl, by rw [HDV.out]; rfl, Below.refl _ _⟩
      case round =>
        obtain ⟨k, hk, rfl, rfl, hbr⟩ := hrel
        obtain ⟨Wo, hWo⟩ : ∃ Wo, Wo = wr := ⟨_, rfl⟩
        subst hWo
        have HBr := Lib.hid hbr
        clear hbr
        by_cases hlt : k < n
        · have hki : (k : Int) < n := by omega
          obtain ⟨g, c, cap', hv, hg, hc⟩ := intsAt_cell (HI1.out.kept (CellsKept.of HBr.out)) (k := k) (by rw [En.out]; exact hlt)
          obtain rfl : ad = some ⟨g, c, none⟩ := by injection hv
          have hx := HL.out (L.getD k 0) (by rw [List.getD_eq_getElem?_getD, List.getElem?_eq_getElem (by rw [En.out]; exact hlt)]; exact List.getElem_mem _)
          have hz := Lib.itoa_length_le _ hx.1 hx.2
          have hq := Hlen.out k hk
          have Hs := Lib.hid (namesT_snoc (L := L) (k := k) (by rw [En.out]; exact hlt))
          have HC := Lib.hid (itoa_any (L.getD k 0) hx Wo (HP1.out.below HBr.out))
          generalize L.getD k 0 = x at *
          generalize Lib.itoa x = z at *
          obtain ⟨q, eq⟩ : ∃ q, namesT (L.take k) = q := ⟨_, rfl⟩
          have Eq := Lib.hid eq
          rw [eq] at hq ⊢
          have hql : (hd ++ q).length ≤ 4 + 22 * k := by rw [List.length_append, hhd]; omega
          have Hnext := Lib.hid (show hd ++ q ++ (32 :: z) = hd ++ namesT (L.take (k + 1)) by rw [Hs.out, eq, List.append_assoc])
          obtain ⟨p, ep⟩ : ∃ p, hd ++ q = p := ⟨_, rfl⟩
          rw [ep] at hql Hnext ⊢
          clear hv eq ep hq hx
          go_wp2_with fail
          refine HC.out.mono ?_
          rintro e w2 ⟨rfl, hb2⟩
          have HB2 := Lib.hid (below_more HBr.out hb2)
          clear hb2
          go_wp2_with fail
          go_roundw
          case rel => exact ⟨k + 1, by omega, by go_num, by rw [← Hnext.out, ← str_add, show (32 :: z) = [32] ++ z from rfl, ← str_add], HB2.out⟩
          case measure => simp [intOf]; omega
        · obtain rfl : k = n := by omega
          have hres : hd ++ namesT (L.take k) = res := by rw [List.take_of_length_le (by rw [En.out]; exact Nat.le_refl _)]; exact Eres.out
          rw [hres]
          clear hres
          go_wp2
          go_ret
          exact ⟨rfl, below_more HB1.out HBr.out⟩
  · rw [show textM ⟨k, a, L⟩ = [] from if_neg hm]
    rw [show mayM ⟨k, a, L⟩ = false by simpa using hm] at HM
    have HM := Lib.hid HM
    clear hm
    go_enter Tryd.func16, Tryd.ntmps16
    go_wp2_with fail
    refine HM.out.mono ?_
    rintro e w1 ⟨rfl, hb⟩
    have HB := Lib.hid (HK.out.trans (hb.mono (by simp)))
    clear hb
    go_wp2
    go_ret
    exact ⟨rfl, HB.out⟩
end Go.Proofs.YtkdigojjeiidmaaDoor
