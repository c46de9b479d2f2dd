/-
  The contract of Read.
-/
import Derived.Test.YtkdigojjeiidmaaDoorKind
namespace Go.Proofs.YtkdigojjeiidmaaDoor
open Go Go.RowKit Go.Shelf

def sV (x : List UInt8) : Value := .string ⟨x.toArray⟩
theorem pieces_vals (l : List UInt8) : (piecesB ⟨l.toArray⟩).map Value.string = (splitL l).map sV := by
  have h := pieces_list ⟨l.toArray⟩
  have e : (⟨l.toArray⟩ : ByteArray).data.toList = l := rfl
  rw [e] at h
  rw [← h, List.map_map]
  rfl
theorem numsL_none : ∀ {ws : List (List UInt8)} {k : Nat} {x : List UInt8}, ws[k]? = some x → (∀ v, Lib.atoiAll x ≠ .ok v) → numsL ws = none
  | [], k, x, h, _ => by simp at h
  | w :: ws, 0, x, h, hx => by
    obtain rfl : w = x := by simpa using h
    simp only [numsL]
  | w :: ws, k + 1, x, h, hx => by
    have := numsL_none (ws := ws) (k := k) (by simpa using h) hx
    simp only [numsL]
    rw [this]
    cases Lib.atoiAll w <;> rfl
theorem numsL_snoc : ∀ {ws : List (List UInt8)} {L : List Int} {x : List UInt8} {n : Int}, numsL ws = some L → Lib.atoiAll x = .ok n → numsL (ws ++ [x]) = some (L ++ [n])
  | [], L, x, n, h, hx => by
    obtain rfl := Option.some.inj h
    simp [numsL, hx]
  | w :: ws, L, x, n, h, hx => by
    simp only [numsL] at h
    rcases ha : Lib.atoiAll w with v | _ | _
    · rw [ha] at h
      simp only at h
      cases hw : numsL ws with
      | none => rw [hw] at h; cases h
      | some l' =>
        rw [hw] at h
        obtain rfl := Option.some.inj h
        simp only [List.cons_append, numsL]
        rw [ha, numsL_snoc hw hx]
        rfl
    · rw [ha] at h; cases h
    · rw [ha] at h; cases h
theorem split_sizes (l : List UInt8) : (∀ x ∈ splitL l, x.length ≤ l.length) ∧ (splitL l).length ≤ l.length + 1 := by
  induction l with
  | nil => exact ⟨fun x hx => by simp [splitL] at hx; subst hx; exact Nat.le_refl _, Nat.le_refl _⟩
  | cons b l ih =>
    simp only [splitL]
    split
    · refine ⟨fun x hx => ?_, by have := ih.2; simp; omega⟩
      rcases List.mem_cons.1 hx with rfl | hx
      · exact Nat.zero_le _
      · have := ih.1 x hx; simp; omega
    · cases hs : splitL l with
      | nil => exact ⟨fun x hx => by simp at hx; subst hx; simp, by simp⟩
      | cons u ws =>
        rw [hs] at ih
        refine ⟨fun x hx => ?_, by have := ih.2; simp at this ⊢; omega⟩
        rcases List.mem_cons.1 hx with rfl | hx
        · have := ih.1 u List.mem_cons_self; simp; omega
        · have := ih.1 x (List.mem_cons_of_mem _ hx); simp; omega
def ReadDone (base : Nat) (l : List UInt8) (w : World) (e : Ending) (w' : World) : Prop :=
  (∃ lv, e = .returned (.tuple #[callV (readM l).1 lv, .bool (readM l).2]) ∧ IntsAt w' lv (readM l).1.L) ∧ Below base w w'

theorem readDone_zero {base : Nat} {l : List UInt8} {w w' : World} (h : readM l = (zeroC, false)) (hb : Below base w w') : ReadDone base l w (.returned (.tuple #[.agg #[.int .i64 0, .int .i64 0, .slice none 0 0], .bool false])) w' := by
  refine ⟨⟨.slice none 0 0, ?_, ?_⟩, hb⟩
  · rw [h]; rfl
  · rw [h]; exact intsAt_nil _
theorem readDone_hit {base : Nat} {l : List UInt8} {w w' : World} {c : CallP} {lv : Value} (h : readM l = (c, true)) (hi : IntsAt w' lv c.L) (hb : Below base w w') : ReadDone base l w (.returned (.tuple #[.agg #[.int .i64 c.kind, .int .i64 c.a, lv], .bool true])) w' := by
  refine ⟨⟨lv, ?_, ?_⟩, hb⟩
  · rw [h]; rfl
  · rw [h]; exact hi

/-- .. and where it is none, just nothing. -/
def ReadAll (base : Nat) (l : List UInt8) (w : World) (e : Ending) (w' : World) : Prop := ReadDone base l w e w' ∧ ((readM l).2 = false → e = .returned (.tuple #[.agg #[.int .i64 0, .int .i64 0, .slice none 0 0], .bool false]))
theorem readAll_zero {base : Nat} {l : List UInt8} {w w' : World} (h : readM l = (zeroC, false)) (hb : Below base w w') : ReadAll base l w (.returned (.tuple #[.agg #[.int .i64 0, .int .i64 0, .slice none 0 0], .bool false])) w' := ⟨readDone_zero h hb, fun _ => rfl⟩
theorem readAll_hit {base : Nat} {l : List UInt8} {w w' : World} {c : CallP} {lv : Value} (h : readM l = (c, true)) (hi : IntsAt w' lv c.L) (hb : Below base w w') : ReadAll base l w (.returned (.tuple #[.agg #[.int .i64 c.kind, .int .i64 c.a, lv], .bool true])) w' :=
  ⟨readDone_hit h hi hb, fun hf => by rw [h] at hf; cases hf⟩
theorem cand_ok {u : List UInt8} {L : List Int} {q : Int} (h : ∀ n ∈ L, i64ok n) (hl : L.length ≤ 9223372036854775807) : CallOk (if q = 4 then ⟨4, if u = dropS then 1 else 0, L⟩ else ⟨q, L.headD 0, []⟩) := by
  split
  · refine ⟨?_, hl, h⟩
    show i64ok (if u = dropS then 1 else 0)
    split <;> exact ⟨by decide, by decide⟩
  · refine ⟨?_, Nat.zero_le _, fun n hn => by cases hn⟩
    show i64ok (L.headD 0)
    cases L with
    | nil => exact ⟨by decide, by decide⟩
    | cons a L => exact h a List.mem_cons_self

/-- Not in that block. -/
def Far (v : Value) (R : Nat) : Prop := ∀ g c n cap, v = .slice (some ⟨g, c, none⟩) n cap → g ≠ R
theorem far_nil (R : Nat) : Far (.slice none 0 0) R := fun g c n cap h => by injection h with h; cases h
theorem far_own {w : World} {B e s n R : Nat} {v : Value} {xs : List Value} (h : w.ownsRow B e s v n xs) (hR : R < B) : Far v R := fun g c n cap hv => by
  have := own_later h g (by rw [hv]; rfl)
  omega
theorem IntsAt.set {w : World} {v : Value} {L : List Int} (h : IntsAt w v L) {R : Nat} (hf : Far v R) (j : Nat) (u : Value) : IntsAt (w.setCell ⟨R, j, none⟩ u) v L := by
  obtain ⟨ad, cap, rfl, h⟩ := h
  refine ⟨ad, cap, rfl, h.imp id ?_⟩
  rintro ⟨g, c, rfl, hg, hc, hcap⟩
  have hne := hf g c _ _ rfl
  refine ⟨g, c, rfl, by simpa [World.setCell] using hg, fun j' x hx => ?_, hcap⟩
  rw [World.cell?_of_block (w := w) (Below.heap_setCell _ _ _ _ (show g ≠ R from hne))]
  exact hc j' x hx

set_option maxRecDepth 100000 in
set_option maxHeartbeats 4000000 in
theorem read_all (l : List UInt8) (hl : l.length ≤ 2097152) (w : World) (hv : Vars w) :
    Calls Tryd.prog 20 #[.string ⟨l.toArray⟩] w fun e w' => ReadAll w.heap.size l w e w' := by
  obtain ⟨i0, hi0, hz0, hz1, hz2⟩ := info_parts' info3
  have hb1 := new_below (w := w) zero36
  have hs1 : (w.alloc zero36).heap.size = w.heap.size + 1 := by simp
  have hR1 := World.alloc_heap_new w zero36
  have HS := split_any ⟨l.toArray⟩ (by show l.toArray.size < _; simp; omega) (w.alloc zero36) (hv.below hb1)
  have hlen : (piecesB ⟨l.toArray⟩).length = (splitL l).length := by have := congrArg List.length (pieces_vals l); simpa using this
  rw [hlen, pieces_vals, hs1] at HS
  have hsz := split_sizes l
  have hread : readM l = match numsL (splitL l).tail with
    | none => (zeroC, false)
    | some L => if l = [] ∨ textM (candM (headOf l) L) ≠ l then (zeroC, false) else (candM (headOf l) L, true) := rfl
  have hne : splitL l ≠ [] := by obtain ⟨u, ws, h, _⟩ := split_join l; rw [h]; simp
  unfold headOf at hread
  generalize hw0 : splitL l = ws at *
  cases ws with
  | nil => exact absurd rfl hne
  | cons u vs =>
  simp only [List.tail_cons, List.headD_cons] at hread
  obtain ⟨m, em⟩ : ∃ m, vs.length = m := ⟨_, rfl⟩
  have hm1 : m ≤ 2097152 := by have := hsz.2; simp at this; omega
  simp only [List.length_cons, em] at HS
  have Em := Lib.hid em
  have Hread := Lib.hid hread
  have Hsz := Lib.hid hsz.1
  have HS := Lib.hid HS
  have HV := Lib.hid hv
  have HB1 := Lib.hid hb1
  have HR1 := Lib.hid hR1
  clear hread hsz hlen hne hv hb1 hR1 em hw0
  unfold zero36 at *
  go_enter Tryd.func20, Tryd.ntmps20
  go_wp2_with fail
  refine HS.out.mono ?_
  rintro e w2 ⟨rfl, hw2⟩
  have HW2 := Lib.hid (show Below w.heap.size w w2 from by rw [hw2]; exact below_more HB1.out (new_below _))
  have HP2 := Lib.hid (show w2.heap[w.heap.size + 1]? = some (.cells ((u :: vs).map sV).toArray 9 (0, 0)) from by rw [hw2, ← hs1]; exact World.alloc_heap_new _ _)
  have HR2 := Lib.hid (show w2.heap[w.heap.size]? = some (.cells #[.int .i64 0, .int .i64 0, .slice none 0 0] 36 (0, 0)) from by rw [hw2]; exact (Below.heap_alloc _ _ _ (by simp)).trans HR1.out)
  have HV2 := Lib.hid (HV.out.below HW2.out)
  clear hw2 HR1 HB1 HS
  have hN : (1 : Int) ≤ ((m + 1 : Nat) : Int) := by omega
  have hsz2 : w.heap.size + 1 < w2.heap.size := (Array.getElem?_eq_some_iff.1 HP2.out).1
  go_upto_region 3 with (fail)
  go_cut [14, 15, 16] (fun s14 s15 s16 wx => (∃ off : Nat, (0 < m → off = 1) ∧ s14 = .slice (some ⟨w.heap.size + 1, off, none⟩) m m) ∧ s15 = .int .i64 m ∧ s16 = .int .i64 0 ∧ wx = w2)
  case first =>
    by_cases hm0 : m = 0
    · subst hm0
      go_wp2
      go_meet
      exact ⟨⟨0, by omega, rfl⟩, rfl, rfl, rfl⟩
    · go_wp2
      go_meet
      exact ⟨⟨1, by omega, rfl⟩, rfl, rfl, rfl⟩
  case rest =>
  obtain ⟨⟨off, hoff, rfl⟩, rfl, rfl, rfl⟩ := hcut
  go_wp2_with fail
  go_loopw [5, 16] (fun lv i wr => ∃ (k : Nat) (L : List Int), k ≤ m ∧ i = .int .i64 k ∧ Hid (numsL (vs.take k) = some L) ∧ wr.ownsRow wc.heap.size 3 1 lv k (L.map iV) ∧ Below wc.heap.size wc wr) (fun _ i _ => m - (intOf i).toNat)
  case atStart => exact ⟨0, [], by omega, rfl, rfl, World.ownsRow_nil _ _ _ _, Below.refl _ _⟩
  case round =>
    obtain ⟨k, L, hk, rfl, hL, hown, hb⟩ := hrel
    obtain ⟨Wo, hWo⟩ : ∃ Wo, Wo = wr := ⟨_, rfl⟩
    subst hWo
    obtain ⟨la, lc, rfl⟩ := own_slice hown
    have HO := Lib.hid hown
    have HB := Lib.hid hb
    have HPo := Lib.hid ((hb.block _ hsz2).trans HP2.out)
    have HRo := Lib.hid ((hb.block _ (by omega)).trans HR2.out)
    clear hown hb
    by_cases hlt : k < m
    · have hki : (k : Int) < m := by omega
      obtain rfl : off = 1 := hoff (by omega)
      obtain ⟨x, hx⟩ : ∃ x, vs[k]? = some x := ⟨_, List.getElem?_eq_getElem (by rw [Em.out]; exact hlt)⟩
      have cx := blk_cell HPo.out (1 + k)
      have ecx : ((u :: vs).map sV).toArray[1 + k]? = some (.string ⟨x.toArray⟩) := by
        rw [List.getElem?_toArray, List.getElem?_map, Nat.add_comm, List.getElem?_cons_succ, hx]
        rfl
      rw [ecx] at cx
      have hxs := Hsz.out x (List.mem_cons_of_mem _ (List.mem_of_getElem? hx))
      have HA := Lib.hid (atoi_any ⟨x.toArray⟩ (by show x.toArray.size ≤ _; simp; omega) Wo (HV2.out.below HB.out))
      have Hbad := Lib.hid (fun h : (∀ v, Lib.atoiAll x ≠ .ok v) => (by rw [Hread.out, numsL_none hx h] : readM l = (zeroC, false)))
      have Hgood := Lib.hid (fun (n : Int) (h : Lib.atoiAll x = .ok n) => (by
        have hkk : k < vs.length := by rw [Em.out]; exact hlt
        rw [List.take_succ_eq_append_getElem hkk]
        have : vs[k] = x := by rw [List.getElem?_eq_getElem hkk] at hx; exact Option.some.inj hx
        rw [this]
        exact numsL_snoc hL.out h : numsL (vs.take (k + 1)) = some (L ++ [n])))
      clear ecx hx hL
      go_wp2_with fail
      refine HA.out.mono ?_
      rintro e w3 ⟨n, err, rfl, hend, hb3⟩
      have HB3 := Lib.hid (below_more HB.out hb3)
      have HO3 := Lib.hid (own_kept HO.out (fun g hg => hb3.block g (own_lt HO.out hg).1))
      rcases hend with ⟨hok, rfl⟩ | ⟨hno, te, pe, rfl⟩
      · have HG := Lib.hid (Hgood.out n hok)
        clear hb3 hok Hgood Hbad cx HA
        have Hnews := Lib.hid (World.news_of_block (World.alloc_heap_new w3 (.cells #[.int .i64 n] 3)))
        have Hone := Lib.hid (show ∀ v ∈ [Value.int .i64 n], v.oneCell' = true by simp [Value.oneCell'])
        have Hl2 := Lib.hid (HO3.out.alloc (.cells #[.int .i64 n] 3))
        have hsz3 := HB3.out.size
        go_wp2_with (at_builtin; refine wpList_append_lies _ rfl _ _ 27 rfl wc.heap.size 3 i0 (.int .i64 0) 1 8 Tryd.underlying27 hi0 hz0 hz1 hz2 rfl (by decide) _ _ _ rfl Hl2.out _ 1 1 _ rfl rfl Hnews.out Hone.out (by omega) (by unfold maxLen; omega) (by omega) (by simp; omega) _ rfl ?_; intro g' cap' w4 hown' hgrow _ _)
        have HB4 := Lib.hid ((HB3.out.alloc hsz3 (.cells #[.int .i64 n] 3)).grown hgrow (by simp; omega) (fun j e => by have := own_later HO3.out j e; omega))
        go_roundw
        case rel => exact ⟨k + 1, L ++ [n], by omega, by go_num, HG.out, by rw [List.map_append]; exact hown', HB4.out⟩
        case measure => simp [intOf]; omega
      · have hr := Hbad.out hno
        have hb3R := (hb3.block _ (Array.getElem?_eq_some_iff.1 HRo.out).1).trans HRo.out
        have c0 := blk_cell hb3R 0
        have c1 := blk_cell hb3R 1
        have c2 := blk_cell hb3R 2
        have f0 := blk_frozen hb3R 0
        have f1 := blk_frozen hb3R 1
        have f2 := blk_frozen hb3R 2
        simp at c0 c1 c2
        clear hb3 Hgood Hbad cx HA hb3R
        have HBw := Lib.hid (HW2.out.trans (HB3.out.mono HW2.out.size))
        go_wp2
        refine bodyPost_ret (by simp [results, Tryd.results20, go_sem, c0, c1, c2]) rfl (readAll_zero hr ?_)
        exact ((HBw.out.setCell (p := ⟨w.heap.size, 0, none⟩) (Nat.le_refl _) _).setCell (p := ⟨w.heap.size, 1, none⟩) (Nat.le_refl _) _).setCell (p := ⟨w.heap.size, 2, none⟩) (Nat.le_refl _) _
    · obtain rfl : k = m := by omega
      clear hoff
      have hnum : numsL vs = some L := by have := hL.out; rwa [List.take_of_length_le (by rw [Em.out]; exact Nat.le_refl _)] at this
      have hr : readM l = if l = [] ∨ textM (candM u L) ≠ l then (zeroC, false) else (candM u L, true) := by
        rw [Hread.out, hnum]
        rfl
      have hLb := nums_bound hnum
      have Hr := Lib.hid hr
      have HLb := Lib.hid hLb
      have cu := blk_cell HPo.out 0
      have ecu : ((u :: vs).map sV).toArray[0]? = some (.string ⟨u.toArray⟩) := rfl
      rw [ecu] at cu
      have HK := Lib.hid (kind_any u Wo)
      clear hnum hr hLb ecu hL
      go_wp2_with fail
      refine HK.out.mono ?_
      rintro e w3 ⟨rfl, rfl⟩
      have HC := World.alloc_heap_new Wo (.cells #[.int .i64 (kindB u), .int .i64 0, .slice none 0 0] 36)
      have hbC := new_below (w := Wo) (.cells #[.int .i64 (kindB u), .int .i64 0, .slice none 0 0] 36)
      have HCb := Lib.hid HC
      have HbC := Lib.hid hbC
      have hcand : candM u L = if kindB u = 4 then ⟨4, if u = dropS then 1 else 0, L⟩ else ⟨kindB u, L.headD 0, []⟩ := rfl
      have HI := Lib.hid (ints_of_owns HO.out)
      have HFar := Lib.hid (far_own (R := w.heap.size) HO.out (by omega))
      obtain ⟨c, ec⟩ : ∃ c, candM u L = c := ⟨_, rfl⟩
      rw [ec] at hcand Hr
      have Hcand := Lib.hid hcand
      have hLk : L.length = k := HLb.out.1.trans Em.out
      have hPlt := (Array.getElem?_eq_some_iff.1 HPo.out).1
      clear HC hbC hcand ec HK
      generalize kindB u = q at *
      go_upto_block 2 with (fail)
      go_cut [10] (fun s10 wx => s10 = .pointer (some ⟨Wo.heap.size, 0, none⟩) ∧ ∃ lvc, wx.heap[Wo.heap.size]? = some (.cells #[.int .i64 c.kind, .int .i64 c.a, lvc] 36 (0, 0)) ∧ (IntsAt wx lvc c.L ∧ Far lvc w.heap.size) ∧ Below Wo.heap.size Wo wx)
      case first =>
        have c0 := blk_cell HCb.out 0
        have c1 := blk_cell HCb.out 1
        have c2 := blk_cell HCb.out 2
        have f1 := blk_frozen HCb.out 1
        have f2 := blk_frozen HCb.out 2
        simp at c0 c1 c2
        by_cases h4 : q = 4
        · subst h4
          rw [if_pos rfl] at Hcand
          by_cases hd : u = [100, 114, 111, 112]
          · subst hd
            obtain rfl : c = ⟨4, 1, L⟩ := by rw [Hcand.out]; rfl
            go_wp2
            go_meet
            exact ⟨rfl, _, World.alloc_heap_new _ _, ⟨HI.out.kept (CellsKept.of (new_below _)), HFar.out⟩, new_below _⟩
          · have td := eqS_ne hd
            obtain rfl : c = ⟨4, 0, L⟩ := by
              rw [Hcand.out, if_neg (show ¬ u = dropS from hd)]
            go_wp2
            go_meet
            exact ⟨rfl, _, World.alloc_heap_new _ _, ⟨HI.out.kept (CellsKept.of (new_below _)), HFar.out⟩, new_below _⟩
        · have t4 : (q == 4) = false := by simp [h4]
          rw [if_neg h4] at Hcand
          obtain rfl := Hcand.out
          rcases Nat.eq_zero_or_pos k with rfl | hk0
          · obtain rfl := List.eq_nil_of_length_eq_zero hLk
            go_wp2
            go_meet
            exact ⟨rfl, _, World.alloc_heap_new _ _, ⟨intsAt_nil _, far_nil _⟩, new_below _⟩
          · have d0 : decide ((0 : Int) < (k : Int)) = true := decide_eq_true (by omega)
            obtain ⟨g, cap', hv', hg, hcell⟩ := own_cell HO.out (Below.refl _ Wo) (Nat.le_refl _) (j := 0) (by omega) (by omega)
            obtain rfl : la = some ⟨g, 0, none⟩ := by injection hv'
            cases L with
            | nil => simp at hLk; omega
            | cons n0 L' =>
              simp only [List.map_cons, List.getElem?_cons_zero, iV] at hcell
              clear hv'
              go_wp2
              go_meet
              exact ⟨rfl, _, World.alloc_heap_new _ _, ⟨intsAt_nil _, far_nil _⟩, new_below _⟩
      case rest =>
        obtain ⟨rfl, lvc, hC, ⟨hIc, hfar⟩, hbc⟩ := hcut
        have HFar2 := Lib.hid hfar
        clear hfar
        have hok : CallOk c := by rw [Hcand.out]; exact cand_ok HLb.out.2 (by rw [hLk]; omega)
        have hRc := (hbc.block _ (Array.getElem?_eq_some_iff.1 HRo.out).1).trans HRo.out
        have HBw := Lib.hid (HW2.out.trans ((HB.out.trans (hbc.mono HB.out.size)).mono HW2.out.size))
        have HT := Lib.hid (text_any c lvc wc hIc hok.2.1 hok.1 hok.2.2 (HV.out.below HBw.out).pow)
        have c0 := blk_cell hC 0
        have c1 := blk_cell hC 1
        have c2 := blk_cell hC 2
        have d0 := blk_cell hRc 0
        have d1 := blk_cell hRc 1
        have d2 := blk_cell hRc 2
        have f0 := blk_frozen hRc 0
        have f1 := blk_frozen hRc 1
        have f2 := blk_frozen hRc 2
        simp at c0 c1 c2 d0 d1 d2
        obtain ⟨la', lc', rfl⟩ := intsAt_shape hIc
        have hCR : w.heap.size < Wo.heap.size := (Array.getElem?_eq_some_iff.1 HRo.out).1
        have HIc := Lib.hid hIc
        have HCc := Lib.hid hC
        have HRc := Lib.hid hRc
        unfold callV at HT
        by_cases hl0 : l = []
        · subst hl0
          have hr := Hr.out
          rw [if_pos (.inl rfl)] at hr
          clear hC hIc hbc hRc c0 c1 c2
          go_wp2
          refine bodyPost_ret (by simp [results, Tryd.results20, go_sem, d0, d1, d2]) rfl (readAll_zero hr ?_)
          exact ((HBw.out.setCell (p := ⟨w.heap.size, 0, none⟩) (Nat.le_refl _) _).setCell (p := ⟨w.heap.size, 1, none⟩) (Nat.le_refl _) _).setCell (p := ⟨w.heap.size, 2, none⟩) (Nat.le_refl _) _
        · have tl : (l == []) = false := by simpa using hl0
          obtain ⟨tx, etx⟩ : ∃ tx, textM c = tx := ⟨_, rfl⟩
          rw [etx] at HT Hr
          have hsl : c.L.length ≤ 9223372036854775807 := hok.2.1
          obtain ⟨ck, ca, cL⟩ := c
          simp only at *
          obtain ⟨cn, ecn⟩ : ∃ cn, cL.length = cn := ⟨_, rfl⟩
          rw [ecn] at HT c2
          clear hC hIc hbc hRc etx
          go_wp2_with fail
          refine HT.out.mono ?_
          rintro e w5 ⟨rfl, hb5⟩
          have h5C := (hb5.block _ (Array.getElem?_eq_some_iff.1 HCc.out).1).trans HCc.out
          have h5R := (hb5.block _ (Array.getElem?_eq_some_iff.1 HRc.out).1).trans HRc.out
          have HB5 := Lib.hid (below_more HBw.out hb5)
          have HI5 := Lib.hid (HIc.out.kept (CellsKept.of hb5))
          rw [ecn] at h5C
          clear hb5 c0 c1 c2 d0 d1 d2 f0 f1 f2
          have c0 := blk_cell h5C 0
          have c1 := blk_cell h5C 1
          have c2 := blk_cell h5C 2
          have d0 := blk_cell h5R 0
          have d1 := blk_cell h5R 1
          have d2 := blk_cell h5R 2
          have f0 := blk_frozen h5R 0
          have f1 := blk_frozen h5R 1
          have f2 := blk_frozen h5R 2
          simp at c0 c1 c2 d0 d1 d2
          clear h5C h5R
          by_cases ht : tx = l
          · subst ht
            have hr := Hr.out
            rw [if_neg (by rintro (e | e); · exact hl0 e
                           exact e rfl)] at hr
            go_wp2
            refine bodyPost_ret (by simp [results, Tryd.results20, go_sem, d0, d1, d2]) rfl (readAll_hit (lv := .slice la' cn lc') hr ?_ ?_)
            · have hi := HI5.out
              have hfr := HFar2.out
              rw [ecn] at hi hfr
              exact ((hi.set hfr _ _).set hfr _ _).set hfr _ _
            · exact ((HB5.out.setCell (p := ⟨w.heap.size, 0, none⟩) (Nat.le_refl _) _).setCell (p := ⟨w.heap.size, 1, none⟩) (Nat.le_refl _) _).setCell (p := ⟨w.heap.size, 2, none⟩) (Nat.le_refl _) _
          · have tt : (tx == l) = false := by simpa using ht
            have hr := Hr.out
            rw [if_pos (.inr ht)] at hr
            go_wp2
            refine bodyPost_ret (by simp [results, Tryd.results20, go_sem, d0, d1, d2]) rfl (readAll_zero hr ?_)
            exact ((HB5.out.setCell (p := ⟨w.heap.size, 0, none⟩) (Nat.le_refl _) _).setCell (p := ⟨w.heap.size, 1, none⟩) (Nat.le_refl _) _).setCell (p := ⟨w.heap.size, 2, none⟩) (Nat.le_refl _) _
theorem read_any (l : List UInt8) (hl : l.length ≤ 2097152) (w : World) (hv : Vars w) :
    Calls Tryd.prog 20 #[.string ⟨l.toArray⟩] w fun e w' => ReadDone w.heap.size l w e w' := (read_all l hl w hv).mono fun _ _ h => h.1
theorem zero_ok : CallOk zeroC := ⟨⟨by decide, by decide⟩, Nat.zero_le _, fun n hn => by cases hn⟩
theorem read_ok (l : List UInt8) (hl : l.length ≤ 2097152) : CallOk (readM l).1 := by
  unfold readM
  cases hn : numsL (splitL l).tail with
  | none => exact zero_ok
  | some L =>
    simp only
    split
    · exact zero_ok
    · have h1 := nums_bound hn
      have h2 := (split_sizes l).2
      refine cand_ok (q := kindB (headOf l)) h1.2 ?_
      rw [h1.1, List.length_tail]
      omega
end Go.Proofs.YtkdigojjeiidmaaDoor
