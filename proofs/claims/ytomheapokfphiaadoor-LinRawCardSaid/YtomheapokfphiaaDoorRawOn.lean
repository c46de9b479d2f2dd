/-
  The contract of lin.on.
-/
import Derived.Test.YtomheapokfphiaaDoorRawDoes
import Derived.Test.YtomheapokfphiaaDoorRawOnRegion
import Derived.Test.YtomheapokfphiaaDoorLinOrders
namespace Go.Proofs.YtomheapokfphiaaDoor
open Go Go.RowKit Go.Shelf

theorem flat_split {α : Type} {n i : Nat} (g : Nat → List α) (h : i < n) : ∃ rest, (List.range n).flatMap g = (List.range i).flatMap g ++ (g i ++ rest) := by
  obtain ⟨b, rfl⟩ : ∃ b, n = i + (b + 1) := ⟨n - i - 1, by omega⟩
  rw [List.range_add, List.flatMap_append, List.range_succ_eq_map]
  simp only [List.map_cons, List.flatMap_cons, Nat.add_zero]
  exact ⟨_, rfl⟩
theorem flat_next {α : Type} (g : Nat → List α) (i : Nat) : ((List.range (i + 1)).flatMap g).length = ((List.range i).flatMap g).length + (g i).length := by
  rw [List.range_succ, List.flatMap_append]; simp
theorem Tab.cells {w w' : World} (h : Tab w) (hk : CellsKept w w') : Tab w' := ⟨fun c hc => hk.cell (h.bytes c hc), fun c hc => hk.cell (h.pages c hc), Nat.lt_of_lt_of_le h.pos hk.1⟩

set_option maxHeartbeats 4000000 in
theorem on_step (pages : Int) (hp0 : 1 ≤ pages) (hp1 : pages ≤ 4096) (l : List OpP) (hlen : l.length ≤ 500) (hfit : ∀ i, i < l.length → (opAt l i).fits ∧ 0 ≤ 0) (lv : Value) (L : Nat) (w0 : World) (hl0 : OpsAt w0 lv l) (hT0 : Tab w0)
    (J Jx : Nat → World → Prop) (hJ : ∀ k W W', J k W → Below W.heap.size W W' → J k W') (xs : List (List Int))
    (hY : ∀ k o u W1, xs[k]? = some o → IntsAt W1 u o → CellsKept w0 W1 → J k W1 → YieldAt Fence.wide 8 Tryd.prog L #[u] W1 fun e W' => (e = .returned (.bool true) ∧ J (k + 1) W' ∧ CellsKept W1 W') ∨ (e = .returned (.bool false) ∧ Jx k W'))
    (gf : LiveP → List Int → List (List Int)) (f : Nat) (hf : f ≤ 500) (s : LiveP) (order : List Int) (v ov : Value) (W : World) (k0 : Nat) (hsl : s.length + (f + 1) ≤ 65536) (hol : order.length + (f + 1) ≤ 1000)
    (ih : ∀ (i : Nat) (s' : LiveP) (v' u : Value) (W' : World) (k1 : Nat), i < l.length → order.contains (i : Int) = false → s'.length + f ≤ 65536 → (∀ j x, (gf s' (order ++ [(i : Int)]))[j]? = some x → xs[k1 + j]? = some x) →
      CellsKept w0 W' → LiveAt W' v' pages s' → IntsAt W' u (order ++ [(i : Int)]) → InL l (order ++ [(i : Int)]) → J k1 W' →
      Calls Tryd.prog 60 #[lv, v', u, .func (.yield L) #[] #[]] W' fun e W'' => (e = .returned (.bool true) ∧ J (k1 + (gf s' (order ++ [(i : Int)])).length) W'' ∧ CellsKept W' W'') ∨ (e = .returned (.bool false) ∧ ∃ k, k < k1 + (gf s' (order ++ [(i : Int)])).length ∧ Jx k W''))
    (LL : List (List Int)) (hLL : (order :: (List.range l.length).flatMap (subM pages l gf s order)) = LL) (hxs : ∀ j x, LL[j]? = some x → xs[k0 + j]? = some x) (hk : CellsKept w0 W) (hlv : LiveAt W v pages s) (hov : IntsAt W ov order) (hin : InL l order) (hJ0 : J k0 W) :
    Calls Tryd.prog 60 #[lv, v, ov, .func (.yield L) #[] #[]] W fun e W' => (e = .returned (.bool true) ∧ J (k0 + LL.length) W' ∧ CellsKept W W') ∨ (e = .returned (.bool false) ∧ ∃ k, k < k0 + LL.length ∧ Jx k W') := by
  obtain ⟨av, nv, rfl, ha, hn⟩ := hlv
  have HA := Lib.hid ha
  have HN := Lib.hid hn
  obtain ⟨ad, acap, rfl, _⟩ := ha
  obtain ⟨nd, ncap, rfl, _⟩ := hn
  have HO := Lib.hid hov
  obtain ⟨od, ocap, rfl, _⟩ := hov
  have HLv := Lib.hid (hl0.kept hk)
  obtain ⟨ld, lcap, rfl, _⟩ := hl0
  simp only [List.length_map] at *
  go_enter Tryd.func60, Tryd.ntmps60
  go_upto_region 1 with (fail)
  have hb1 : Below W.heap.size W (W.alloc (.cells #[.int .i64 pages, .slice ad s.length acap, .slice nd s.length ncap] 63)) := new_below _
  have q1 : (W.alloc (.cells #[.int .i64 pages, .slice ad s.length acap, .slice nd s.length ncap] 63)).heap[W.heap.size]? = some (.cells #[.int .i64 pages, .slice ad s.length acap, .slice nd s.length ncap] 63 (0, 0)) := World.alloc_heap_new W _
  obtain ⟨W1, hW1⟩ : ∃ W1, W.alloc (.cells #[.int .i64 pages, .slice ad s.length acap, .slice nd s.length ncap] 63) = W1 := ⟨_, rfl⟩
  have hs1 : W.heap.size < W1.heap.size := by rw [← hW1]; simp
  rw [hW1] at hb1 q1 ⊢
  obtain ⟨fn, tmps, assign, body, hy, hR⟩ := hY k0 order _ W1 (hxs 0 order (by rw [← hLL]; rfl)) (HO.out.kept (CellsKept.of hb1)) (hk.trans (CellsKept.of hb1)) (hJ _ _ _ hJ0 hb1)
  have hR2 := Lib.hid (hR.mono (R' := fun e W' => ∃ b : Bool, e = .returned (.bool b) ∧ Hid ((b = true ∧ J (k0 + 1) W' ∧ CellsKept W1 W') ∨ (b = false ∧ Jx k0 W'))) (by
    rintro e W' (⟨rfl, h1, h2⟩ | ⟨rfl, h1⟩)
    · exact ⟨true, rfl, Lib.hid (.inl ⟨rfl, h1, h2⟩)⟩
    · exact ⟨false, rfl, Lib.hid (.inr ⟨rfl, h1⟩)⟩))
  have Hk := Lib.hid (hk.trans (CellsKept.of hb1))
  have Hk1 := Lib.hid (CellsKept.of hb1)
  clear hR hY hW1 hJ0 hb1 hk
  refine (wpIn_wide (n := 9)).1 ?_
  gi_wp2
  refine hR2.out.mono ?_
  rintro e W2 ⟨b, rfl, hq⟩
  have Hq := Lib.hid hq
  clear hq hy hR2
  cases b with
  | false =>
    have hx : Jx k0 W2 := by
      rcases Hq.out.out with ⟨h, _⟩ | ⟨_, h⟩
      · cases h
      · exact h
    have Hx := Lib.hid hx
    clear hx
    gi_wp2
    go_wp2
    go_ret
    exact .inr ⟨rfl, k0, by rw [← hLL]; simp, Hx.out⟩
  | true =>
    obtain ⟨hJ1, hk2⟩ : J (k0 + 1) W2 ∧ CellsKept W1 W2 := by
      rcases Hq.out.out with ⟨_, h1, h2⟩ | ⟨h, _⟩
      · exact ⟨h1, h2⟩
      · cases h
    gi_wp2
    have q2 := hk2.2 _ _ q1 rfl
    have Hkw := Lib.hid (Hk.out.trans hk2)
    have HK2 := Lib.hid (Hk1.out.trans hk2)
    obtain ⟨sub, esub⟩ : ∃ sub, subM pages l gf s order = sub := ⟨_, rfl⟩
    have Esub := Lib.hid esub
    have HJ1 := Lib.hid hJ1
    have Q2 := Lib.hid q2
    have hs2 := Nat.lt_of_lt_of_le hs1 hk2.1
    clear Hq hJ1 hk2 esub q1 hs1 q2
    go_wp2_with fail
    go_loopw [19] (fun i wr => ∃ k : Nat, k ≤ l.length ∧ i = .int .i64 k ∧ J (k0 + 1 + ((List.range k).flatMap sub).length) wr ∧ CellsKept W2 wr) (fun i _ => l.length - (intOf i).toNat)
    case atStart => exact ⟨0, Nat.zero_le _, rfl, HJ1.out, CellsKept.refl _⟩
    case round =>
      obtain ⟨i, hi, rfl, hJi, hki⟩ := hrel
      obtain ⟨Wo, hWo⟩ : ∃ Wo, Wo = wr := ⟨_, rfl⟩
      subst hWo
      have HJi := Lib.hid hJi
      have Hki := Lib.hid hki
      have HKo := Lib.hid (HK2.out.trans hki)
      have hso := Nat.lt_of_lt_of_le hs2 hki.1
      have HQo := Lib.hid (hki.2 _ _ Q2.out rfl)
      clear hJi hki
      by_cases hlt : i < l.length
      · obtain ⟨g, go, cap', lvv, hv, hg, hLv, hc⟩ := opsAt_cell (HLv.out.kept HKo.out) hlt
        obtain ⟨rfl, rfl⟩ : ld = some ⟨g, go, none⟩ ∧ lcap = cap' := by injection hv with h1 h2 h3; exact ⟨h1, h3⟩
        have HLo := Lib.hid hLv
        obtain ⟨md, mcap, rfl, _⟩ := hLv
        obtain ⟨c0, c1, c2, c3, c4, c5, c6⟩ := hc
        have hiI : (i : Int) < l.length := by omega
        clear hv
        have hba : Below Wo.heap.size Wo (Wo.alloc (.cells #[.int .i64 (opAt l i).kind, .int .i64 (opAt l i).size, .int .i64 (opAt l i).at_, .int .i64 (opAt l i).code, .slice md (opAt l i).L.length mcap, .int .i64 (opAt l i).b, .int .i64 (opAt l i).e] 50)) := new_below _
        have qa : (Wo.alloc (.cells #[.int .i64 (opAt l i).kind, .int .i64 (opAt l i).size, .int .i64 (opAt l i).at_, .int .i64 (opAt l i).code, .slice md (opAt l i).L.length mcap, .int .i64 (opAt l i).b, .int .i64 (opAt l i).e] 50)).heap[Wo.heap.size]? = some (.cells #[.int .i64 (opAt l i).kind, .int .i64 (opAt l i).size, .int .i64 (opAt l i).at_, .int .i64 (opAt l i).code, .slice md (opAt l i).L.length mcap, .int .i64 (opAt l i).b, .int .i64 (opAt l i).e] 50 (0, 0)) := World.alloc_heap_new Wo _
        have hca := contains_any order (by omega) (i : Int) _ _ (HO.out.kept (HKo.out.trans (CellsKept.of hba)))
        have haa := fun WB (hb : Below Wo.heap.size Wo WB) => ahead_any l (by omega) i hlt order hin (by omega) _ _ WB (HLv.out.kept (HKo.out.trans (CellsKept.of hb))) (HO.out.kept (HKo.out.trans (CellsKept.of hb)))
        have hsz : (Wo.alloc (.cells #[.int .i64 (opAt l i).kind, .int .i64 (opAt l i).size, .int .i64 (opAt l i).at_, .int .i64 (opAt l i).code, .slice md (opAt l i).L.length mcap, .int .i64 (opAt l i).b, .int .i64 (opAt l i).e] 50)).heap.size = Wo.heap.size + 1 := by simp
        obtain ⟨o, eo⟩ : ∃ o, opAt l i = o := ⟨_, rfl⟩
        rw [eo] at c0 c1 c2 c3 c4 c5 c6 hba qa hca HLo hsz
        have hofit := hfit i hlt
        rw [eo] at hofit
        obtain ⟨ca, eca⟩ : ∃ ca, order.contains (i : Int) = ca := ⟨_, rfl⟩
        obtain ⟨aa, eaa⟩ : ∃ aa, aheadM l order i = aa := ⟨_, rfl⟩
        rw [eca] at hca
        simp only [eaa] at haa
        obtain ⟨Wa, hWa⟩ : ∃ Wa, Wo.alloc (.cells #[.int .i64 o.kind, .int .i64 o.size, .int .i64 o.at_, .int .i64 o.code, .slice md o.L.length mcap, .int .i64 o.b, .int .i64 o.e] 50) = Wa := ⟨_, rfl⟩
        have HWa := Lib.hid hWa
        rw [hWa] at hba qa hca hsz
        have Hca := Lib.hid hca
        have Haa := Lib.hid haa
        have Hba := Lib.hid hba
        have Qa := Lib.hid qa
        have HJa := Lib.hid (hJ _ _ _ HJi.out hba)
        have HKa := Lib.hid (Hki.out.trans (CellsKept.of hba))
        have Esubi := Lib.hid (show sub i = if (ca || aa) = true then [] else match doesM pages s o with | none => [] | some s' => gf s' (order ++ [(i : Int)]) by rw [← Esub.out]; unfold subM; rw [eca, eaa, eo]; rfl)
        clear hca haa hba qa hWa eo eaa
        cases ca with
        | true =>
          have Hsub := Lib.hid (show (sub i).length = 0 by rw [Esubi.out]; rfl)
          clear eca
          go_wp2_with fail
          rw [HWa.out]
          refine Hca.out.mono ?_
          rintro e w3 ⟨rfl, rfl⟩
          go_wp2
          go_roundw
          case rel => exact ⟨i + 1, hlt, by go_num, by rw [flat_next, Hsub.out]; exact HJa.out, HKa.out⟩
          case measure => simp [intOf]; omega
        | false =>
          go_wp2_with fail
          rw [HWa.out]
          refine Hca.out.mono ?_
          rintro e w3 ⟨rfl, rfl⟩
          go_wp2_with fail
          refine (Haa.out _ Hba.out).mono ?_
          rintro e w4 ⟨rfl, hb4⟩
          have HJ4 := Lib.hid (hJ _ _ _ HJa.out hb4)
          have HK4 := Lib.hid (HKa.out.trans (CellsKept.of hb4))
          have Hb4 := Lib.hid hb4
          clear hb4
          cases aa with
          | true =>
            have Hsub := Lib.hid (show (sub i).length = 0 by rw [Esubi.out]; rfl)
            clear eca
            go_wp2
            go_roundw
            case rel => exact ⟨i + 1, hlt, by go_num, by rw [flat_next, Hsub.out]; exact HJ4.out, HK4.out⟩
            case measure => simp [intOf]; omega
          | false =>
            have hba := Hba.out
            have hWoa : Wo.heap.size < Wa.heap.size := by omega
            have x0 : w4.cell? ⟨W.heap.size, 0, none⟩ = some (.int .i64 pages) := blk_cell ((Hb4.out.block _ (Nat.lt_of_lt_of_le hso hba.size)).trans ((hba.block _ hso).trans HQo.out)) 0
            have x1 : w4.cell? ⟨W.heap.size, 1, none⟩ = some (.slice ad s.length acap) := blk_cell ((Hb4.out.block _ (Nat.lt_of_lt_of_le hso hba.size)).trans ((hba.block _ hso).trans HQo.out)) 1
            have x2 : w4.cell? ⟨W.heap.size, 2, none⟩ = some (.slice nd s.length ncap) := blk_cell ((Hb4.out.block _ (Nat.lt_of_lt_of_le hso hba.size)).trans ((hba.block _ hso).trans HQo.out)) 2
            have y0 : w4.cell? ⟨Wo.heap.size, 0, none⟩ = some (.int .i64 o.kind) := blk_cell ((Hb4.out.block _ hWoa).trans Qa.out) 0
            have y1 : w4.cell? ⟨Wo.heap.size, 1, none⟩ = some (.int .i64 o.size) := blk_cell ((Hb4.out.block _ hWoa).trans Qa.out) 1
            have y2 : w4.cell? ⟨Wo.heap.size, 2, none⟩ = some (.int .i64 o.at_) := blk_cell ((Hb4.out.block _ hWoa).trans Qa.out) 2
            have y3 : w4.cell? ⟨Wo.heap.size, 3, none⟩ = some (.int .i64 o.code) := blk_cell ((Hb4.out.block _ hWoa).trans Qa.out) 3
            have y4 : w4.cell? ⟨Wo.heap.size, 4, none⟩ = some (.slice md o.L.length mcap) := blk_cell ((Hb4.out.block _ hWoa).trans Qa.out) 4
            have y5 : w4.cell? ⟨Wo.heap.size, 5, none⟩ = some (.int .i64 o.b) := blk_cell ((Hb4.out.block _ hWoa).trans Qa.out) 5
            have y6 : w4.cell? ⟨Wo.heap.size, 6, none⟩ = some (.int .i64 o.e) := blk_cell ((Hb4.out.block _ hWoa).trans Qa.out) 6
            have HKw4 := Lib.hid (HK2.out.trans HK4.out)
            have hdo := does_any pages hp0 hp1 s (by omega) o hofit.1 (by omega) _ md mcap w4 ⟨_, _, rfl, HA.out.kept HKw4.out, HN.out.kept HKw4.out⟩ (HLo.out.kept ((CellsKept.of hba).trans (CellsKept.of Hb4.out))) (hT0.cells (Hkw.out.trans HK4.out))
            unfold opVal at hdo
            have Hdo := Lib.hid hdo
            clear hdo hba
            go_wp2_with fail
            refine Hdo.out.mono ?_
            rintro e w5 ⟨⟨u, rfl, p, d1, n1, k1, d2, n2, k2, b, rfl, hm⟩, hb5⟩
            have HM := Lib.hid hm
            have HJ5 := Lib.hid (hJ _ _ _ HJ4.out (hb5.trans ((new_below (w := w5) (.cells #[.int .i64 p, .slice d1 n1 k1, .slice d2 n2 k2] 63)).mono hb5.size)))
            have HK5 := Lib.hid (HK4.out.trans ((CellsKept.of hb5).trans (CellsKept.of (new_below (w := w5) (.cells #[.int .i64 p, .slice d1 n1 k1, .slice d2 n2 k2] 63)))))
            have HK45 := Lib.hid (HKw4.out.trans ((CellsKept.of hb5).trans (CellsKept.of (new_below (w := w5) (.cells #[.int .i64 p, .slice d1 n1 k1, .slice d2 n2 k2] 63)))))
            clear hm hb5
            obtain ⟨r, er⟩ : ∃ r, doesM pages s o = r := ⟨_, rfl⟩
            rw [er] at HM Esubi
            cases r with
            | none =>
              obtain rfl : b = false := HM.out
              have Hsub := Lib.hid (show (sub i).length = 0 by rw [Esubi.out]; rfl)
              clear eca
              go_wp2_with fail
              go_quiet (fail)
              go_wp2
              go_roundw
              case rel =>
                refine ⟨i + 1, hlt, by go_num, by rw [flat_next, Hsub.out]; exact hJ _ _ _ HJ5.out ⟨rfl, rfl, rfl, Nat.le_refl _, fun _ _ => rfl⟩, HK5.out.trans (CellsKept.of ⟨rfl, rfl, rfl, Nat.le_refl _, fun _ _ => rfl⟩)⟩
              case measure => simp [intOf]; omega
            | some s' =>
              obtain ⟨rfl, hlv'⟩ := HM.out
              have hsl' := doesM_lengthR er
              obtain ⟨WR, hWR⟩ : ∃ WR, w5.alloc (.cells #[.int .i64 p, .slice d1 n1 k1, .slice d2 n2 k2] 63) = WR := ⟨_, rfl⟩
              have hb6 : Below w5.heap.size w5 WR := by rw [← hWR]; exact new_below _
              have q6 : WR.heap[w5.heap.size]? = some (.cells #[.int .i64 p, .slice d1 n1 k1, .slice d2 n2 k2] 63 (0, 0)) := by rw [← hWR]; exact World.alloc_heap_new w5 _
              have hG : w5.heap.size < WR.heap.size := by rw [← hWR]; simp
              have HLV := Lib.hid (hlv'.kept (CellsKept.of hb6))
              have HOv := Lib.hid (HO.out.kept (by rw [hWR] at HK45; exact HK45.out))
              have HKR := Lib.hid (show CellsKept w0 WR from Hkw.out.trans (by rw [hWR] at HK5; exact HK5.out))
              have hlen' : (sub i).length = (gf s' (order ++ [(i : Int)])).length := by rw [Esubi.out]; rfl
              have hxs' : ∀ j x, (gf s' (order ++ [(i : Int)]))[j]? = some x → xs[(k0 + 1 + ((List.range i).flatMap sub).length) + j]? = some x := fun j x hx => by
                have := hxs (1 + ((List.range i).flatMap sub).length + j) x (by
                  rw [← hLL]
                  show (order :: (List.range l.length).flatMap (subM pages l gf s order))[1 + ((List.range i).flatMap sub).length + j]? = some x
                  obtain ⟨rest, hrest⟩ := flat_split sub hlt
                  rw [Esub.out, hrest, show 1 + ((List.range i).flatMap sub).length + j = (((List.range i).flatMap sub).length + j) + 1 by omega, List.getElem?_cons_succ, List.getElem?_append_right (by omega), Nat.add_sub_cancel_left]
                  have hx' : (sub i)[j]? = some x := by rw [Esubi.out]; exact hx
                  rw [List.getElem?_append_left (List.getElem?_eq_some_iff.1 hx').1]
                  exact hx')
                rw [show k0 + 1 + ((List.range i).flatMap sub).length + j = k0 + (1 + ((List.range i).flatMap sub).length + j) by omega]
                exact this
              have hcall := Lib.hid (fun (W' : World) (u : Value) (hb : Below WR.heap.size WR W') (ho : W'.ownsRow WR.heap.size 3 1 u (order.length + 1) (order.map iV ++ [iV (i : Int)])) =>
                ih i s' (.agg #[.int .i64 p, .slice d1 n1 k1, .slice d2 n2 k2]) u W' (k0 + 1 + ((List.range i).flatMap sub).length) hlt eca (by omega) hxs'
                  (HKR.out.trans (CellsKept.of hb)) (HLV.out.kept (CellsKept.of hb)) (ints_of_owns (n := order.length + 1) (by rw [List.map_append]; exact ho)) (fun x hx => by
                    rcases List.mem_append.1 hx with hx | hx
                    · exact hin x hx
                    · simp at hx; omega) (hJ _ _ _ (by rw [hWR] at HJ5; exact HJ5.out) hb))
              have HK5' := Lib.hid (show CellsKept W2 WR by rw [hWR] at HK5; exact HK5.out)
              have Hlen := Lib.hid hlen'
              have Hls := Lib.hid (show LL.length ≥ 1 + (((List.range i).flatMap sub).length + (sub i).length) from by
                rw [← hLL]
                show (order :: (List.range l.length).flatMap (subM pages l gf s order)).length ≥ _
                obtain ⟨rest, hrest⟩ := flat_split sub hlt
                rw [Esub.out, hrest]
                simp; omega)
              go_upto_region 8 with (fail)
              try rw [hWR]
              refine on_region w5.heap.size p d1 d2 n1 k1 n2 k2 _ _ _ order i (fun b W' => (b = true ∧ J (k0 + 1 + ((List.range (i + 1)).flatMap sub).length) W' ∧ CellsKept W2 W') ∨ (b = false ∧ ∃ k, k < k0 + LL.length ∧ Jx k W')) ?text rfl rfl rfl rfl rfl rfl rfl rfl (blk_cell q6 0) (blk_cell q6 1) (blk_cell q6 2) hG HOv.out (by omega) ?call ?rest
              case text =>
                intro k o ho
                have hi : k < 13 := (Array.getElem?_eq_some_iff.1 ho).1
                rcases (show k = 0 ∨ k = 1 ∨ k = 2 ∨ k = 3 ∨ k = 4 ∨ k = 5 ∨ k = 6 ∨ k = 7 ∨ k = 8 ∨ k = 9 ∨ k = 10 ∨ k = 11 ∨ k = 12 by omega) with rfl | rfl | rfl | rfl | rfl | rfl | rfl | rfl | rfl | rfl | rfl | rfl | rfl
                all_goals
                  obtain rfl := Option.some.inj ho
                  exact ⟨_, _, _, rfl, rfl, rfl, rfl, rfl, rfl⟩
              case call =>
                intro W' u hb ho
                refine (hcall.out W' u hb ho).mono ?_
                rintro e w'' (⟨rfl, h1, h2⟩ | ⟨rfl, k, h1, h2⟩)
                · refine ⟨true, rfl, .inl ⟨rfl, ?_, (HK5'.out.trans (CellsKept.of hb)).trans h2⟩⟩
                  rw [flat_next, Hlen.out, ← Nat.add_assoc]
                  exact h1
                · have := Hls.out
                  exact ⟨false, rfl, .inr ⟨rfl, k, by rw [Hlen.out] at this; omega, h2⟩⟩
              case rest =>
                intro a Wf b ha1 ha2 ha3 h51 hpost
                obtain ⟨u, hu, ea⟩ : ∃ u : Nat → Value, (∀ t, Tm a t = u t) ∧ a = putL [39, 40, 41, 42, 43, 44, 45, 46, 47, 48, 49, 50, 51] u _ := ⟨Tm a, fun _ => rfl, act_eq _ ha1 ha2 fun t ht => ha3 t (by simp at ht; omega)⟩
                rw [hu 51] at h51
                subst ea
                simp only [putL, Act.put, List.setIfInBounds_toArray, List.set_cons_succ, List.set_cons_zero, h51]
                have Hpost := Lib.hid hpost
                clear hu ha1 ha2 ha3 hpost h51 hcall
                cases b with
                | true =>
                  obtain ⟨h1, h2⟩ : J (k0 + 1 + ((List.range (i + 1)).flatMap sub).length) Wf ∧ CellsKept W2 Wf := by
                    rcases Hpost.out with ⟨_, h1, h2⟩ | ⟨h, _⟩
                    · exact ⟨h1, h2⟩
                    · cases h
                  have H1 := Lib.hid h1
                  have H2 := Lib.hid h2
                  clear h1 h2
                  go_wp2
                  go_roundw
                  case rel => exact ⟨i + 1, hlt, by go_num, H1.out, H2.out⟩
                  case measure => simp [intOf]; omega
                | false =>
                  obtain ⟨k, h1, h2⟩ : ∃ k, k < k0 + LL.length ∧ Jx k Wf := by
                    rcases Hpost.out with ⟨h, _⟩ | ⟨_, h⟩
                    · cases h
                    · exact h
                  have H2 := Lib.hid h2
                  clear h2
                  go_wp2
                  go_ret
                  exact .inr ⟨rfl, k, h1, H2.out⟩
      · obtain rfl : i = l.length := by omega
        go_wp2
        go_ret
        refine .inl ⟨rfl, ?_, HKo.out⟩
        rw [show LL.length = 1 + ((List.range l.length).flatMap sub).length by rw [← hLL, ← Esub.out]; simp; omega, ← Nat.add_assoc]
        exact HJi.out

theorem subM_none {pages : Int} {l : List OpP} {g : LiveP → List Int → List (List Int)} {s : LiveP} {order : List Int} (h : ∀ i : Nat, i < l.length → order.contains (i : Int) = true) : (List.range l.length).flatMap (subM pages l g s order) = [] := by
  rw [List.flatMap_eq_nil_iff]
  intro i hi
  unfold subM
  rw [h i (List.mem_range.1 hi), Bool.true_or, if_pos rfl]

theorem on_any (pages : Int) (hp0 : 1 ≤ pages) (hp1 : pages ≤ 4096) (l : List OpP) (hlen : l.length ≤ 500) (hfit : ∀ i, i < l.length → (opAt l i).fits ∧ 0 ≤ 0) (lv : Value) (L : Nat) (w0 : World) (hl0 : OpsAt w0 lv l) (hT0 : Tab w0)
    (J Jx : Nat → World → Prop) (hJ : ∀ k W W', J k W → Below W.heap.size W W' → J k W') (xs : List (List Int))
    (hY : ∀ k o u W1, xs[k]? = some o → IntsAt W1 u o → CellsKept w0 W1 → J k W1 → YieldAt Fence.wide 8 Tryd.prog L #[u] W1 fun e W' => (e = .returned (.bool true) ∧ J (k + 1) W' ∧ CellsKept W1 W') ∨ (e = .returned (.bool false) ∧ Jx k W')) :
    ∀ (f : Nat), f ≤ 500 → ∀ (s : LiveP) (order : List Int) (v ov : Value) (W : World) (k0 : Nat), miss order l.length ≤ f → s.length + (f + 1) ≤ 65536 → order.length + (f + 1) ≤ 1000 → (∀ j x, (dfsM pages l f s order)[j]? = some x → xs[k0 + j]? = some x) →
      CellsKept w0 W → LiveAt W v pages s → IntsAt W ov order → InL l order → J k0 W →
      Calls Tryd.prog 60 #[lv, v, ov, .func (.yield L) #[] #[]] W fun e W' => (e = .returned (.bool true) ∧ J (k0 + (dfsM pages l f s order).length) W' ∧ CellsKept W W') ∨ (e = .returned (.bool false) ∧ ∃ k, k < k0 + (dfsM pages l f s order).length ∧ Jx k W') := by
  intro f
  induction f with
  | zero =>
    intro hf s order v ov W k0 hm hsl hol hxs hk hlv hov hin hJ0
    have hc := miss_zero (Nat.le_zero.1 hm)
    have he : order :: (List.range l.length).flatMap (subM pages l (fun _ _ => []) s order) = dfsM pages l 0 s order := by rw [subM_none hc]; rfl
    have := on_step pages hp0 hp1 l hlen hfit lv L w0 hl0 hT0 J Jx hJ xs hY (fun _ _ => []) 0 hf s order v ov W k0 hsl hol (fun i _ _ _ _ _ hi hn => by rw [hc i hi] at hn; cases hn) (dfsM pages l 0 s order) he hxs hk hlv hov hin hJ0
    exact this
  | succ f ih =>
    intro hf s order v ov W k0 hm hsl hol hxs hk hlv hov hin hJ0
    exact on_step pages hp0 hp1 l hlen hfit lv L w0 hl0 hT0 J Jx hJ xs hY (dfsM pages l f) (f + 1) hf s order v ov W k0 hsl hol
      (fun i s' v' u W' k1 hi hn h1 h2 h3 h4 h5 h6 h7 => ih (by omega) s' (order ++ [(i : Int)]) v' u W' k1 (by have := miss_less hn hi; omega) h1 (by simp; omega) h2 h3 h4 h5 h6 h7) _ rfl hxs hk hlv hov hin hJ0
end Go.Proofs.YtomheapokfphiaaDoor
