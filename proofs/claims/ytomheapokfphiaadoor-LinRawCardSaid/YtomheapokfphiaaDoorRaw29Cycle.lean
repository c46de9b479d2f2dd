/-
  The contract of the document's accepts at a cycle.
-/
import Derived.Test.YtomheapokfphiaaDoorRaw29Region
namespace Go.Proofs.YtomheapokfphiaaDoor
open Go Go.RowKit Go.Shelf

/-- What accepts tells. -/
def AccDone (w : World) (r : Option LiveP) (e : Ending) (w' : World) : Prop := (∃ u, e = .returned (.tuple #[u, .bool r.isSome]) ∧ LivesAt w' u (r.getD [])) ∧ Below w.heap.size w w'

set_option maxRecDepth 6000 in
set_option maxHeartbeats 8000000 in
theorem accepts_cycle (pages : Int) (s : LiveP) (hs : s.length ≤ 400) (sz at_ : Int) (L : List Int) (b e : Int) (sv : Value) (ld : Option Addr) (lc : Nat) (w : World) (h : LivesAt w sv s) (hl : IntsAt w (.slice ld L.length lc) L) :
    Calls Tryd.prog 58 #[.int .i64 pages, sv, .agg #[.int .i64 2, .int .i64 sz, .int .i64 at_, .int .i64 0, .slice ld L.length lc, .int .i64 b, .int .i64 e]] w fun e w' => AccDone w (cycleM s L) e w' := by
  have HS := Lib.hid h
  have HL := Lib.hid hl
  obtain ⟨sd, scap, rfl⟩ := lives_slice h
  clear h hl
  obtain ⟨sn, esn⟩ : ∃ sn, s.length = sn := ⟨_, rfl⟩
  have Esn := Lib.hid esn
  obtain ⟨ln, eln⟩ : ∃ ln, L.length = ln := ⟨_, rfl⟩
  have Eln := Lib.hid eln
  rw [esn] at HS hs ⊢
  rw [eln] at HL ⊢
  clear esn eln
  obtain ⟨r, er⟩ : ∃ r, cycleM s L = r := ⟨_, rfl⟩
  rw [er]
  have Hbad := Lib.hid (fun (k : Nat) (hk : k < ln) (h : okAt s L k = false) => (show r = none from er.symm.trans (cycleM_bad (by rw [Eln.out]; exact hk) h)))
  have Hgood := Lib.hid (fun (h : ∀ k, k < ln → okAt s L k = true) => (show r = some (L.map fun a => (a, nOf s a)) from er.symm.trans (cycleM_good (fun k hk => h k (by rw [Eln.out] at hk; exact hk)))))
  clear er
  obtain ⟨W0, hW0⟩ : ∃ W0, w.alloc (.cells #[.int .i64 2, .int .i64 sz, .int .i64 at_, .int .i64 0, .slice ld ln lc, .int .i64 b, .int .i64 e] 50) = W0 := ⟨_, rfl⟩
  have hB0 : Below w.heap.size w W0 := by rw [← hW0]; exact new_below _
  have hG0 := World.alloc_heap_new w (.cells #[.int .i64 2, .int .i64 sz, .int .i64 at_, .int .i64 0, .slice ld ln lc, .int .i64 b, .int .i64 e] 50)
  rw [hW0] at hG0
  have HW0 := Lib.hid hW0
  have HB0 := Lib.hid hB0
  have HG0 := Lib.hid hG0
  have hGl : w.heap.size < W0.heap.size := (Array.getElem?_eq_some_iff.1 hG0).1
  obtain ⟨i0, hi0, hz0, hz1, hz2⟩ := info_parts' lInfo84
  clear hW0 hB0 hG0
  go_enter Tryd.func58, Tryd.ntmps58
  go_upto_region 18 with (fail)
  rw [HW0.out]
  go_wp2_with fail
  go_loopw [13, 14] (fun o i wr => ∃ (k : Nat) (od : Option Addr) (oc : Nat), k ≤ ln ∧ o = .slice od k oc ∧ i = .int .i64 (k : Nat) ∧ (∀ j, j < k → okAt s L j = true) ∧ wr.ownsRow W0.heap.size 84 2 (.slice od k oc) k (flatLive ((L.take k).map fun a => (a, nOf s a))) ∧ Below W0.heap.size W0 wr) (fun _ i _ => ln - (intOf i).toNat)
  case atStart => exact ⟨0, none, 0, by omega, rfl, rfl, fun j hj => absurd hj (Nat.not_lt_zero j), World.ownsRow_nil _ _ _ _, Below.refl _ _⟩
  case round =>
    obtain ⟨k, od, oc, hk, rfl, rfl, hok, hrow, hbw⟩ := hrel
    have hks : k ≤ sn := by rw [← Esn.out]; exact ok_le (by rw [Eln.out]; exact hk) hok
    obtain ⟨Wo, hWo⟩ : ∃ Wo, Wo = wr := ⟨_, rfl⟩
    subst hWo
    have HK := Lib.hid hok
    have HR := Lib.hid hrow
    have Hbo := Lib.hid hbw
    have HBw := Lib.hid (below_more HB0.out hbw)
    have hG := (hbw.block w.heap.size hGl).trans HG0.out
    have gg := blk_cell hG 4
    clear hok hrow hbw hG
    by_cases hlt : k < ln
    · obtain ⟨gl, glo, cl, hvl, hgl, hcx⟩ := intsAt_cell (HL.out.kept (CellsKept.of HBw.out)) (k := k) (by rw [Eln.out]; exact hlt)
      obtain ⟨rfl, rfl⟩ : ld = some ⟨gl, glo, none⟩ ∧ lc = cl := by rw [Eln.out] at hvl; injection hvl with h1 h2 h3; exact ⟨h1, h3⟩
      obtain ⟨x, ex⟩ : ∃ x, L.getD k 0 = x := ⟨_, rfl⟩
      rw [ex] at hcx
      have Ex := Lib.hid ex
      have kI : (k : Int) < ln := by omega
      have H70 := Lib.hid (place_any s (by rw [Esn.out]; omega) x (.slice sd sn scap) Wo (HS.out.kept (CellsKept.of HBw.out)))
      clear ex hvl
      go_wp2_with fail
      refine H70.out.mono ?_
      rintro e1 w1 ⟨⟨idx, rfl, hidx⟩, rfl⟩
      rcases hidx with ⟨p, rfl, hp, he, hn⟩ | ⟨rfl, hn⟩
      · obtain ⟨hany, hnof⟩ := index_some hp he hn
        rw [List.length_map] at hp
        obtain ⟨q, hq⟩ : ∃ q, s[p]? = some q := ⟨_, List.getElem?_eq_getElem hp⟩
        have hq1 : q.1 = x := by rw [← he, List.getD_eq_getElem?_getD, List.getElem?_map, hq]; rfl
        have hq2 : q.2 = nOf s x := by rw [hnof, List.getD_eq_getElem?_getD, List.getElem?_map, hq]; rfl
        obtain ⟨gs, cs, hvs, hgs, z0, z1⟩ := livesAt_cell (HS.out.kept (CellsKept.of HBw.out)) hq
        obtain ⟨rfl, rfl⟩ : sd = some ⟨gs, 0, none⟩ ∧ scap = cs := by rw [Esn.out] at hvs; injection hvs with h1 h2 h3; exact ⟨h1, h3⟩
        rw [hq1] at z0
        rw [hq2] at z1
        rw [Esn.out] at hp
        have pI : (p : Int) < sn := by omega
        have p0 : decide ((p : Int) < 0) = false := decide_eq_false (by omega)
        have Hany := Lib.hid hany
        have Hpair := Lib.hid (show (L.take (k + 1)).map (fun a => (a, nOf s a)) = (L.take k).map (fun a => (a, nOf s a)) ++ [(x, nOf s x)] by
          rw [List.take_add_one, getD_get (by rw [Eln.out]; exact hlt), Ex.out, List.map_append]; rfl)
        generalize nOf s x = nx at *
        clear hany hnof hn he hq hq1 hq2 hvs
        have hone : ∀ v ∈ [Value.int .i64 x, Value.int .i64 nx], v.oneCell' = true := by simp [Value.oneCell']
        have Hone := Lib.hid hone
        clear hone
        obtain ⟨ob, eob⟩ : ∃ ob, okAt s L k = ob := ⟨_, rfl⟩
        have Eob := Lib.hid eob
        clear eob
        go_upto_region 23 with (fail)
        go_cut [13, 14, 15, 139] (fun s13 s14 s15 s139 wx => s13 = .slice od k oc ∧ s14 = .int .i64 (k : Nat) ∧ s15 = .int .i64 (p : Nat) ∧ s139 = .bool (!ob) ∧ Below Wo.heap.size Wo wx)
        case first =>
          rcases Nat.eq_zero_or_pos k with rfl | hpos
          · obtain rfl : ob = true := Eob.out.symm.trans (by unfold okAt; rw [Ex.out, Hany.out]; rfl)
            go_quiet (fail)
            go_wp2
            go_meet
            exact ⟨rfl, rfl, rfl, rfl, draw_below (Below.refl _ _) _⟩
          · obtain ⟨m, rfl⟩ : ∃ m, k = m + 1 := ⟨k - 1, by omega⟩
            obtain ⟨gl2, gl2o, cl2, hvl2, _, hcy⟩ := intsAt_cell (HL.out.kept (CellsKept.of HBw.out)) (k := m) (by rw [Eln.out]; omega)
            obtain ⟨rfl, rfl⟩ : gl = gl2 ∧ glo = gl2o := by injection hvl2 with h1 h2 h3; injection h1 with h1; injection h1 with h1 h4; exact ⟨h1, h4⟩
            obtain ⟨y, ey⟩ : ∃ y, L.getD m 0 = y := ⟨_, rfl⟩
            rw [ey] at hcy
            have Ey := Lib.hid ey
            clear ey hvl2
            have mI : (m : Int) < ln := by omega
            have m0 : decide ((0 : Int) < (m : Int) + 1) = true := decide_eq_true (by omega)
            by_cases hle : x ≤ y
            · obtain rfl : ob = false := Eob.out.symm.trans (by unfold okAt; rw [Ex.out, Hany.out, Nat.add_sub_cancel, Ey.out]; simp; omega)
              have qle : decide (x ≤ y) = true := decide_eq_true hle
              go_quiet (fail)
              go_wp2
              go_meet
              exact ⟨rfl, rfl, rfl, rfl, draw_below (Below.refl _ _) _⟩
            · obtain rfl : ob = true := Eob.out.symm.trans (by unfold okAt; rw [Ex.out, Hany.out, Nat.add_sub_cancel, Ey.out]; simp; omega)
              have qle : decide (x ≤ y) = false := decide_eq_false hle
              go_quiet (fail)
              go_wp2
              go_meet
              exact ⟨rfl, rfl, rfl, rfl, draw_below (Below.refl _ _) _⟩
        case rest =>
          obtain ⟨rfl, rfl, rfl, rfl, hbc⟩ := hcut
          have HBc := Lib.hid (below_more HBw.out hbc)
          have Hbc := Lib.hid (below_more Hbo.out hbc)
          have z0' := (hbc.cell (p := ⟨gs, p * 2, none⟩) hgs).trans z0
          have z1' := (hbc.cell (p := ⟨gs, p * 2 + 1, none⟩) hgs).trans z1
          have HR2 := Lib.hid (own_kept HR.out (w' := wc) (fun g hg => hbc.block g (own_lt HR.out hg).1))
          clear hbc z0 z1
          cases ob with
          | false =>
            obtain rfl : r = none := Hbad.out k hlt Eob.out
            go_wp2
            go_ret2
            exact ⟨⟨_, rfl, livesAt_nil _⟩, HBc.out⟩
          | true =>
            have Hnews := Lib.hid (World.news_of_block (World.alloc_heap_new wc (.cells #[.int .i64 x, .int .i64 nx] 84)))
            have HR3 := Lib.hid (HR2.out.alloc (.cells #[.int .i64 x, .int .i64 nx] 84))
            go_wp2_with (at_builtin; refine wpList_append_lies _ rfl _ _ 74 rfl W0.heap.size 84 i0 (.agg #[.int .i64 0, .int .i64 0]) 2 16 Tryd.underlying74 hi0 hz0 hz1 hz2 rfl (by decide) _ _ _ rfl HR3.out _ 1 1 _ rfl rfl Hnews.out Hone.out (by omega) (by unfold maxLen; omega) (by omega) (by have := Hbc.out.size; simp; omega) _ rfl ?_; intro g' cap' w9 hown' hgrow _ _)
            have Hown := Lib.hid hown'
            have HB7 := Lib.hid ((Hbc.out.alloc Hbc.out.size (.cells #[.int .i64 x, .int .i64 nx] 84)).grown hgrow (by have := Hbc.out.size; simp; omega) (own_later HR3.out))
            clear hown' hgrow
            go_roundw
            case rel =>
              refine ⟨k + 1, some ⟨g', 0, none⟩, cap', by omega, rfl, by go_num, (fun j hj => ?_), ?_, HB7.out⟩
              · rcases Nat.lt_or_ge j k with h | h
                · exact HK.out j h
                · obtain rfl : j = k := by omega
                  exact Eob.out
              · rw [Hpair.out, flatLive_app]
                exact Hown.out
            case measure => simp [intOf]; omega
      · have Hok := Lib.hid (show okAt s L k = false by unfold okAt; rw [Ex.out, index_none hn]; rfl)
        obtain rfl : r = none := Hbad.out k hlt Hok.out
        clear hn
        go_wp2_with fail
        go_quiet (fail)
        go_wp2
        go_ret2
        exact ⟨⟨_, rfl, livesAt_nil _⟩, draw_below HBw.out _⟩
    · obtain rfl : k = ln := by omega
      obtain rfl : r = some (L.map fun a => (a, nOf s a)) := Hgood.out HK.out
      have Htake := Lib.hid (show L.take k = L by rw [← Eln.out]; exact List.take_length)
      have hlv := HR.out
      rw [Htake.out] at hlv
      have Hlv := Lib.hid (lives_of_owns (s := L.map fun a => (a, nOf s a)) (by rw [List.length_map, Eln.out]) hlv)
      clear hlv
      go_wp2
      go_ret2
      exact ⟨⟨_, rfl, Hlv.out⟩, HBw.out⟩
end Go.Proofs.YtomheapokfphiaaDoor
