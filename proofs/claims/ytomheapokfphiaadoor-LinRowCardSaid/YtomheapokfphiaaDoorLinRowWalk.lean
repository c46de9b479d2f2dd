/-
  The walk of Row.
-/
import Derived.Test.YtomheapokfphiaaDoorLinRowOf
namespace Go.Proofs.YtomheapokfphiaaDoor
open Go Go.RowKit Go.Shelf

/-- What a round has behind its switch. -/
def RowDone (G base : Nat) (out : Value) (l : List OpP) (o : OpP) (live : List Int) (ll : Value) (w wx : World) : Prop :=
  ∃ ld lc, wx.heap[G]? = some (.cells #[.int .i64 o.kind, .int .i64 o.size, .int .i64 o.at_, .int .i64 o.code, .slice ld o.L.length lc, .int .i64 o.b, .int .i64 o.e] 50 (0, 0)) ∧ wx.ownsRow base 3 1 (.slice ld o.L.length lc) o.L.length (o.L.map iV) ∧
    Apart (.slice ld o.L.length lc) ll ∧ wx.ownsRow base 3 1 ll live.length (live.map iV) ∧ OpsAp base wx out l ll ∧ Below base w wx

theorem row_end {w wc w1 : World} {G kl : Nat} {out : Value} {l : List OpP} {K : List Int} {b e sz : Int} {left : Value} {vd : Option Addr} {vc : Nat} (hk : K.length = kl) (hb1 : Below wc.heap.size wc w1)
    (hblk : wc.heap[G]? = some (.cells #[.int .i64 1, .int .i64 sz, .int .i64 0, .int .i64 0, .slice none 0 0, .int .i64 b, .int .i64 e] 50 (0, 0)))
    (hown : w1.ownsRow wc.heap.size 3 1 (.slice vd kl vc) kl (K.map iV)) (hrow : wc.ownsRow w.heap.size 3 1 left kl (K.map iV)) (hO : OpsAp w.heap.size wc out l left) (hout : out.ownBlock ≠ some G) (hB : Below w.heap.size w wc) (hG : w.heap.size ≤ G) :
    RowDone G w.heap.size out l ⟨2, 0, 0, 0, K, b, e⟩ K left w (((w1.setCell ⟨G, 0, none⟩ (.int .i64 2)).setCell ⟨G, 1, none⟩ (.int .i64 0)).setCell ⟨G, 4, none⟩ (.slice vd kl vc)) := by
  have hGd : G < wc.heap.size := (Array.getElem?_eq_some_iff.1 hblk).1
  have q0 := (hb1.block G hGd).trans hblk
  have q1 := blk_set q0 0 (.int .i64 2)
  have q2 := blk_set q1 1 (.int .i64 0)
  have q3 := blk_set q2 4 (.slice vd kl vc)
  subst hk
  refine ⟨vd, vc, by simpa using q3, own_store (own_store (own_store (own_weaken hown hB.size) q0 0 _) q1 1 _) q2 4 _, fun g hg hg' => ?_, ?_, ?_, ?_⟩
  · have := (own_lt hown hg).2
    have := (own_lt hrow hg').1
    omega
  · exact own_store (own_store (own_store (own_kept hrow fun g hg => hb1.block g (own_lt hrow hg).1) q0 0 _) q1 1 _) q2 4 _
  · exact (((hO.old fun g hg => hb1.block g hg).store q0 hout 0 _).store q1 hout 1 _).store q2 hout 4 _
  · exact (((hB.trans (hb1.mono hB.size)).setCell (p := ⟨G, 0, none⟩) hG _).setCell (p := ⟨G, 1, none⟩) hG _).setCell (p := ⟨G, 4, none⟩) hG _

set_option maxRecDepth 6000 in
set_option maxHeartbeats 8000000 in
theorem row_any (ns : List Nat) (a : Option Addr) (cap : Nat) (w : World) (h : BytesAt w a ns) :
    Calls Tryd.prog 43 #[.slice a ns.length cap, .int .i64 40] w fun e w' => (∃ u, e = .returned u ∧ OpsOwn w.heap.size w' u (rowM ns 40)) ∧ Below w.heap.size w w' := by
  have H := Lib.hid h
  have hmax := h.1
  unfold maxLen at hmax
  clear h
  obtain ⟨n, en⟩ : ∃ n, ns.length = n := ⟨_, rfl⟩
  have En := Lib.hid en
  rw [en] at hmax ⊢
  clear en
  obtain ⟨i0, hi0, hz0, hz1, hz2⟩ := info_parts' lInfo3
  obtain ⟨i5, hi5, hz5, hs5, hy5⟩ := info_parts' lInfo50
  go_enter Tryd.func43, Tryd.ntmps43
  go_wp2_with fail
  go_loopw [5, 6, 7, 8] (fun o lv nx i wr => ∃ (k : Nat) (od : Option Addr) (oc : Nat) (ld : Option Addr) (lc : Nat), k ≤ 40 ∧ k ≤ n ∧ o = .slice od k oc ∧ lv = .slice ld (stAt ns k).1.length lc ∧ nx = .int .i64 ((stAt ns k).2 : Nat) ∧ i = .int .i64 (k : Nat) ∧
    OpsAp w.heap.size wr (.slice od k oc) ((List.range k).map (rowN ns)) (.slice ld (stAt ns k).1.length lc) ∧ wr.ownsRow w.heap.size 3 1 (.slice ld (stAt ns k).1.length lc) (stAt ns k).1.length ((stAt ns k).1.map iV) ∧ Below w.heap.size w wr) (fun _ _ _ i _ => n - (intOf i).toNat)
  case atStart =>
    exact ⟨0, none, 0, none, 0, by omega, by omega, rfl, rfl, rfl, rfl, opsAp_nil _ _ _, nilRow _ _, Below.refl _ _⟩
  case round =>
    obtain ⟨k, od, oc, ld, lc, hk, hkn, rfl, rfl, rfl, rfl, hap, hlive, hbw⟩ := hrel
    have HO := Lib.hid hap
    have HL := Lib.hid hlive
    have HBw := Lib.hid hbw
    obtain ⟨Wo, hWo⟩ : ∃ Wo, Wo = wr := ⟨_, rfl⟩
    subst hWo
    clear hap hlive hbw
    have hlen := live_len ns k
    have hnext := next_le ns k
    have Hst := Lib.hid (show stAt ns (k + 1) = (rowLive (ns.getD k 0) (stAt ns k).1 (stAt ns k).2, rowNext (ns.getD k 0) (stAt ns k).2) from rfl)
    have Hro := Lib.hid (show rowN ns k = rowOp k (ns.getD k 0) (stAt ns k).1 (stAt ns k).2 from rfl)
    generalize (stAt ns k).1 = live at *
    generalize (stAt ns k).2 = next at *
    obtain ⟨ln, eln⟩ : ∃ ln, live.length = ln := ⟨_, rfl⟩
    rw [eln] at HO HL hlen ⊢
    have Eln := Lib.hid eln
    clear eln
    by_cases hlt : k < n
    · by_cases hms : k < 40
      · obtain ⟨gn, cn, rfl, hx, hc⟩ := bytes_cell (H.out.kept (CellsKept.of HBw.out)) (k := k) (by rw [En.out]; exact hlt)
        obtain ⟨c0, b0⟩ := hc k (by rw [En.out]; exact hlt)
        clear hc
        generalize ns.getD k 0 = x at *
        have m10 : IntKind.i64.wrap ((x : Int) * 10) = (x : Int) * 10 := by rw [IntKind.wrap_i64]; omega
        have m50 : IntKind.i64.wrap (5000 + (x : Int) * 10) = 5000 + (x : Int) * 10 := by rw [IntKind.wrap_i64]; omega
        have m3 : IntKind.i64.wrap (3 * (k : Int)) = 3 * (k : Int) := by rw [IntKind.wrap_i64]; omega
        have m31 : IntKind.i64.wrap (3 * (k : Int) + 1) = 3 * (k : Int) + 1 := by rw [IntKind.wrap_i64]; omega
        go_upto_region 7 with (fail)
        go_cut [9] (fun s9 wx => ∃ G : Nat, s9 = .pointer (some ⟨G, 0, none⟩) ∧ wx.heap[G]? = some (.cells #[.int .i64 1, .int .i64 ((5000 + x * 10 : Nat) : Int), .int .i64 0, .int .i64 0, .slice none 0 0, .int .i64 ((3 * k : Nat) : Int), .int .i64 ((3 * k + 1 : Nat) : Int)] 50 (0, 0)) ∧ Wo.heap.size ≤ G ∧ Below Wo.heap.size Wo wx)
        case first =>
          go_wp2
          go_meet
          exact ⟨Wo.heap.size, rfl, by simpa using World.alloc_heap_new Wo _, Nat.le_refl _, new_below _⟩
        case rest =>
          obtain ⟨G, rfl, hblk, hG, hb1⟩ := hcut
          have r5 : (x : Int).tmod 5 = ((x % 5 : Nat) : Int) := by rw [Int.tmod_eq_emod_of_nonneg (by omega)]; omega
          have hv5 : x % 5 < 5 := Nat.mod_lt _ (by decide)
          have Hop := Lib.hid (show rowOp k x live next = if x % 5 = 0 then ⟨2, 0, 0, 0, keepL x live, ((3 * k : Nat) : Int), ((3 * k + 1 : Nat) : Int)⟩ else if x % 5 = 1 then ⟨1, ((5000 + x * 10 : Nat) : Int), 0, 3, [], ((3 * k : Nat) : Int), ((3 * k + 1 : Nat) : Int)⟩ else ⟨1, ((5000 + x * 10 : Nat) : Int), ((8192 * next : Nat) : Int), 0, [], ((3 * k : Nat) : Int), ((3 * k + 1 : Nat) : Int)⟩ from rfl)
          have Hlv := Lib.hid (show rowLive x live next = if x % 5 = 0 then keepL x live else if x % 5 = 1 then live else live ++ [((8192 * next : Nat) : Int)] from rfl)
          have Hnx := Lib.hid (show rowNext x next = if x % 5 = 0 then next else if x % 5 = 1 then next else next + 1 from rfl)
          generalize x % 5 = v5 at *
          have HOc := Lib.hid (HO.out.old (w' := wc) (fun g hg => hb1.block g hg))
          have HLc := Lib.hid (own_kept HL.out (w' := wc) (fun g hg => hb1.block g (own_lt HL.out hg).1))
          have HLn := Lib.hid (show ∀ g, (Value.slice ld ln lc).ownBlock = some g → g < G from fun g hg => Nat.lt_of_lt_of_le (own_lt HL.out hg).1 hG)
          have Hout := Lib.hid (show (Value.slice od k oc).ownBlock ≠ some G from fun e => by
            obtain ⟨lvs, _, h2, _⟩ := HO.out
            have := (own_lt h2 e).1
            omega)
          have HBc := Lib.hid (below_more HBw.out hb1)
          have hGw : w.heap.size ≤ G := Nat.le_trans HBw.out.size hG
          have hGc : G < wc.heap.size := (Array.getElem?_eq_some_iff.1 hblk).1
          have d0 := (hb1.cell (p := ⟨gn, cn + k, none⟩) hx).trans c0
          clear c0 m10 m50 m3 m31
          go_upto_block 2 with (fail)
          go_cut [6, 7, 9] (fun s6 s7 s9 wx => s9 = .pointer (some ⟨G, 0, none⟩) ∧ s7 = .int .i64 ((rowNext x next : Nat) : Int) ∧ ∃ ld' lc', s6 = .slice ld' (rowLive x live next).length lc' ∧ RowDone G w.heap.size (.slice od k oc) ((List.range k).map (rowN ns)) (rowOp k x live next) (rowLive x live next) (.slice ld' (rowLive x live next).length lc') w wx)
          case first =>
            by_cases h0 : v5 = 0
            · rw [if_pos h0] at Hop Hlv Hnx
              subst h0
              obtain ⟨Wc, hWc⟩ : ∃ Wc, Wc = wc := ⟨_, rfl⟩
              subst hWc
              have hIc := ints_of_owns HLc.out
              have HIc := Lib.hid hIc
              clear hIc
              go_upto_block 3 with (fail)
              go_cut [10] (fun s10 wx => ∃ ld' lc', s10 = .slice ld' (keepL x live).length lc' ∧ wx.ownsRow Wc.heap.size 3 1 (.slice ld' (keepL x live).length lc') (keepL x live).length ((keepL x live).map iV) ∧ Below Wc.heap.size Wc wx)
              case first =>
                go_wp2_with fail
                go_loopw [10, 11] (fun lf qv wr => ∃ (q : Nat) (ld' : Option Addr) (lc' : Nat), q ≤ ln ∧ lf = .slice ld' (keepTo x live q).length lc' ∧ qv = .int .i64 (q : Nat) ∧ wr.ownsRow Wc.heap.size 3 1 (.slice ld' (keepTo x live q).length lc') (keepTo x live q).length ((keepTo x live q).map iV) ∧ Below Wc.heap.size Wc wr) (fun _ q _ => ln - (intOf q).toNat)
                case atStart => exact ⟨0, none, 0, by omega, rfl, rfl, nilRow _ _, Below.refl _ _⟩
                case round =>
                  obtain ⟨q, ld', lc', hq, rfl, rfl, hrow, hbi⟩ := hrel
                  obtain ⟨Wi, hWi⟩ : ∃ Wi, Wi = wr := ⟨_, rfl⟩
                  subst hWi
                  have HR := Lib.hid hrow
                  have HBi := Lib.hid hbi
                  by_cases hqn : q < ln
                  · have dx := (hbi.cell (p := ⟨gn, cn + k, none⟩) (Nat.lt_of_lt_of_le hx hb1.size)).trans d0
                    have rq : (q : Int).tmod 6 = ((q % 6 : Nat) : Int) := by rw [Int.tmod_eq_emod_of_nonneg (by omega)]; omega
                    have Hk1 := Lib.hid (show keepTo x live (q + 1) = keepTo x live q ++ if x >>> (q % 6) &&& 2 = 0 then [live.getD q 0] else [] from rfl)
                    obtain ⟨ga, ca, hva, hga, ka⟩ := intsAt_cell (HIc.out.kept (CellsKept.of hbi)) (k := q) (by rw [Eln.out]; exact hqn)
                    obtain ⟨rfl, rfl⟩ : ld = some ⟨ga, 0, none⟩ ∧ lc = ca := by rw [Eln.out] at hva; injection hva with h1 h2 h3; exact ⟨h1, h3⟩
                    have hr6 : q % 6 < 6 := Nat.mod_lt _ (by decide)
                    generalize q % 6 = rr at *
                    generalize live.getD q 0 = av at *
                    have qn : (q : Int) < ln := by omega
                    have hkl : (keepTo x live q).length ≤ q := by
                      have := (keepTo_sub x live q (by rw [Eln.out]; exact hq)).length_le
                      simp at this
                      omega
                    clear hva hrow hbi
                    generalize hK : keepTo x live q = K at *
                    have HK := Lib.hid hK
                    clear hK
                    go_upto_if 68 with (fail)
                    rw [bit82 x rr b0]
                    obtain ⟨bb, ebb⟩ : ∃ bb, decide (x >>> rr &&& 2 = 0) = bb := ⟨_, rfl⟩
                    rw [ebb]
                    have Ebb := Lib.hid ebb
                    clear ebb
                    cases bb with
                    | false =>
                      have Hk2 := Lib.hid (show keepTo x live (q + 1) = K by rw [Hk1.out, if_neg (of_decide_eq_false Ebb.out), List.append_nil])
                      go_wp2
                      go_roundw
                      case rel =>
                        refine ⟨q + 1, ld', lc', by omega, ?_, by go_num, ?_, HBi.out⟩
                        · rw [Hk2.out]
                        · rw [Hk2.out]; exact HR.out
                      case measure => simp [intOf]; omega
                    | true =>
                      have Hk2 := Lib.hid (show keepTo x live (q + 1) = K ++ [av] by rw [Hk1.out, if_pos (of_decide_eq_true Ebb.out)])
                      have hone : ∀ v ∈ [Value.int .i64 av], v.oneCell' = true := by simp [Value.oneCell']
                      have Hone := Lib.hid hone
                      clear hone
                      have Hnews := Lib.hid (World.news_of_block (World.alloc_heap_new Wi (.cells #[.int .i64 av] 3)))
                      have HR2 := Lib.hid (HR.out.alloc (.cells #[.int .i64 av] 3))
                      obtain ⟨kl, ekl⟩ : ∃ kl, K.length = kl := ⟨_, rfl⟩
                      have Ekl := Lib.hid ekl
                      rw [ekl] at HR2 hkl ⊢
                      clear ekl
                      go_wp2_with (at_builtin; refine wpList_append_lies _ rfl _ _ 41 rfl Wc.heap.size 3 i0 (.int .i64 0) 1 8 Tryd.underlying41 hi0 hz0 hz1 hz2 rfl (by decide) _ _ _ rfl HR2.out _ 1 1 _ rfl rfl Hnews.out Hone.out (by omega) (by unfold maxLen; omega) (by omega) (by have := HBi.out.size; simp; omega) _ rfl ?_; intro g' cap' w1 hown' hgrow _ _)
                      have Hown := Lib.hid hown'
                      have HB7 := Lib.hid ((HBi.out.alloc HBi.out.size (.cells #[.int .i64 av] 3)).grown hgrow (by have := HBi.out.size; simp; omega) (own_later HR2.out))
                      clear hown' hgrow
                      go_roundw
                      case rel =>
                        refine ⟨q + 1, by omega, some ⟨g', 0, none⟩, cap', ⟨rfl, ?_, rfl⟩, by omega, ?_, HB7.out⟩
                        · rw [Hk2.out, List.length_append, Ekl.out]; rfl
                        · rw [Hk2.out, List.length_append, Ekl.out, List.map_append]; exact Hown.out
                      case measure => simp [intOf]; omega
                  · obtain rfl : q = ln := by omega
                    have Hall := Lib.hid (show keepTo x live q = keepL x live by unfold keepL; rw [Eln.out])
                    go_wp2
                    go_meet
                    exact ⟨ld', lc', by rw [Hall.out], by rw [← Hall.out]; exact HR.out, HBi.out⟩
              case rest =>
                obtain ⟨ld', lc', rfl, hrow, hbd⟩ := hcut
                have hml : (keepL x live).length ≤ 40 := by have := (keepL_sub x live).length_le; rw [Eln.out] at this; omega
                have hBd := HBc.out.trans (hbd.mono HBc.out.size)
                have HOd := Lib.hid (HOc.out.fresh (w' := wc) (live' := .slice ld' (keepL x live).length lc') (fun g hg => hbd.block g hg) (own_later hrow))
                have hblkd := (hbd.block G hGc).trans hblk
                have hGd : G < wc.heap.size := (Array.getElem?_eq_some_iff.1 hblkd).1
                have HBd := Lib.hid hBd
                have Hblkd := Lib.hid hblkd
                have Hrow := Lib.hid (own_weaken hrow (show w.heap.size ≤ Wc.heap.size from HBc.out.size))
                have Hlv2 := Lib.hid (show rowLive x live next = keepL x live from Hlv.out)
                generalize keepL x live = K at *
                obtain ⟨kl, ekl⟩ : ∃ kl, K.length = kl := ⟨_, rfl⟩
                have Ekl := Lib.hid ekl
                rw [ekl] at hml HOd Hrow hrow ⊢
                clear ekl hblkd hBd hbd
                have hemp := new_below (w := wc) (.cells #[] 3)
                rcases hrow.2 with ⟨e, _⟩ | ⟨g, cap', cur, e, _, _, _⟩
                · obtain ⟨rfl, rfl, rfl⟩ : ld' = none ∧ kl = 0 ∧ lc' = 0 := by injection e with h1 h2 h3; exact ⟨h1, h2, h3⟩
                  have g0 := blk_cell Hblkd.out 0
                  have f0 := blk_frozen Hblkd.out 0
                  have g1 := blk_cell Hblkd.out 1
                  have f1 := blk_frozen Hblkd.out 1
                  have g4 := blk_cell Hblkd.out 4
                  have f4 := blk_frozen Hblkd.out 4
                  have hKn : K = [] := List.length_eq_zero_iff.1 Ekl.out
                  go_wp2
                  go_meet
                  rw [Hnx.out, Hlv.out, Hop.out, Ekl.out]
                  refine ⟨rfl, rfl, none, 0, rfl, ?_⟩
                  have hre := row_end Ekl.out (new_below _) Hblkd.out (by rw [hKn]; exact lOwn0 wc) Hrow.out HOd.out Hout.out HBd.out hGw
                  rw [World.setCell_alloc_past _ _ _ _ hGd, World.setCell_alloc_past _ _ _ _ (by simpa using hGd), World.setCell_alloc_past _ _ _ _ (by simpa using hGd)] at hre
                  exact hre
                · obtain ⟨rfl, rfl⟩ : ld' = some ⟨g, 0, none⟩ ∧ lc' = cap' := by injection e with h1 h2 h3; exact ⟨h1, h3⟩
                  have hgd : g < wc.heap.size := (own_lt Hrow.out rfl).1
                  have hnews : ∀ j u, (K.map iV)[j]? = some u → (wc.alloc (.cells #[] 3)).cell? ((⟨g, 0, none⟩ : Addr).add j) = some u := fun j u hu => by
                    rw [add0, World.ownsRow.cellAt (Hrow.out.alloc (.cells #[] 3)) j (by have := (List.getElem?_eq_some_iff.1 hu).1; rw [List.length_map, Ekl.out] at this; omega)]
                    exact hu
                  have hone : ∀ u ∈ K.map iV, u.oneCell' = true := fun u hu => by
                    obtain ⟨y, _, rfl⟩ := List.mem_map.1 hu
                    rfl
                  have Hnews := Lib.hid hnews
                  have Hone := Lib.hid hone
                  clear hnews hone e
                  go_wp2_with (at_builtin; refine wpList_append_own_at _ rfl _ _ 41 rfl wc.heap.size 3 i0 (.int .i64 0) 1 8 Tryd.underlying41 hi0 hz0 hz1 hz2 rfl (by decide) _ 0 [] rfl (lOwn0 wc) ⟨g, 0, none⟩ _ _ (K.map iV) rfl (by simp [Ekl.out]) Hnews.out Hone.out (by unfold maxLen; omega) (by omega) (by simp) ?_; intro v' w1 hown' hgrow _ _; obtain ⟨vd, vc, rfl⟩ := own_slice hown'; have hb1' : Below wc.heap.size wc w1 := (new_below (w := wc) (.cells #[] 3)).grown hgrow (by simp) (fun k e => by cases e; exact Nat.le_refl _); have qb := (hb1'.block G hGd).trans Hblkd.out; have g0 := blk_cell qb 0; have g1 := blk_cell qb 1; have g4 := blk_cell qb 4; have f0 := blk_frozen qb 0; have f1 := blk_frozen qb 1; have f4 := blk_frozen qb 4; have Hown := Lib.hid hown'; have Hqb := Lib.hid qb; have Hb1' := Lib.hid hb1'; clear hown' hgrow qb hb1')
                  go_meet
                  rw [Hnx.out, Hlv.out, Hop.out, Ekl.out]
                  refine ⟨rfl, rfl, some ⟨g, 0, none⟩, lc', rfl, ?_⟩
                  exact row_end Ekl.out Hb1'.out Hblkd.out (by simpa using Hown.out) Hrow.out HOd.out Hout.out HBd.out hGw
            · rw [if_neg h0] at Hop Hlv Hnx
              have e0 : ((v5 : Int) == 0) = false := by simp; omega
              by_cases h1 : v5 = 1
              · rw [if_pos h1] at Hop Hlv Hnx
                subst h1
                have g3 := blk_cell hblk 3
                have f3 := blk_frozen hblk 3
                go_wp2
                go_meet
                rw [Hnx.out, Hlv.out, Hop.out, Eln.out]
                refine ⟨rfl, rfl, ld, lc, rfl, none, 0, ?_, nilRow _ _, nil_apart _, ?_, HOc.out.store hblk Hout.out 3 _, HBc.out.setCell (p := ⟨G, 3, none⟩) hGw _⟩
                · simpa using blk_set hblk 3 _
                · rw [Eln.out]; exact own_store HLc.out hblk 3 _
              · rw [if_neg h1] at Hop Hlv Hnx
                have e1 : ((v5 : Int) == 1) = false := by simp; omega
                have g2 := blk_cell hblk 2
                have f2 := blk_frozen hblk 2
                have m8 : IntKind.i64.wrap (8192 * (next : Int)) = 8192 * (next : Int) := by rw [IntKind.wrap_i64]; omega
                have hone : ∀ v ∈ [Value.int .i64 (8192 * (next : Int))], v.oneCell' = true := by simp [Value.oneCell']
                have Hone := Lib.hid hone
                clear hone
                have HB2 := Lib.hid (HBc.out.setCell (p := ⟨G, 2, none⟩) hGw (.int .i64 (8192 * (next : Int))))
                have HO2 := Lib.hid (HOc.out.store hblk Hout.out 2 (.int .i64 (8192 * (next : Int))))
                have HL2 := Lib.hid (own_store HLc.out hblk 2 (.int .i64 (8192 * (next : Int))))
                have Hblk2 := Lib.hid (blk_set hblk 2 (.int .i64 (8192 * (next : Int))))
                have hs2 : (wc.setCell ⟨G, 2, none⟩ (.int .i64 (8192 * (next : Int)))).heap.size = wc.heap.size := by simp
                have Hnews := Lib.hid (World.news_of_block (World.alloc_heap_new (wc.setCell ⟨G, 2, none⟩ (.int .i64 (8192 * (next : Int)))) (.cells #[.int .i64 (8192 * (next : Int))] 3)))
                rw [hs2] at Hnews
                have HL3 := Lib.hid (HL2.out.alloc (.cells #[.int .i64 (8192 * (next : Int))] 3))
                have HO3 := Lib.hid (HO2.out.old (w' := (wc.setCell ⟨G, 2, none⟩ (.int .i64 (8192 * (next : Int)))).alloc (.cells #[.int .i64 (8192 * (next : Int))] 3)) (fun g hg => Below.heap_alloc _ _ g hg))
                have HB3 := Lib.hid (HB2.out.alloc HB2.out.size (.cells #[.int .i64 (8192 * (next : Int))] 3))
                go_wp2_with (at_builtin; refine wpList_append_lies _ rfl _ _ 41 rfl w.heap.size 3 i0 (.int .i64 0) 1 8 Tryd.underlying41 hi0 hz0 hz1 hz2 rfl (by decide) _ _ _ rfl HL3.out _ 1 1 _ rfl rfl Hnews.out Hone.out (by omega) (by unfold maxLen; omega) (by omega) (by have := HBc.out.size; simp; omega) _ rfl ?_; intro g' cap' w1 hown' hgrow hat _)
                have hgr : ((wc.setCell ⟨G, 2, none⟩ (.int .i64 (8192 * (next : Int)))).alloc (.cells #[.int .i64 (8192 * (next : Int))] 3)).grownBy w1 (Value.slice ld ln lc).ownBlock := hgrow
                have hat' : (Value.slice ld ln lc).ownBlock = some g' ∨ g' = ((wc.setCell ⟨G, 2, none⟩ (.int .i64 (8192 * (next : Int)))).alloc (.cells #[.int .i64 (8192 * (next : Int))] 3)).heap.size := hat
                have HO4 := Lib.hid (HO3.out.grow (live' := .slice (some ⟨g', 0, none⟩) (ln + 1) cap') HL3.out hgr (fun g hg => by
                  have hg : g' = g := by simpa [Value.ownBlock] using hg
                  subst hg
                  exact hat'.imp id (fun e => Nat.le_of_eq e.symm)))
                have HB4 := Lib.hid (HB3.out.grown hgr (by have := HBc.out.size; simp; omega) (own_later HL3.out))
                have HG4 := Lib.hid ((hgr.block G (by simp; omega) (fun e => by have := HLn.out G e.symm; omega)).trans ((Below.heap_alloc _ _ G (by simp; omega)).trans Hblk2.out))
                have Hown := Lib.hid hown'
                clear hown' hgrow hat hat' hgr
                go_meet
                rw [Hnx.out, Hlv.out, Hop.out, List.length_append, Eln.out]
                refine ⟨rfl, by simp, some ⟨g', 0, none⟩, cap', rfl, none, 0, ?_, nilRow _ _, nil_apart _, ?_, HO4.out, HB4.out⟩
                · simpa using HG4.out
                · rw [List.length_append, Eln.out, List.map_append]
                  simpa [iV] using Hown.out
          case rest =>
            obtain ⟨rfl, rfl, ld', lc', rfl, xd, xc, hblk5, hxr, hxa, hlr, hoa, hbz⟩ := hcut
            have Hst2 := Lib.hid (show (stAt ns (k + 1)).1 = rowLive x live next ∧ (stAt ns (k + 1)).2 = rowNext x next from ⟨by rw [Hst.out], by rw [Hst.out]⟩)
            have Hro2 := Lib.hid (show rowN ns k = rowOp k x live next from Hro.out)
            generalize rowLive x live next = live' at *
            generalize rowNext x next = next' at *
            generalize rowOp k x live next = oo at *
            obtain ⟨ll, ell⟩ : ∃ ll, (List.range k).map (rowN ns) = ll := ⟨_, rfl⟩
            have hll : ll.length = k := by rw [← ell]; simp
            rw [ell] at hoa
            have g0 := blk_cell hblk5 0
            have g1 := blk_cell hblk5 1
            have g2 := blk_cell hblk5 2
            have g3 := blk_cell hblk5 3
            have g4 := blk_cell hblk5 4
            have g5 := blk_cell hblk5 5
            have g6 := blk_cell hblk5 6
            have hoa2 := hoa.old (w' := wc.alloc (.cells #[.int .i64 oo.kind, .int .i64 oo.size, .int .i64 oo.at_, .int .i64 oo.code, .slice xd oo.L.length xc, .int .i64 oo.b, .int .i64 oo.e] 50)) (fun g hg => Below.heap_alloc wc _ g hg)
            obtain ⟨lvs, hl1, hl2, hl3, hl4⟩ := hoa2
            have hl2' := hl2
            rw [hll] at hl2'
            have Hnews := Lib.hid (World.news_of_block (World.alloc_heap_new wc (.cells #[.int .i64 oo.kind, .int .i64 oo.size, .int .i64 oo.at_, .int .i64 oo.code, .slice xd oo.L.length xc, .int .i64 oo.b, .int .i64 oo.e] 50)))
            have Hl2 := Lib.hid hl2'
            have Hl2' := Lib.hid hl2
            have Hl3 := Lib.hid hl3
            have Hl4 := Lib.hid hl4
            have Hxr := Lib.hid (hxr.alloc (.cells #[.int .i64 oo.kind, .int .i64 oo.size, .int .i64 oo.at_, .int .i64 oo.code, .slice xd oo.L.length xc, .int .i64 oo.b, .int .i64 oo.e] 50))
            have Hlr := Lib.hid (hlr.alloc (.cells #[.int .i64 oo.kind, .int .i64 oo.size, .int .i64 oo.at_, .int .i64 oo.code, .slice xd oo.L.length xc, .int .i64 oo.b, .int .i64 oo.e] 50))
            have Hxa := Lib.hid hxa
            have HBz := Lib.hid hbz
            have Hll := Lib.hid hll
            have Ell := Lib.hid ell
            have Hlvs := Lib.hid hl1
            clear hll ell hl1 hl2 hl2' hl3 hl4 hoa hxr hlr hxa hblk5 hbz
            have hone : ∀ v ∈ [Value.int .i64 oo.kind, .int .i64 oo.size, .int .i64 oo.at_, .int .i64 oo.code, .slice xd oo.L.length xc, .int .i64 oo.b, .int .i64 oo.e], v.oneCell' = true := by simp [Value.oneCell']
            have Hone := Lib.hid hone
            clear hone
            go_wp2_with (at_builtin; refine wpList_append_lies _ rfl _ _ 39 rfl w.heap.size 50 i5 (.agg #[.int .i64 0, .int .i64 0, .int .i64 0, .int .i64 0, .slice none 0 0, .int .i64 0, .int .i64 0]) 7 72 Tryd.underlying39 hi5 hz5 hs5 hy5 rfl (by decide) _ _ _ rfl Hl2.out _ 1 1 _ rfl rfl Hnews.out Hone.out (by omega) (by unfold maxLen; omega) (by omega) (by have := HBz.out.size; simp; omega) _ rfl ?_; intro g' cap' w1 hown' hgrow _ _)
            have HO7 := Lib.hid (opsAp_app2 Hlvs.out Hl2'.out Hl3.out Hl4.out Hlr.out Hxr.out Hxa.out (o := oo) hgrow (by rw [Hll.out]; exact hown'))
            have HB7 := Lib.hid ((HBz.out.alloc HBz.out.size (.cells #[.int .i64 oo.kind, .int .i64 oo.size, .int .i64 oo.at_, .int .i64 oo.code, .slice xd oo.L.length xc, .int .i64 oo.b, .int .i64 oo.e] 50)).grown hgrow (by have := HBz.out.size; simp; omega) (own_later Hl2.out))
            clear hown' hgrow
            go_roundw
            case rel =>
              refine ⟨k + 1, some ⟨g', 0, none⟩, cap', ld', lc', by omega, by omega, rfl, by rw [Hst2.out.1], by rw [Hst2.out.2], by go_num, ?_, ?_, HB7.out⟩
              · rw [List.range_succ, List.map_append, Ell.out, List.map_cons, List.map_nil, Hro2.out, Hst2.out.1]
                exact HO7.out.1
              · rw [Hst2.out.1]
                exact HO7.out.2
            case measure => simp [intOf]; omega
      · go_wp2_with fail
        go_ret
        refine ⟨⟨_, rfl, ?_⟩, HBw.out⟩
        have : min ns.length 40 = k := by rw [En.out]; omega
        unfold rowM
        rw [this]
        exact HO.out.own
    · go_wp2_with fail
      go_ret
      refine ⟨⟨_, rfl, ?_⟩, HBw.out⟩
      have : min ns.length 40 = k := by rw [En.out]; omega
      unfold rowM
      rw [this]
      exact HO.out.own
end Go.Proofs.YtomheapokfphiaaDoor
