/-
  The contract of Decode.
-/
import Derived.Test.YtkdigojjeiidmaaDoorFieldRegions
import Derived.Deep.LoopGhost
namespace Go.Proofs.YtkdigojjeiidmaaDoor
open Go Go.RowKit Go.Shelf

/-- A script came back: new memory from base on. -/
def DecDone (base : Nat) (ns : List Nat) (e : Ending) (w' : World) : Prop := ∃ v, e = .returned v ∧ ScriptOwn w' base v (decodeM ns)
def zero29 : Obj := .cells #[.int .i64 0, .int .i64 0, .slice none 0 0, .slice none 0 0, .slice none 0 0] 29
theorem info36 : (Tryd.prog.info? 36).map (fun i => (i.zero, i.size, i.bytes)) = some (some (.agg #[.int .i64 0, .int .i64 0, .slice none 0 0]), 3, 40) := by kernel_rfl
theorem info34 : (Tryd.prog.info? 34).map (fun i => (i.zero, i.size, i.bytes)) = some (some (.slice none 0 0), 1, 24) := by kernel_rfl
/-- The struct, the reader, the draws so far. -/
def Dec1 (S : Nat) (pg T : Nat) (ns : List Nat) (k : Nat) (w wr : World) : Prop :=
  ∃ dv, wr.heap[S]? = some (.cells #[.int .i64 pg, .int .i64 T, dv, .slice none 0 0, .slice none 0 0] 29 (0, 0)) ∧ wr.ownsRow (S + 2) 56 1 dv k ((drawsM ns k).map uV) ∧ RdAt wr (S + 1) ns (2 + k) ∧ Below S w wr
/-- .. and the lists of so many threads. -/
def Dec2 (S : Nat) (pg T : Nat) (ns : List Nat) (t : Nat) (w wr : World) : Prop :=
  ∃ dv cv, wr.heap[S]? = some (.cells #[.int .i64 pg, .int .i64 T, dv, cv, .slice none 0 0] 29 (0, 0)) ∧ wr.ownsRow (S + 2) 56 1 dv 8 ((drawsM ns 8).map uV) ∧ ListsOwn wr (S + 2) cv (listsM ns t) ∧ RdAt wr (S + 1) ns (posM ns t) ∧ Below S w wr
/-- So many calls of a thread. -/
def Dec3 (S : Nat) (ns : List Nat) (p q : Nat) (Wo wr : World) (lv : Value) : Prop := CallsOwn wr Wo.heap.size lv (callsM ns p q) ∧ RdAt wr (S + 1) ns (p + 3 * q) ∧ Kept (fun g => g = S + 1) Wo wr
/-- .. and so many picks. -/
def Dec4 (S : Nat) (pg T : Nat) (ns : List Nat) (p k : Nat) (dv cv : Value) (Wo wr : World) : Prop :=
  ∃ pv, wr.heap[S]? = some (.cells #[.int .i64 pg, .int .i64 T, dv, cv, pv] 29 (0, 0)) ∧ wr.ownsRow Wo.heap.size 3 1 pv k ((picksM ns T p k).map iV) ∧ RdAt wr (S + 1) ns (p + k) ∧ Kept (fun g => g = S ∨ g = S + 1) Wo wr
theorem at_end {k n p : Nat} (h : k = 0 ∨ p + k ≤ n) (h2 : ¬ p + k < n) : k = n - p := by omega
theorem rd_start {w : World} {ad : Option Addr} {cap : Nat} {ns : List Nat} (hb : BytesAt w ad ns) (hcap : ns.length ≤ cap) (o : Obj) :
    RdAt ((w.alloc o).alloc (.cells #[.slice ad ns.length cap] 54)) (w.heap.size + 1) ns 0 := by
  obtain ⟨h1, h2, h3⟩ := hb
  have hs : (w.alloc o).heap.size = w.heap.size + 1 := by simp
  refine ⟨ad, cap, by rw [← hs]; exact World.alloc_heap_new _ _, by omega, h1, h2, ?_⟩
  rcases h3 with rfl | ⟨g, c, e, hg, hc⟩
  · exact .inl (by simp)
  · refine .inr ⟨g, c, e, by omega, fun j hj => ?_⟩
    have hj' : ns[0 + j]? = some (bt ns (0 + j)) := by unfold bt; rw [List.getD_eq_getElem?_getD, List.getElem?_eq_getElem hj]; rfl
    rw [Nat.zero_add] at hj' ⊢
    exact (((Kept.refl (fun _ => False) w).alloc o).alloc _).cell (hc j _ hj') (fun h => h)

set_option maxRecDepth 8000 in
set_option maxHeartbeats 4000000 in
theorem decode_any (ad : Option Addr) (cap : Nat) (ns : List Nat) (w : World) (hb : BytesAt w ad ns) (hcap : ns.length ≤ cap) (hroom : ns.length + 300 ≤ 4398046511104) :
    Calls Tryd.prog 10 #[.slice ad ns.length cap] w fun e w' => DecDone w.heap.size ns e w' ∧ Below w.heap.size w w' := by
  have h255 := bt_le hb.2.1
  have H1 := Lib.hid (next_any (w.heap.size + 1) ns 0 _ (rd_start hb hcap zero29))
  obtain ⟨x0, ex0⟩ : ∃ x0, bt ns 0 = x0 := ⟨_, rfl⟩
  obtain ⟨x1, ex1⟩ : ∃ x1, bt ns 1 = x1 := ⟨_, rfl⟩
  have b0 := h255 0
  have b1 := h255 1
  rw [ex0] at b0
  rw [ex1] at b1
  have q96 : (x0 : Int).tmod 96 = ((x0 % 96 : Nat) : Int) := tmod_nat x0 96
  have q6 : (x1 : Int).tmod 6 = ((x1 % 6 : Nat) : Int) := tmod_nat x1 6
  have Epg : pagesOf ns = 1 + x0 % 96 := by unfold pagesOf; rw [ex0]
  have ETh : threadsOf ns = 1 + x1 % 6 := by unfold threadsOf; rw [ex1]
  have hp96 : x0 % 96 < 96 := Nat.mod_lt _ (by decide)
  have hp6 : x1 % 6 < 6 := Nat.mod_lt _ (by decide)
  generalize x0 % 96 = y0 at *
  generalize x1 % 6 = y1 at *
  have HPg := Lib.hid Epg
  have HTh := Lib.hid ETh
  rw [ex0] at H1
  have EX1 := Lib.hid ex1
  have H255 := Lib.hid h255
  have Hroom := Lib.hid hroom
  have K0 := Lib.hid (((Kept.refl (fun _ => False) w).alloc zero29).alloc (.cells #[.slice ad ns.length cap] 54))
  have bS : ((w.alloc zero29).alloc (.cells #[.slice ad ns.length cap] 54)).heap[w.heap.size]? = some zero29 := (Below.heap_alloc _ _ _ (by simp)).trans (World.alloc_heap_new _ _)
  have BS := Lib.hid bS
  have hk0 : Below w.heap.size w ((w.alloc zero29).alloc (.cells #[.slice ad ns.length cap] 54)) := ((Below.refl _ w).alloc (Nat.le_refl _) _).alloc (by simp) _
  have HK0 := Lib.hid hk0
  clear Epg ETh ex0 ex1 h255 hb hcap bS hk0 hroom
  unfold zero29 at *
  obtain ⟨j0, hj0, hy0, hy1, hy2⟩ := info_parts' info36
  obtain ⟨l0, hl0, hv0, hv1, hv2⟩ := info_parts' info34
  go_enter Tryd.func10, Tryd.ntmps10
  go_wp2_with fail
  refine H1.out.mono ?_
  rintro e w1 ⟨rfl, h1, k1⟩
  have BS1 := Lib.hid (k1.blk BS.out (by omega))
  have HK1 := Lib.hid (HK0.out.trans (k1.below (by simp; omega) (fun g h => by omega)))
  have HR1 := Lib.hid h1
  have c0 := blk_cell BS1.out 0
  have f0 := blk_frozen BS1.out 0
  simp at c0
  clear h1 k1 H1
  have S1 := Lib.hid ((blk_set BS1.out 0 (.int .i64 (1 + (y0 : Int)))).trans (show _ = some (Obj.cells #[.int .i64 (1 + (y0 : Int)), .int .i64 0, .slice none 0 0, .slice none 0 0, .slice none 0 0] 29 (0, 0)) from by simp))
  have HR1' := Lib.hid (HR1.out.kept (kept_set w1 ⟨w.heap.size, 0, none⟩ (.int .i64 (1 + (y0 : Int)))) (show ∀ g, (g + 1 < w.heap.size + 1 ∨ g = w.heap.size + 1) → ¬ g = w.heap.size by omega))
  have HK1' := Lib.hid (HK1.out.setCell (p := ⟨w.heap.size, 0, none⟩) (Nat.le_refl _) (.int .i64 (1 + (y0 : Int))))
  have H2 := next_any (w.heap.size + 1) ns (0 + 1) _ HR1'.out
  rw [show bt ns (0 + 1) = x1 from EX1.out] at H2
  have H2 := Lib.hid H2
  go_wp2_with fail
  refine H2.out.mono ?_
  rintro e w2 ⟨rfl, h2, k2⟩
  have BS2 := Lib.hid (k2.blk S1.out (by omega))
  have HK2 := Lib.hid (HK1'.out.trans (k2.below (by have := HK1'.out.size; omega) (fun g h => by omega)))
  have HR2 := Lib.hid h2
  have c1 := blk_cell BS2.out 1
  have f1 := blk_frozen BS2.out 1
  simp at c1
  clear h2 k2 H2 c0 f0 HR1' HR1 HK1 S1 BS1 BS HK0 K0
  have S2 := Lib.hid ((blk_set BS2.out 1 (.int .i64 (1 + (y1 : Int)))).trans (show _ = some (Obj.cells #[.int .i64 (1 + (y0 : Int)), .int .i64 (1 + (y1 : Int)), .slice none 0 0, .slice none 0 0, .slice none 0 0] 29 (0, 0)) from by simp))
  have HR2' := Lib.hid (HR2.out.kept (kept_set w2 ⟨w.heap.size, 1, none⟩ (.int .i64 (1 + (y1 : Int)))) (show ∀ g, (g + 1 < w.heap.size + 1 ∨ g = w.heap.size + 1) → ¬ g = w.heap.size by omega))
  have HK2' := Lib.hid (HK2.out.setCell (p := ⟨w.heap.size, 1, none⟩) (Nat.le_refl _) (.int .i64 (1 + (y1 : Int))))
  obtain ⟨pg, epg⟩ : ∃ pg, 1 + y0 = pg := ⟨_, rfl⟩
  obtain ⟨T, eT⟩ : ∃ T, 1 + y1 = T := ⟨_, rfl⟩
  have ipg : (1 + (y0 : Int)) = ((pg : Nat) : Int) := by omega
  have iT : (1 + (y1 : Int)) = ((T : Nat) : Int) := by omega
  have hT1 : 1 ≤ T ∧ T ≤ 6 := by omega
  have hpg1 : 1 ≤ pg ∧ pg ≤ 96 := by omega
  have HPg := HPg.out
  have HTh := HTh.out
  rw [epg] at HPg
  rw [eT] at HTh
  have HPg := Lib.hid HPg
  have HTh := Lib.hid HTh
  rw [ipg, iT] at S2
  rw [iT] at HR2' HK2'
  clear epg eT
  go_wp2_with fail
  clear ipg iT q96 q6 c1 f1 HR2 HK2 BS2 HK1'
  obtain ⟨W2, eW⟩ : ∃ W2, w2.setCell ⟨w.heap.size, 1, none⟩ (.int .i64 (T : Int)) = W2 := ⟨_, rfl⟩
  rw [eW] at S2 HR2' HK2' ⊢
  clear eW
  go_loopw [20] (fun i wr => ∃ k : Nat, k ≤ 8 ∧ i = .int .i64 k ∧ Dec1 w.heap.size pg T ns k w wr) (fun i _ => 8 - (intOf i).toNat)
  case atStart => exact ⟨0, by omega, rfl, _, S2.out, World.ownsRow_nil _ _ _ _, HR2'.out, HK2'.out⟩
  case round =>
    obtain ⟨k, hk8, rfl, dv, hS, hown, hR, hbw⟩ := hrel
    obtain ⟨Wo, hWo⟩ : ∃ Wo, Wo = wr := ⟨_, rfl⟩
    subst hWo
    obtain ⟨dd, dcap, rfl⟩ := own_slice hown
    have HS := Lib.hid hS
    have HO := Lib.hid hown
    have HR := Lib.hid hR
    have HB := Lib.hid hbw
    clear hS hown hR hbw
    by_cases hlt : k < 8
    · go_upto_region 6 with (fail)
      refine draws_region w.heap.size (w.heap.size + 1) (w.heap.size + 2) _ dd k dcap ((drawsM ns k).map uV) ns (2 + k) ?text rfl rfl rfl HR.out (H255.out _) rfl HS.out rfl HO.out (by have := HR.out.lt; omega) (by omega) (by omega) rfl (by omega) ?rest
      case text =>
        intro i o ho
        have hi : i < 11 := (Array.getElem?_eq_some_iff.1 ho).1
        rcases (show i = 0 ∨ i = 1 ∨ i = 2 ∨ i = 3 ∨ i = 4 ∨ i = 5 ∨ i = 6 ∨ i = 7 ∨ i = 8 ∨ i = 9 ∨ i = 10 by omega) with rfl | rfl | rfl | rfl | rfl | rfl | rfl | rfl | rfl | rfl | rfl
        all_goals
          obtain rfl := Option.some.inj ho
          exact ⟨_, _, _, rfl, rfl, rfl, rfl, rfl, rfl⟩
      case rest =>
        intro a W1 v ha1 ha2 ha3 hK hS1 hO1 hR1
        obtain ⟨u, hu, ea⟩ : ∃ u : Nat → Value, (∀ t, Tm a t = u t) ∧ a = putL [22, 23, 24, 25, 26, 27, 28, 29, 30, 31] u _ := ⟨Tm a, fun _ => rfl, act_eq _ ha1 ha2 fun t ht => ha3 t (by simp at ht; omega)⟩
        clear hu ha1 ha2 ha3
        subst ea
        have HS1 := Lib.hid hS1
        have HO1 := Lib.hid hO1
        have HR1 := Lib.hid hR1
        have HK := Lib.hid (HB.out.trans (hK.below (B := w.heap.size) (by have := HB.out.size; omega) (fun g h => by omega)))
        clear hS1 hO1 hR1 hK
        simp only [putL]
        go_wp2_with fail
        go_roundw
        case rel => exact ⟨k + 1, by omega, by go_num, v, HS1.out, by rw [show drawsM ns (k + 1) = drawsM ns k ++ [((bt ns (2 + k) : Nat) : Int)] from rfl, List.map_append]; exact HO1.out, HR1.out, HK.out⟩
        case measure => simp [intOf]; omega
    · obtain rfl : k = 8 := by omega
      have g1 := blk_cell HS.out 1
      simp at g1
      go_wp2_with fail
      clear g1
      go_loopw [36] (fun i wr => ∃ t : Nat, t ≤ T ∧ i = .int .i64 t ∧ Dec2 w.heap.size pg T ns t w wr) (fun i _ => T - (intOf i).toNat)
      case atStart => exact ⟨0, by omega, rfl, _, _, HS.out, HO.out, listsOwn_nil _ _, HR.out, HB.out⟩
      case round =>
        obtain ⟨t, htT, rfl, dv, cv, hS, hown, hlists, hR, hbw⟩ := hrel
        obtain ⟨Wq, hWq⟩ : ∃ Wq, Wq = wr := ⟨_, rfl⟩
        subst hWq
        clear HS HO HR HB
        have HS := Lib.hid hS
        have HO := Lib.hid hown
        have HL := Lib.hid hlists
        have HR := Lib.hid hR
        have HB := Lib.hid hbw
        clear hS hown hlists hR hbw
        by_cases hlt : t < T
        · have H3 := next_any (w.heap.size + 1) ns (posM ns t) _ HR.out
          have bx := H255.out (posM ns t)
          have Hlist := Lib.hid (show listsM ns (t + 1) = listsM ns t ++ [listM ns t] from rfl)
          have Hpos := Lib.hid (show posM ns (t + 1) = posM ns t + 1 + 3 * (bt ns (posM ns t) % 12) from rfl)
          have Hlm := Lib.hid (show listM ns t = callsM ns (posM ns t + 1) (bt ns (posM ns t) % 12) from rfl)
          obtain ⟨x, ex⟩ : ∃ x, bt ns (posM ns t) = x := ⟨_, rfl⟩
          rw [ex] at H3 bx Hpos Hlm
          have H3 := Lib.hid H3
          clear ex
          have q12 : (x : Int).tmod 12 = ((x % 12 : Nat) : Int) := tmod_nat x 12
          have hx12 : x % 12 < 12 := Nat.mod_lt _ (by decide)
          generalize x % 12 = n at *
          go_wp2_with fail
          refine H3.out.mono ?_
          rintro e w3 ⟨rfl, h3, k3⟩
          have HS3 := Lib.hid (k3.blk HS.out (by omega))
          have HO3 := Lib.hid (k3.own HO.out (fun g hg => by have := own_later HO.out g hg; omega))
          have HL3 := Lib.hid (HL.out.kept (fun g hg hlt => k3.block g hlt (by omega)))
          have HR3 := Lib.hid h3
          have HB3 := Lib.hid (HB.out.trans (k3.below (B := w.heap.size) (by have := HR.out.lt; omega) (fun g h => by omega)))
          clear h3 k3 HS HO HL HR HB H3
          go_wp2_with fail
          clear q12
          go_loopw [4, 41] (fun l j wr => ∃ q : Nat, q ≤ n ∧ j = .int .i64 q ∧ Dec3 w.heap.size ns (posM ns t + 1) q w3 wr l) (fun _ j _ => n - (intOf j).toNat)
          case atStart => exact ⟨0, by omega, rfl, callsOwn_nil _ _, HR3.out, Kept.refl _ _⟩
          case round =>
            obtain ⟨q, hqn, rfl, hcalls, hR, hK⟩ := hrel
            obtain ⟨Wi, hWi⟩ : ∃ Wi, Wi = wr := ⟨_, rfl⟩
            subst hWi
            obtain ⟨xs, hx, hrest⟩ := hcalls
            obtain ⟨ld, lcap, rfl⟩ := own_slice hx
            rw [callsM_len] at hx
            have HX := Lib.hid hx
            have Hrest := Lib.hid hrest
            have HK := Lib.hid hK
            have HRi := Lib.hid hR
            have hcl := callsM_len ns (posM ns t + 1) q
            have Hcl := Lib.hid hcl
            have H4 := Lib.hid (rcall_any (w.heap.size + 1) ns (posM ns t + 1 + 3 * q) _ hR)
            clear hx hrest hK hcl hR
            by_cases hqlt : q < n
            · have Hsucc := Lib.hid (show callsM ns (posM ns t + 1) (q + 1) = callsM ns (posM ns t + 1) q ++ [callM (bt ns (posM ns t + 1 + 3 * q)) (bt ns (posM ns t + 1 + 3 * q + 1)) (bt ns (posM ns t + 1 + 3 * q + 2))] from rfl)
              generalize callM (bt ns (posM ns t + 1 + 3 * q)) (bt ns (posM ns t + 1 + 3 * q + 1)) (bt ns (posM ns t + 1 + 3 * q + 2)) = oc at *
              rw [callsM_len]
              go_wp2_with fail
              refine H4.out.mono ?_
              rintro e w4 ⟨⟨lv, rfl, hlv⟩, h4, k4⟩
              obtain ⟨vd, vcap, rfl⟩ := own_slice hlv
              have hB3 := HR3.out.lt
              have hz3 := HK.out.size
              have hz4 := k4.size
              have HX4 := Lib.hid ((k4.own HX.out (fun g hg => by have := own_later HX.out g hg; omega)).alloc (.cells #[.int .i64 oc.kind, .int .i64 oc.a, .slice vd oc.L.length vcap] 36))
              have HV4 := Lib.hid ((own_weaken hlv hz3).alloc (.cells #[.int .i64 oc.kind, .int .i64 oc.a, .slice vd oc.L.length vcap] 36))
              have Hr4 := Lib.hid (fun j o hj => by
                obtain ⟨lv', a, b, c, d⟩ := Hrest.out j o hj
                exact (⟨lv', a, b, c, (k4.own d (fun g hg => by have := own_later d g hg; omega)).alloc (.cells #[.int .i64 oc.kind, .int .i64 oc.a, .slice vd oc.L.length vcap] 36)⟩ : ∃ lv', xs[j * 3]? = some (.int .i64 o.kind) ∧ xs[j * 3 + 1]? = some (.int .i64 o.a) ∧ xs[j * 3 + 2]? = some lv' ∧ World.ownsRow _ w3.heap.size 3 1 lv' o.L.length (o.L.map iV)))
              have Hnews := Lib.hid (World.news_of_block (World.alloc_heap_new w4 (.cells #[.int .i64 oc.kind, .int .i64 oc.a, .slice vd oc.L.length vcap] 36)))
              have Hone := Lib.hid (show ∀ v ∈ [Value.int .i64 oc.kind, .int .i64 oc.a, .slice vd oc.L.length vcap], v.oneCell' = true by simp [Value.oneCell'])
              have HR4 := Lib.hid (h4.kept (kept_alloc w4 (.cells #[.int .i64 oc.kind, .int .i64 oc.a, .slice vd oc.L.length vcap] 36)) (fun _ _ h => h))
              have HK4 := Lib.hid ((HK.out.trans k4 (fun g _ h => h)).alloc (.cells #[.int .i64 oc.kind, .int .i64 oc.a, .slice vd oc.L.length vcap] 36))
              unfold callV
              clear hlv h4 k4
              go_wp2_with (at_builtin; refine wpList_append_lies _ rfl _ _ 34 rfl w3.heap.size 36 j0 _ 3 40 Tryd.underlying34 hj0 hy0 hy1 hy2 rfl (by decide) _ _ _ rfl HX4.out _ 1 1 _ rfl rfl Hnews.out Hone.out (by omega) (by unfold maxLen; omega) (by omega) (by simp; omega) _ rfl ?_; intro g' cap' w5 hown' hgrow _ _)
              go_roundw
              case rel =>
                refine ⟨q + 1, by omega, by go_num, ?_, ?_, ?_⟩
                · rw [Hsucc.out]
                  exact CallsOwn.grown Hcl.out.symm HX4.out Hr4.out HV4.out hgrow hown'
                · exact HR4.out.kept (kept_grown hgrow (own_later HX4.out)) (by omega)
                · exact HK4.out.grown hgrow (fun k e hk => by have := own_later HX4.out k e; omega)
              case measure => simp [intOf]; omega
            · obtain rfl : q = n := by omega
              have hz3 := HK.out.size
              have hzr := HR3.out.lt
              rw [callsM_len]
              obtain ⟨ys, hy, hyr⟩ := HL3.out
              obtain ⟨cd, ccap, rfl⟩ := own_slice hy
              rw [listsM_len] at hy
              have hll := listsM_len ns t
              have Hll := Lib.hid hll
              have S5 := Lib.hid ((Below.heap_alloc Wi (.cells #[.slice ld q lcap] 34) w.heap.size (by omega)).trans (HK.out.blk HS3.out (by omega)))
              have HY5 := Lib.hid ((HK.out.own hy (fun g hg => by have := own_later hy g hg; omega)).alloc (.cells #[.slice ld q lcap] 34))
              have HO5 := Lib.hid ((HK.out.own HO3.out (fun g hg => by have := own_later HO3.out g hg; omega)).alloc (.cells #[.slice ld q lcap] 34))
              have Hyr := Lib.hid (fun j cl hj => by
                obtain ⟨cv', a, b⟩ := hyr j cl hj
                exact (⟨cv', a, (b.kept (fun g hg hlt => HK.out.block g hlt (by omega))).kept (fun g _ hlt => Below.heap_alloc Wi (.cells #[.slice ld q lcap] 34) g hlt)⟩ : ∃ cv', ys[j]? = some cv' ∧ CallsOwn (Wi.alloc (.cells #[.slice ld q lcap] 34)) (w.heap.size + 2) cv' cl))
              have HC5 := Lib.hid ((show CallsOwn Wi w3.heap.size (.slice ld q lcap) (callsM ns (posM ns t + 1) q) from ⟨xs, by rw [Hcl.out]; exact HX.out, Hrest.out⟩).weaken (show w.heap.size + 2 ≤ w3.heap.size by omega) |>.kept (fun g _ hlt => Below.heap_alloc Wi (.cells #[.slice ld q lcap] 34) g hlt))
              have HR5 := Lib.hid (HRi.out.kept (kept_alloc Wi (.cells #[.slice ld q lcap] 34)) (fun _ _ h => h))
              have HB5 := Lib.hid ((HB3.out.trans (HK.out.below (B := w.heap.size) (by omega) (fun g h => by omega))).alloc (by omega) (.cells #[.slice ld q lcap] 34))
              have Hnews := Lib.hid (World.news_of_block (World.alloc_heap_new Wi (.cells #[.slice ld q lcap] 34)))
              have Hone := Lib.hid (show ∀ v ∈ [Value.slice ld q lcap], v.oneCell' = true by simp [Value.oneCell'])
              have k3 := blk_cell (HK.out.blk HS3.out (show ¬ w.heap.size = w.heap.size + 1 by omega)) 3
              have fz3 := blk_frozen (HK.out.blk HS3.out (show ¬ w.heap.size = w.heap.size + 1 by omega)) 3
              simp at k3
              rw [listsM_len] at k3
              clear hy hyr hll
              go_wp2_with (at_builtin; refine wpList_append_lies _ rfl _ _ 26 rfl (w.heap.size + 2) 34 l0 _ 1 24 Tryd.underlying26 hl0 hv0 hv1 hv2 rfl (by decide) _ _ _ rfl HY5.out _ 1 1 _ rfl rfl Hnews.out Hone.out (by omega) (by unfold maxLen; omega) (by omega) (by simp; omega) _ rfl ?_; intro g' cap' w5 hown' hgrow _ _; have HC1 := Lib.hid (blk_grown hgrow S5.out (fun e => by have := own_later HY5.out _ e; omega)); have x3 := blk_cell HC1.out 3; have y3 := blk_frozen HC1.out 3; simp at x3)
              go_roundw
              case rel =>
                have hne : ∀ g, w.heap.size + 2 ≤ g → g ≠ w.heap.size := by omega
                have hO' := own_grown HO5.out HY5.out (by decide) hgrow
                refine ⟨t + 1, by omega, by go_num, _, _, (blk_set HC1.out 3 _).trans (by simp; rfl), own_kept hO' (fun g hg => Below.heap_setCell _ _ _ _ (hne g (own_later hO' g hg))), ?_, ?_, ?_⟩
                · rw [Hlist.out, Hlm.out]
                  exact (ListsOwn.grown Hll.out.symm HY5.out Hyr.out HC5.out hgrow hown').kept (fun g hg _ => Below.heap_setCell _ _ _ _ (hne g hg))
                · rw [Hpos.out]
                  exact (HR5.out.kept (kept_grown hgrow (own_later HY5.out)) (by omega)).kept (kept_set w5 ⟨w.heap.size, 3, none⟩ _) (show ∀ g, (g + 1 < w.heap.size + 1 ∨ g = w.heap.size + 1) → ¬ g = w.heap.size by omega)
                · exact (HB5.out.grown hgrow (by simp; omega) (fun k e => by have := own_later HY5.out k e; omega)).setCell (Nat.le_refl _) _
              case measure => simp [intOf]; omega
        · obtain rfl : t = T := by omega
          have Hend := Lib.hid (show endOf ns = posM ns t by unfold endOf; rw [HTh.out])
          have hzr := HR.out.lt
          obtain ⟨zd, zc, rfl⟩ := own_slice HO.out
          obtain ⟨cd, cc, rfl⟩ := HL.out.slice
          go_wp2_with fail
          go_loopg [] (ns.length - posM ns t) (fun gk wr => ∃ k : Nat, gk = ns.length - (posM ns t + k) ∧ (k = 0 ∨ posM ns t + k ≤ ns.length) ∧ Dec4 w.heap.size pg t ns (posM ns t) k (.slice zd 8 zc) (.slice cd (listsM ns t).length cc) Wq wr)
          case atStart => exact ⟨0, rfl, .inl rfl, _, HS.out, World.ownsRow_nil _ _ _ _, HR.out, Kept.refl _ _⟩
          case round =>
            obtain ⟨k, rfl, hke, pv, hS, hpk, hR, hK⟩ := hrel
            obtain ⟨Wp, hWp⟩ : ∃ Wp, Wp = wr := ⟨_, rfl⟩
            subst hWp
            obtain ⟨dd, dcap, rfl⟩ := own_slice hpk
            have HS4 := Lib.hid hS
            have HP := Lib.hid hpk
            have HR4 := Lib.hid hR
            have HK := Lib.hid hK
            obtain ⟨ad', cap', hb', hcap', hmax', _, _⟩ := hR
            have d0 := blk_cell hb' 0
            simp at d0
            unfold maxLen at hmax'
            have hzk := HK.out.size
            clear hS hpk hK hb'
            have hroom := Hroom.out
            by_cases hlt : posM ns t + k < ns.length
            · have hpos : 0 < ns.length - (posM ns t + k) := by omega
              have hgt : decide ((0 : Int) < ((ns.length - (posM ns t + k) : Nat) : Int)) = true := decide_eq_true (by omega)
              generalize hM : ns.length - (posM ns t + k) = m at d0 hcap' hpos hgt
              have HM := Lib.hid hM
              clear hM
              go_upto_region 18 with (fail)
              refine picks_region w.heap.size (w.heap.size + 1) Wq.heap.size _ dd k dcap ((picksM ns t (posM ns t) k).map iV) ns (posM ns t + k) t ?text2 rfl rfl rfl HR4.out (by omega) (by omega) rfl rfl HS4.out rfl HP.out hzk (by omega) (by omega) rfl (by omega) ?rest2
              case text2 =>
                intro i o ho
                have hi : i < 12 := (Array.getElem?_eq_some_iff.1 ho).1
                rcases (show i = 0 ∨ i = 1 ∨ i = 2 ∨ i = 3 ∨ i = 4 ∨ i = 5 ∨ i = 6 ∨ i = 7 ∨ i = 8 ∨ i = 9 ∨ i = 10 ∨ i = 11 by omega) with rfl | rfl | rfl | rfl | rfl | rfl | rfl | rfl | rfl | rfl | rfl | rfl
                all_goals
                  obtain rfl := Option.some.inj ho
                  exact ⟨_, _, _, rfl, rfl, rfl, rfl, rfl, rfl⟩
              case rest2 =>
                intro a W1 v ha1 ha2 ha3 hK hS1 hO1 hR1
                obtain ⟨u, hu, ea⟩ : ∃ u : Nat → Value, (∀ t, Tm a t = u t) ∧ a = putL [62, 63, 64, 65, 66, 67, 68, 69, 70, 71, 72] u _ := ⟨Tm a, fun _ => rfl, act_eq _ ha1 ha2 fun t ht => ha3 t (by simp at ht; omega)⟩
                clear hu ha1 ha2 ha3
                subst ea
                have HS1 := Lib.hid hS1
                have HO1 := Lib.hid hO1
                have HR1 := Lib.hid hR1
                have HK1 := Lib.hid (HK.out.trans hK (fun g hg h => by omega))
                clear hS1 hO1 hR1 hK
                simp only [putL]
                go_simp
                go_wp2_with fail
                go_roundg (ns.length - (posM ns t + (k + 1)))
                case measure => have := HM.out; omega
                case rel => exact ⟨k + 1, rfl, .inr (by omega), v, HS1.out, by rw [show picksM ns t (posM ns t) (k + 1) = picksM ns t (posM ns t) k ++ [((bt ns (posM ns t + k) % t : Nat) : Int)] from rfl, List.map_append]; exact HO1.out, HR1.out, HK1.out⟩
            · have e0 : ns.length - (posM ns t + k) = 0 := by omega
              rw [e0] at d0
              have hk : k = ns.length - posM ns t := at_end hke hlt
              have Hk := Lib.hid hk
              have g0 := blk_cell HS4.out 0
              have g1 := blk_cell HS4.out 1
              have g2 := blk_cell HS4.out 2
              have g3 := blk_cell HS4.out 3
              have g4 := blk_cell HS4.out 4
              have f0 := blk_frozen HS4.out 0
              have f1 := blk_frozen HS4.out 1
              have f2 := blk_frozen HS4.out 2
              have f3 := blk_frozen HS4.out 3
              have f4 := blk_frozen HS4.out 4
              simp at g0 g1 g2 g3 g4
              clear e0 hk hlt hke
              go_wp2_with fail
              have hkf : ∀ v0 v1 v2 v3 v4, Kept (fun g => g = w.heap.size) Wp (((((Wp.setCell ⟨w.heap.size, 0, none⟩ v0).setCell ⟨w.heap.size, 1, none⟩ v1).setCell ⟨w.heap.size, 2, none⟩ v2).setCell ⟨w.heap.size, 3, none⟩ v3).setCell ⟨w.heap.size, 4, none⟩ v4) := fun v0 v1 v2 v3 v4 =>
                (((((Kept.refl (fun g => g = w.heap.size) Wp).setCell (p := ⟨w.heap.size, 0, none⟩) (fun _ => rfl) _).setCell (p := ⟨w.heap.size, 1, none⟩) (fun _ => rfl) _).setCell (p := ⟨w.heap.size, 2, none⟩) (fun _ => rfl) _).setCell (p := ⟨w.heap.size, 3, none⟩) (fun _ => rfl) _).setCell (p := ⟨w.heap.size, 4, none⟩) (fun _ => rfl) _
              have HKF := Lib.hid hkf
              clear hkf
              refine bodyPost_ret (v := .agg #[.int .i64 (pg : Nat), .int .i64 (t : Nat), .slice zd 8 zc, .slice cd (listsM ns t).length cc, .slice dd k dcap]) (by simp [results, Tryd.results10, go_sem, g0, g1, g2, g3, g4]) rfl ⟨⟨_, rfl, ?_⟩, ?_⟩
              · have hD := HK.out.own HO.out (fun g hg => by have := own_later HO.out g hg; omega)
                have hLi := HL.out.kept (fun g hg hlt => HK.out.block g hlt (by omega))
                refine ⟨.slice zd 8 zc, .slice cd (listsM ns t).length cc, .slice dd k dcap, ?_, own_weaken ((HKF.out _ _ _ _ _).own hD (fun g hg => by have := own_later hD g hg; omega)) (by omega), ?_, ?_⟩
                · show _ = Value.agg #[.int .i64 ((pagesOf ns : Nat) : Int), .int .i64 ((threadsOf ns : Nat) : Int), _, _, _]
                  rw [HPg.out, HTh.out]
                · show ListsOwn _ _ _ (listsM ns (threadsOf ns))
                  rw [HTh.out]
                  exact (hLi.kept (fun g hg hlt => (HKF.out _ _ _ _ _).block g hlt (by omega))).weaken (by omega)
                · show World.ownsRow _ _ _ _ _ (picksM ns (threadsOf ns) (endOf ns) (ns.length - endOf ns)).length ((picksM ns (threadsOf ns) (endOf ns) (ns.length - endOf ns)).map iV)
                  rw [picksM_len, HTh.out, Hend.out, ← Hk.out]
                  exact own_weaken ((HKF.out _ _ _ _ _).own HP.out (fun g hg => by have := own_later HP.out g hg; omega)) (by omega)
              · exact (HB.out.trans (HK.out.below (B := w.heap.size) (by omega) (fun g h => by omega))).trans ((HKF.out _ _ _ _ _).below (by omega) (fun g h => by omega))
end Go.Proofs.YtkdigojjeiidmaaDoor
