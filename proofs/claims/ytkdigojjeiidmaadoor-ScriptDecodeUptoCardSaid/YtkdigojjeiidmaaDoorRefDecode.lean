/-
  The contract of the document's Decode.
-/
import Derived.Test.YtkdigojjeiidmaaDoorRefRegions
import Derived.Test.YtkdigojjeiidmaaDoorDecode
namespace Go.Proofs.YtkdigojjeiidmaaDoor
open Go Go.RowKit Go.Shelf

theorem at_int (B : Nat) (ad : Option Addr) (cap : Nat) (ns : List Nat) (i : Nat) (z : Int) (w : World) (hb : BytesIn B w ad ns) (hmax : ns.length ≤ 9223372036854775807) (hz : z = i) :
    Calls Tryd.prog 26 #[.slice ad ns.length cap, .int .i64 z] w fun e w' => e = .returned (.int .i64 (bt ns i : Nat)) ∧ w = w' := by
  subst hz
  exact at_any B ad cap ns i w hb hmax
def RDec1 (S : Nat) (pg T : Nat) (ns : List Nat) (k : Nat) (w wr : World) : Prop :=
  ∃ dv, wr.heap[S]? = some (.cells #[.int .i64 pg, .int .i64 T, dv, .slice none 0 0, .slice none 0 0] 29 (0, 0)) ∧ wr.ownsRow (S + 1) 56 1 dv k ((drawsM ns k).map uV) ∧ Below S w wr
def RDec2 (S : Nat) (pg T : Nat) (ns : List Nat) (t : Nat) (w wr : World) : Prop :=
  ∃ dv cv, wr.heap[S]? = some (.cells #[.int .i64 pg, .int .i64 T, dv, cv, .slice none 0 0] 29 (0, 0)) ∧ wr.ownsRow (S + 1) 56 1 dv 8 ((drawsM ns 8).map uV) ∧ ListsOwn wr (S + 1) cv (listsM ns t) ∧ Below S w wr
def RDec3 (ns : List Nat) (p q : Nat) (Wo wr : World) (lv : Value) : Prop := CallsOwn wr Wo.heap.size lv (callsM ns p q) ∧ Below Wo.heap.size Wo wr
def RDec4 (S : Nat) (pg T : Nat) (ns : List Nat) (p k : Nat) (dv cv : Value) (Wo wr : World) : Prop :=
  ∃ pv, wr.heap[S]? = some (.cells #[.int .i64 pg, .int .i64 T, dv, cv, pv] 29 (0, 0)) ∧ wr.ownsRow Wo.heap.size 3 1 pv k ((picksM ns T p k).map iV) ∧ Kept (fun g => g = S) Wo wr
theorem posM_int (ns : List Nat) (t : Nat) : posM ns t ≤ 10 + 34 * t := (posM_ge ns t).2

set_option maxRecDepth 100000 in
set_option maxHeartbeats 4000000 in
theorem refdecode_any (ad : Option Addr) (cap : Nat) (ns : List Nat) (w : World) (hb : BytesAt w ad ns) (hroom : ns.length + 300 ≤ 4398046511104) :
    Calls Tryd.prog 13 #[.slice ad ns.length cap] w fun e w' => DecDone w.heap.size ns e w' ∧ Below w.heap.size w w' := by
  have h255 := bt_le hb.2.1
  have hmax : ns.length ≤ 9223372036854775807 := by omega
  have Hb0 := Lib.hid (BytesIn.of hb)
  have Hb1 := Lib.hid ((BytesIn.of hb).kept ((Kept.refl (fun _ => False) w).alloc zero29) (fun _ _ h => h))
  obtain ⟨x0, ex0⟩ : ∃ x0, bt ns 0 = x0 := ⟨_, rfl⟩
  obtain ⟨x1, ex1⟩ : ∃ x1, bt ns 1 = x1 := ⟨_, rfl⟩
  have H1 := at_int w.heap.size ad cap ns 0 0 _ Hb1.out hmax rfl
  have H2 := at_int w.heap.size ad cap ns 1 1 _ Hb1.out hmax rfl
  have b0 := h255 0
  have b1 := h255 1
  rw [ex0] at b0 H1
  rw [ex1] at b1 H2
  have H1 := Lib.hid H1
  have H2 := Lib.hid H2
  have q96 : (x0 : Int).tmod 96 = ((x0 % 96 : Nat) : Int) := tmod_nat x0 96
  have q6 : (x1 : Int).tmod 6 = ((x1 % 6 : Nat) : Int) := tmod_nat x1 6
  have Epg : pagesOf ns = 1 + x0 % 96 := by unfold pagesOf; rw [ex0]
  have ETh : threadsOf ns = 1 + x1 % 6 := by unfold threadsOf; rw [ex1]
  have hp96 : x0 % 96 < 96 := Nat.mod_lt _ (by decide)
  have hp6 : x1 % 6 < 6 := Nat.mod_lt _ (by decide)
  generalize x0 % 96 = y0 at *
  generalize x1 % 6 = y1 at *
  obtain ⟨pg, epg⟩ : ∃ pg, 1 + y0 = pg := ⟨_, rfl⟩
  obtain ⟨T, eT⟩ : ∃ T, 1 + y1 = T := ⟨_, rfl⟩
  rw [epg] at Epg
  rw [eT] at ETh
  have ipg : (1 + (y0 : Int)) = ((pg : Nat) : Int) := by omega
  have iT : (1 + (y1 : Int)) = ((T : Nat) : Int) := by omega
  have hT1 : 1 ≤ T ∧ T ≤ 6 := by omega
  have HPg := Lib.hid Epg
  have HTh := Lib.hid ETh
  have H255 := Lib.hid h255
  have HM := Lib.hid hmax
  have Hroom := Lib.hid hroom
  clear Epg ETh ex0 ex1 h255 hb hroom epg eT
  obtain ⟨j0, hj0, hy0, hy1, hy2⟩ := info_parts' info36
  obtain ⟨l0, hl0, hv0, hv1, hv2⟩ := info_parts' info34
  unfold zero29 at *
  go_enter Tryd.func13, Tryd.ntmps13
  go_wp2_with fail
  refine H1.out.mono ?_
  rintro e w1 ⟨rfl, rfl⟩
  go_wp2_with fail
  refine H2.out.mono ?_
  rintro e w1 ⟨rfl, rfl⟩
  clear H1 H2
  go_wp2_with fail
  obtain ⟨O1, eO1⟩ : ∃ O1, Obj.cells #[.int .i64 0, .int .i64 0, .slice none 0 0, .slice none 0 0, .slice none 0 0] 29 = O1 := ⟨_, rfl⟩
  obtain ⟨W2, eW⟩ : ∃ W2, (w.alloc (.cells #[.int .i64 0, .int .i64 0, .slice none 0 0, .slice none 0 0, .slice none 0 0] 29)).alloc (.cells #[.int .i64 pg, .int .i64 T, .slice none 0 0, .slice none 0 0, .slice none 0 0] 29) = W2 := ⟨_, rfl⟩
  have hz2 : W2.heap.size = w.heap.size + 2 := by rw [← eW]; simp
  have hs1 : (w.alloc (.cells #[.int .i64 0, .int .i64 0, .slice none 0 0, .slice none 0 0, .slice none 0 0] 29)).heap.size = w.heap.size + 1 := by simp
  have sS : W2.heap[w.heap.size + 1]? = some (.cells #[.int .i64 pg, .int .i64 T, .slice none 0 0, .slice none 0 0, .slice none 0 0] 29 (0, 0)) := by rw [← eW, ← hs1]; exact World.alloc_heap_new _ _
  have sG : W2.heap[w.heap.size]? = some (.cells #[.int .i64 0, .int .i64 0, .slice none 0 0, .slice none 0 0, .slice none 0 0] 29 (0, 0)) := by rw [← eW]; exact (Below.heap_alloc _ _ _ (by simp)).trans (World.alloc_heap_new _ _)
  have kW : Below w.heap.size w W2 := by rw [← eW]; exact ((Below.refl _ w).alloc (Nat.le_refl _) _).alloc (by simp) _
  have HS2 := Lib.hid sS
  have HG2 := Lib.hid sG
  have HW2 := Lib.hid kW
  have Hz2 := Lib.hid hz2
  have HbW : ∀ wx, Below w.heap.size w wx → BytesIn w.heap.size wx ad ns := fun wx h => Hb0.out.kept (Kept.of h) (fun g hg => by omega)
  have Hbw := Lib.hid HbW
  clear hs1 sS sG kW hz2 HbW eO1 O1
  rw [eW]
  clear eW ipg iT q96 q6
  have hS1 : w.heap.size < w.heap.size + 1 := by omega
  go_loopw [4] (fun i wr => ∃ k : Nat, k ≤ 8 ∧ i = .int .i64 ((k + 2 : Nat) : Int) ∧ RDec1 (w.heap.size + 1) pg T ns k W2 wr) (fun i _ => 10 - (intOf i).toNat)
  case atStart => exact ⟨0, by omega, rfl, _, HS2.out, World.ownsRow_nil _ _ _ _, Below.refl _ _⟩
  case round =>
    obtain ⟨k, hk8, rfl, dv, hS, hown, hbw⟩ := hrel
    obtain ⟨Wo, hWo⟩ : ∃ Wo, Wo = wr := ⟨_, rfl⟩
    subst hWo
    obtain ⟨dd, dcap, rfl⟩ := own_slice hown
    have HS := Lib.hid hS
    have HO := Lib.hid hown
    have HB := Lib.hid hbw
    have HBw := Lib.hid (HW2.out.trans (hbw.mono (by omega)))
    clear hS hown hbw
    by_cases hlt : k < 8
    · have h10 : ((k + 2 : Nat) : Int) < 10 := by omega
      go_upto_region 5 with (fail)
      refine rdraws_region (w.heap.size + 1) (w.heap.size + 2) _ dd k dcap ((drawsM ns k).map uV) ad cap ns (k + 2) ?text rfl rfl rfl rfl ((Hbw.out _ HBw.out).mono (by omega)) HM.out rfl HS.out rfl HO.out (by have := HB.out.size; have := Hz2.out; omega) (by omega) (by omega) ?rest
      case text =>
        intro i o ho
        have hi : i < 12 := (Array.getElem?_eq_some_iff.1 ho).1
        rcases (show i = 0 ∨ i = 1 ∨ i = 2 ∨ i = 3 ∨ i = 4 ∨ i = 5 ∨ i = 6 ∨ i = 7 ∨ i = 8 ∨ i = 9 ∨ i = 10 ∨ i = 11 by omega) with rfl | rfl | rfl | rfl | rfl | rfl | rfl | rfl | rfl | rfl | rfl | rfl
        all_goals
          obtain rfl := Option.some.inj ho
          exact ⟨_, _, _, rfl, rfl, rfl, rfl, rfl, rfl⟩
      case rest =>
        intro a W1 v ha1 ha2 ha3 hK hS1 hO1
        obtain ⟨u, hu, ea⟩ : ∃ u : Nat → Value, (∀ t, Tm a t = u t) ∧ a = putL [24, 25, 26, 27, 28, 29, 30, 31, 32, 33, 34] u _ := ⟨Tm a, fun _ => rfl, act_eq _ ha1 ha2 fun t ht => ha3 t (by simp at ht; omega)⟩
        clear hu ha1 ha2 ha3
        subst ea
        have HS1 := Lib.hid hS1
        have HO1 := Lib.hid hO1
        have HK := Lib.hid (HB.out.trans (hK.below (B := w.heap.size + 1) (by have := HB.out.size; have := Hz2.out; omega) (fun g h => by omega)))
        clear hS1 hO1 hK
        simp only [putL]
        go_wp2_with fail
        go_roundw
        case rel => exact ⟨k + 1, by omega, by go_num, v, HS1.out, by rw [show drawsM ns (k + 1) = drawsM ns k ++ [((bt ns (2 + k) : Nat) : Int)] from rfl, List.map_append, show 2 + k = k + 2 by omega]; exact HO1.out, HK.out⟩
        case measure => simp [intOf]; omega
    · obtain rfl : k = 8 := by omega
      rw [show ((8 + 2 : Nat) : Int) = 10 from rfl]
      go_wp2_with fail
      go_loopw [5, 6] (fun p i wr => ∃ t : Nat, t ≤ T ∧ p = .int .i64 (posM ns t : Nat) ∧ i = .int .i64 t ∧ RDec2 (w.heap.size + 1) pg T ns t W2 wr) (fun _ i _ => T - (intOf i).toNat)
      case atStart => exact ⟨0, by omega, rfl, rfl, _, _, HS.out, HO.out, listsOwn_nil _ _, HB.out⟩
      case round =>
        obtain ⟨t, htT, rfl, rfl, dv, cv, hS, hown, hlists, hbw⟩ := hrel
        obtain ⟨Wq, hWq⟩ : ∃ Wq, Wq = wr := ⟨_, rfl⟩
        subst hWq
        clear HS HO HB HBw
        have HS := Lib.hid hS
        have HO := Lib.hid hown
        have HL := Lib.hid hlists
        have HB := Lib.hid hbw
        have HBw := Lib.hid (HW2.out.trans (hbw.mono (by omega)))
        have g1 := blk_cell hS 1
        simp at g1
        have hpz := posM_int ns t
        have hzq : w.heap.size + 2 ≤ Wq.heap.size := by have := hbw.size; have := Hz2.out; omega
        clear hS hown hlists hbw
        by_cases hlt : t < T
        · have htT' : (t : Int) < T := by omega
          have H3 := at_int w.heap.size ad cap ns (posM ns t) (posM ns t) Wq (Hbw.out _ HBw.out) HM.out rfl
          have bx := H255.out (posM ns t)
          have Hlist := Lib.hid (show listsM ns (t + 1) = listsM ns t ++ [listM ns t] from rfl)
          have Hpos := Lib.hid (show posM ns (t + 1) = posM ns t + 1 + 3 * (bt ns (posM ns t) % 12) from rfl)
          have Hlm := Lib.hid (show listM ns t = callsM ns (posM ns t + 1) (bt ns (posM ns t) % 12) from rfl)
          obtain ⟨x, ex⟩ : ∃ x, bt ns (posM ns t) = x := ⟨_, rfl⟩
          rw [ex] at H3 bx Hpos Hlm
          have H3 := Lib.hid H3
          clear ex
          have q12 : (x : Int).tmod 12 = ((x % 12 : Nat) : Int) := tmod_nat x 12
          have hx12 : x % 12 < 12 := Nat.mod_lt _ (by decide)
          generalize x % 12 = n at *
          obtain ⟨p, hp⟩ : ∃ p, posM ns t + 1 = p := ⟨_, rfl⟩
          have ip : ((posM ns t : Nat) : Int) + 1 = ((p : Nat) : Int) := by omega
          have hp500 : p ≤ 500 := by omega
          rw [hp] at Hlm Hpos
          clear hp
          go_wp2_with fail
          refine H3.out.mono ?_
          rintro e w3 ⟨rfl, rfl⟩
          clear H3
          go_wp2_with fail
          clear q12 ip
          go_loopw [5, 8, 9] (fun z l j wr => ∃ q : Nat, q ≤ n ∧ z = .int .i64 ((p + 3 * q : Nat) : Int) ∧ j = .int .i64 q ∧ RDec3 ns p q Wq wr l) (fun _ _ j _ => n - (intOf j).toNat)
          case atStart => exact ⟨0, by omega, rfl, rfl, callsOwn_nil _ _, Below.refl _ _⟩
          case round =>
            obtain ⟨q, hqn, rfl, rfl, hcalls, hK⟩ := hrel
            obtain ⟨Wi, hWi⟩ : ∃ Wi, Wi = wr := ⟨_, rfl⟩
            subst hWi
            obtain ⟨xs, hx, hrest⟩ := hcalls
            obtain ⟨ld, lcap, rfl⟩ := own_slice hx
            rw [callsM_len] at hx
            have HX := Lib.hid hx
            have Hrest := Lib.hid hrest
            have HK := Lib.hid hK
            have hcl := callsM_len ns p q
            have Hcl := Lib.hid hcl
            have HBi := Lib.hid (HBw.out.trans (hK.mono (by omega)))
            clear hx hrest hK hcl
            by_cases hqlt : q < n
            · have Hsucc := Lib.hid (show callsM ns p (q + 1) = callsM ns p q ++ [callM (bt ns (p + 3 * q)) (bt ns (p + 3 * q + 1)) (bt ns (p + 3 * q + 2))] from rfl)
              obtain ⟨m, em⟩ : ∃ m, p + 3 * q = m := ⟨_, rfl⟩
              have hm600 : m ≤ 600 := by omega
              have im : ((m : Nat) : Int) + 3 = ((p + 3 * (q + 1) : Nat) : Int) := by omega
              have A0 := at_int w.heap.size ad cap ns m m Wi (Hbw.out _ HBi.out) HM.out rfl
              have A1 := at_int w.heap.size ad cap ns (m + 1) ((m : Int) + 1) Wi (Hbw.out _ HBi.out) HM.out (by omega)
              have A2 := at_int w.heap.size ad cap ns (m + 2) ((m : Int) + 2) Wi (Hbw.out _ HBi.out) HM.out (by omega)
              have by2 := H255.out (m + 1)
              have bz2 := H255.out (m + 2)
              rw [em] at Hsucc ⊢
              clear em
              generalize bt ns m = x0 at *
              generalize bt ns (m + 1) = x1 at *
              generalize bt ns (m + 2) = x2 at *
              have A0 := Lib.hid A0
              have A1 := Lib.hid A1
              have A2 := Lib.hid A2
              have A3 := Lib.hid (refcall_any x0 x1 x2 bz2 Wi)
              generalize callM x0 x1 x2 = oc at *
              rw [callsM_len]
              have Him := Lib.hid im
              clear im
              go_wp2_with fail
              refine A0.out.mono ?_
              rintro e w4 ⟨rfl, rfl⟩
              go_wp2_with fail
              refine A1.out.mono ?_
              rintro e w4 ⟨rfl, rfl⟩
              go_wp2_with fail
              refine A2.out.mono ?_
              rintro e w4 ⟨rfl, rfl⟩
              go_wp2_with fail
              refine A3.out.mono ?_
              rintro e w4 ⟨⟨lv, rfl, hlv⟩, k4⟩
              obtain ⟨vd, vcap, rfl⟩ := own_slice hlv
              have hz3 := HK.out.size
              have hz4 := k4.size
              have HX4 := Lib.hid ((own_kept HX.out (fun g hg => k4.block g (own_lt HX.out hg).1)).alloc (.cells #[.int .i64 oc.kind, .int .i64 oc.a, .slice vd oc.L.length vcap] 36))
              have HV4 := Lib.hid ((own_weaken hlv hz3).alloc (.cells #[.int .i64 oc.kind, .int .i64 oc.a, .slice vd oc.L.length vcap] 36))
              have Hr4 := Lib.hid (fun j o hj => by
                obtain ⟨lv', a, b, c, d⟩ := Hrest.out j o hj
                exact (⟨lv', a, b, c, (own_kept d (fun g hg => k4.block g (own_lt d hg).1)).alloc (.cells #[.int .i64 oc.kind, .int .i64 oc.a, .slice vd oc.L.length vcap] 36)⟩ : ∃ lv', xs[j * 3]? = some (.int .i64 o.kind) ∧ xs[j * 3 + 1]? = some (.int .i64 o.a) ∧ xs[j * 3 + 2]? = some lv' ∧ World.ownsRow _ Wq.heap.size 3 1 lv' o.L.length (o.L.map iV)))
              have Hnews := Lib.hid (World.news_of_block (World.alloc_heap_new w4 (.cells #[.int .i64 oc.kind, .int .i64 oc.a, .slice vd oc.L.length vcap] 36)))
              have Hone := Lib.hid (show ∀ v ∈ [Value.int .i64 oc.kind, .int .i64 oc.a, .slice vd oc.L.length vcap], v.oneCell' = true by simp [Value.oneCell'])
              have HK4 := Lib.hid ((HK.out.trans (k4.mono hz3)).alloc (by omega) (.cells #[.int .i64 oc.kind, .int .i64 oc.a, .slice vd oc.L.length vcap] 36))
              unfold callV
              clear hlv k4 A0 A1 A2 A3
              go_wp2_with (at_builtin; refine wpList_append_lies _ rfl _ _ 34 rfl Wq.heap.size 36 j0 _ 3 40 Tryd.underlying34 hj0 hy0 hy1 hy2 rfl (by decide) _ _ _ rfl HX4.out _ 1 1 _ rfl rfl Hnews.out Hone.out (by omega) (by unfold maxLen; omega) (by omega) (by simp; omega) _ rfl ?_; intro g' cap' w5 hown' hgrow _ _)
              go_roundw
              case rel =>
                refine ⟨q + 1, by omega, by rw [← Him.out], by go_num, ?_, ?_⟩
                · rw [Hsucc.out]
                  exact CallsOwn.grown Hcl.out.symm HX4.out Hr4.out HV4.out hgrow hown'
                · exact HK4.out.grown hgrow (by simp; omega) (own_later HX4.out)
              case measure => simp [intOf]; omega
            · obtain rfl : q = n := by omega
              have hz3 := HK.out.size
              rw [callsM_len]
              obtain ⟨ys, hy, hyr⟩ := HL.out
              obtain ⟨cd, ccap, rfl⟩ := own_slice hy
              rw [listsM_len] at hy
              have hll := listsM_len ns t
              have Hll := Lib.hid hll
              have S4 := (HK.out.block (w.heap.size + 1) (by omega)).trans HS.out
              have S5 := Lib.hid ((Below.heap_alloc Wi (.cells #[.slice ld q lcap] 34) (w.heap.size + 1) (by omega)).trans S4)
              have HY5 := Lib.hid ((own_kept hy (fun g hg => HK.out.block g (own_lt hy hg).1)).alloc (.cells #[.slice ld q lcap] 34))
              have HO5 := Lib.hid ((own_kept HO.out (fun g hg => HK.out.block g (own_lt HO.out hg).1)).alloc (.cells #[.slice ld q lcap] 34))
              have Hyr := Lib.hid (fun j cl hj => by
                obtain ⟨cv', a, b⟩ := hyr j cl hj
                exact (⟨cv', a, (b.kept (fun g _ hlt => HK.out.block g hlt)).kept (fun g _ hlt => Below.heap_alloc Wi (.cells #[.slice ld q lcap] 34) g hlt)⟩ : ∃ cv', ys[j]? = some cv' ∧ CallsOwn (Wi.alloc (.cells #[.slice ld q lcap] 34)) (w.heap.size + 2) cv' cl))
              have HC5 := Lib.hid ((show CallsOwn Wi Wq.heap.size (.slice ld q lcap) (callsM ns p q) from ⟨xs, by rw [Hcl.out]; exact HX.out, Hrest.out⟩).weaken (show w.heap.size + 2 ≤ Wq.heap.size by omega) |>.kept (fun g _ hlt => Below.heap_alloc Wi (.cells #[.slice ld q lcap] 34) g hlt))
              have HB5 := Lib.hid ((HB.out.trans (HK.out.mono (show w.heap.size + 1 ≤ Wq.heap.size by omega))).alloc (by omega) (.cells #[.slice ld q lcap] 34))
              have Hnews := Lib.hid (World.news_of_block (World.alloc_heap_new Wi (.cells #[.slice ld q lcap] 34)))
              have Hone := Lib.hid (show ∀ v ∈ [Value.slice ld q lcap], v.oneCell' = true by simp [Value.oneCell'])
              have k3 := blk_cell S4 3
              have fz3 := blk_frozen S4 3
              simp at k3
              rw [listsM_len] at k3
              clear hy hyr hll S4
              go_wp2_with (at_builtin; refine wpList_append_lies _ rfl _ _ 26 rfl (w.heap.size + 2) 34 l0 _ 1 24 Tryd.underlying26 hl0 hv0 hv1 hv2 rfl (by decide) _ _ _ rfl HY5.out _ 1 1 _ rfl rfl Hnews.out Hone.out (by omega) (by unfold maxLen; omega) (by omega) (by simp; omega) _ rfl ?_; intro g' cap' w5 hown' hgrow _ _; have HC1 := Lib.hid (blk_grown hgrow S5.out (fun e => by have := own_later HY5.out _ e; omega)); have x3 := blk_cell HC1.out 3; have y3 := blk_frozen HC1.out 3; simp at x3)
              go_roundw
              case rel =>
                have hne : ∀ g, w.heap.size + 2 ≤ g → g ≠ w.heap.size + 1 := by omega
                have hO' := own_grown HO5.out HY5.out (by decide) hgrow
                refine ⟨t + 1, by omega, by rw [Hpos.out]; go_num, by go_num, _, _, (blk_set HC1.out 3 _).trans (by simp; rfl), own_kept hO' (fun g hg => Below.heap_setCell _ _ _ _ (hne g (own_later hO' g hg))), ?_, ?_⟩
                · rw [Hlist.out, Hlm.out]
                  exact (ListsOwn.grown Hll.out.symm HY5.out Hyr.out HC5.out hgrow hown').kept (fun g hg _ => Below.heap_setCell _ _ _ _ (hne g hg))
                · exact (HB5.out.grown hgrow (by simp; omega) (fun k e => by have := own_later HY5.out k e; omega)).setCell (Nat.le_refl _) _
              case measure => simp [intOf]; omega
        · obtain rfl : t = T := by omega
          have Hend := Lib.hid (show endOf ns = posM ns t by unfold endOf; rw [HTh.out])
          obtain ⟨zd, zc, rfl⟩ := own_slice HO.out
          obtain ⟨cd, cc, rfl⟩ := HL.out.slice
          obtain ⟨p, hp⟩ : ∃ p, posM ns t = p := ⟨_, rfl⟩
          rw [hp] at Hend hpz ⊢
          clear hp
          have hroom := Hroom.out
          obtain ⟨N, hN⟩ : ∃ N, ns.length = N := ⟨_, rfl⟩
          have HN := Lib.hid hN
          rw [hN] at hroom hmax ⊢
          clear hN
          go_wp2_with fail
          clear g1
          go_loopw [5] (fun z wr => ∃ k : Nat, (k = 0 ∨ p + k ≤ N) ∧ z = .int .i64 ((p + k : Nat) : Int) ∧ RDec4 (w.heap.size + 1) pg t ns p k (.slice zd 8 zc) (.slice cd (listsM ns t).length cc) Wq wr) (fun z _ => N - (intOf z).toNat)
          case atStart => exact ⟨0, .inl rfl, rfl, _, HS.out, World.ownsRow_nil _ _ _ _, Kept.refl _ _⟩
          case round =>
            obtain ⟨k, hke, rfl, pv, hS, hpk, hK⟩ := hrel
            obtain ⟨Wp, hWp⟩ : ∃ Wp, Wp = wr := ⟨_, rfl⟩
            subst hWp
            obtain ⟨dd, dcap, rfl⟩ := own_slice hpk
            have HS4 := Lib.hid hS
            have HP := Lib.hid hpk
            have HK := Lib.hid hK
            have hzk := hK.size
            have HB4 := Lib.hid (HBw.out.trans (hK.below (B := w.heap.size) (by omega) (fun g h => by omega)))
            clear hS hpk hK
            have hpm : p ≤ 500 := by omega
            by_cases hlt : p + k < N
            · have hlt' : ((p + k : Nat) : Int) < (N : Int) := by omega
              obtain ⟨_, hr⟩ := Hbw.out _ HB4.out
              obtain ⟨g, c, ead, hg, hc⟩ := hr.resolve_left (fun e => by have := HN.out; rw [e] at this; simp at this; omega)
              have hj : ns[p + k]? = some (bt ns (p + k)) := by unfold bt; rw [List.getD_eq_getElem?_getD, List.getElem?_eq_getElem (by rw [HN.out]; exact hlt)]; rfl
              have HC := Lib.hid (hc _ _ hj)
              have hx := H255.out (p + k)
              have Hsucc := Lib.hid (show picksM ns t p (k + 1) = picksM ns t p k ++ [((bt ns (p + k) % t : Nat) : Int)] from rfl)
              generalize bt ns (p + k) = x at *
              have Had := Lib.hid ead
              clear hc hj ead hr
              go_upto_region 21 with (fail)
              refine rpicks_region (w.heap.size + 1) Wq.heap.size _ dd k dcap ((picksM ns t p k).map iV) g c N cap (p + k) x t ?text2 rfl (congrArg (fun y => Value.slice y N cap) Had.out) rfl rfl (by omega) hlt HC.out hx (by omega) (by omega) rfl rfl HS4.out rfl HP.out hzk (by omega) (by omega) ?rest2
              case text2 =>
                intro i o ho
                have hi : i < 15 := (Array.getElem?_eq_some_iff.1 ho).1
                rcases (show i = 0 ∨ i = 1 ∨ i = 2 ∨ i = 3 ∨ i = 4 ∨ i = 5 ∨ i = 6 ∨ i = 7 ∨ i = 8 ∨ i = 9 ∨ i = 10 ∨ i = 11 ∨ i = 12 ∨ i = 13 ∨ i = 14 by omega) with rfl | rfl | rfl | rfl | rfl | rfl | rfl | rfl | rfl | rfl | rfl | rfl | rfl | rfl | rfl
                all_goals
                  obtain rfl := Option.some.inj ho
                  exact ⟨_, _, _, rfl, rfl, rfl, rfl, rfl, rfl⟩
              case rest2 =>
                intro a W1 v ha1 ha2 ha3 hK hS1 hO1
                obtain ⟨u, hu, ea⟩ : ∃ u : Nat → Value, (∀ t, Tm a t = u t) ∧ a = putL [82, 83, 84, 85, 86, 87, 88, 89, 90, 91, 92, 93, 94, 95] u _ := ⟨Tm a, fun _ => rfl, act_eq _ ha1 ha2 fun t ht => ha3 t (by simp at ht; omega)⟩
                clear hu ha1 ha2 ha3
                subst ea
                have HS1 := Lib.hid hS1
                have HO1 := Lib.hid hO1
                have HK1 := Lib.hid (HK.out.trans hK (fun g hg h => by omega))
                clear hS1 hO1 hK
                simp only [putL]
                go_wp2_with fail
                go_roundw
                case rel => exact ⟨k + 1, .inr (by omega), by go_num, v, HS1.out, by rw [Hsucc.out, List.map_append]; exact HO1.out, HK1.out⟩
                case measure => simp [intOf]; omega
            · have hlt' : ¬ ((p + k : Nat) : Int) < (N : Int) := by omega
              have hk : k = N - p := at_end hke hlt
              have Hk := Lib.hid hk
              have g0 := blk_cell HS4.out 0
              have g1 := blk_cell HS4.out 1
              have g2 := blk_cell HS4.out 2
              have g3 := blk_cell HS4.out 3
              have g4 := blk_cell HS4.out 4
              simp at g0 g1 g2 g3 g4
              have hG : Wp.heap[w.heap.size]? = some (.cells #[.int .i64 0, .int .i64 0, .slice none 0 0, .slice none 0 0, .slice none 0 0] 29 (0, 0)) := (HK.out.blk ((HB.out.block w.heap.size (by omega)).trans HG2.out) (by omega))
              have e0 := blk_cell hG 0
              have e1 := blk_cell hG 1
              have e2 := blk_cell hG 2
              have e3 := blk_cell hG 3
              have e4 := blk_cell hG 4
              have f0 := blk_frozen hG 0
              have f1 := blk_frozen hG 1
              have f2 := blk_frozen hG 2
              have f3 := blk_frozen hG 3
              have f4 := blk_frozen hG 4
              simp at e0 e1 e2 e3 e4
              clear hk hlt hke hG
              go_wp2_with fail
              have hkf : ∀ v0 v1 v2 v3 v4, Kept (fun g => g = w.heap.size) Wp (((((Wp.setCell ⟨w.heap.size, 0, none⟩ v0).setCell ⟨w.heap.size, 1, none⟩ v1).setCell ⟨w.heap.size, 2, none⟩ v2).setCell ⟨w.heap.size, 3, none⟩ v3).setCell ⟨w.heap.size, 4, none⟩ v4) := fun v0 v1 v2 v3 v4 =>
                (((((Kept.refl (fun g => g = w.heap.size) Wp).setCell (p := ⟨w.heap.size, 0, none⟩) (fun _ => rfl) _).setCell (p := ⟨w.heap.size, 1, none⟩) (fun _ => rfl) _).setCell (p := ⟨w.heap.size, 2, none⟩) (fun _ => rfl) _).setCell (p := ⟨w.heap.size, 3, none⟩) (fun _ => rfl) _).setCell (p := ⟨w.heap.size, 4, none⟩) (fun _ => rfl) _
              have HKF := Lib.hid hkf
              clear hkf
              refine bodyPost_ret (v := .agg #[.int .i64 (pg : Nat), .int .i64 (t : Nat), .slice zd 8 zc, .slice cd (listsM ns t).length cc, .slice dd k dcap]) (by simp [results, Tryd.results13, go_sem, e0, e1, e2, e3, e4]) rfl ⟨⟨_, rfl, ?_⟩, ?_⟩
              · have hD := HK.out.own HO.out (fun g hg => by have := own_later HO.out g hg; omega)
                have hLi := HL.out.kept (fun g hg hlt => HK.out.block g hlt (by omega))
                refine ⟨.slice zd 8 zc, .slice cd (listsM ns t).length cc, .slice dd k dcap, ?_, own_weaken ((HKF.out _ _ _ _ _).own hD (fun g hg => by have := own_later hD g hg; omega)) (by omega), ?_, ?_⟩
                · show _ = Value.agg #[.int .i64 ((pagesOf ns : Nat) : Int), .int .i64 ((threadsOf ns : Nat) : Int), _, _, _]
                  rw [HPg.out, HTh.out]
                · show ListsOwn _ _ _ (listsM ns (threadsOf ns))
                  rw [HTh.out]
                  exact (hLi.kept (fun g hg hlt => (HKF.out _ _ _ _ _).block g hlt (by omega))).weaken (by omega)
                · show World.ownsRow _ _ _ _ _ (picksM ns (threadsOf ns) (endOf ns) (ns.length - endOf ns)).length ((picksM ns (threadsOf ns) (endOf ns) (ns.length - endOf ns)).map iV)
                  rw [picksM_len, HTh.out, Hend.out, HN.out, ← Hk.out]
                  exact own_weaken ((HKF.out _ _ _ _ _).own HP.out (fun g hg => by have := own_later HP.out g hg; omega)) (by omega)
              · exact HB4.out.trans ((HKF.out _ _ _ _ _).below (by omega) (fun g h => by omega))
end Go.Proofs.YtkdigojjeiidmaaDoor
