/-
  The contract of Ops: calls by numbers.
-/
import Derived.Test.YtomheapokfphiaaDoorLinSize
import Derived.Test.YtomheapokfphiaaDoorLinOpsRegion
import Derived.Test.YtomheapokfphiaaDoorLinOpsAppend
import Derived.Deep.CutBlock
namespace Go.Proofs.YtomheapokfphiaaDoor
open Go Go.RowKit Go.Shelf

def opRow (o : OpP) (lv : Value) : List Value := [.int .i64 o.kind, .int .i64 o.size, .int .i64 o.at_, .int .i64 o.code, lv, .int .i64 o.b, .int .i64 o.e]
def flatOps : List OpP → List Value → List Value
  | o :: l, v :: vs => opRow o v ++ flatOps l vs
  | _, _ => []
theorem flat_app : ∀ (l : List OpP) (vs : List Value) (o : OpP) (v : Value), vs.length = l.length → flatOps (l ++ [o]) (vs ++ [v]) = flatOps l vs ++ opRow o v
  | [], [], o, v, _ => by simp [flatOps]
  | a :: l, x :: vs, o, v, h => by
    have := flat_app l vs o v (by simpa using h)
    simp [flatOps, this]
/-- Calls in memory of one's own. -/
def OpsOwn (base : Nat) (w : World) (out : Value) (l : List OpP) : Prop :=
  ∃ lvs : List Value, lvs.length = l.length ∧ w.ownsRow base 50 7 out l.length (flatOps l lvs) ∧
    ∀ (j : Nat) (o : OpP) (v : Value), l[j]? = some o → lvs[j]? = some v → w.ownsRow base 3 1 v o.L.length (o.L.map iV)
theorem opsOwn_nil (base : Nat) (w : World) : OpsOwn base w (.slice none 0 0) [] := ⟨[], rfl, World.ownsRow_nil _ _ _ _, fun j o v h => by simp at h⟩
theorem OpsOwn.old {base : Nat} {w w' : World} {out : Value} {l : List OpP} (h : OpsOwn base w out l) (hk : ∀ g, g < w.heap.size → w'.heap[g]? = w.heap[g]?) : OpsOwn base w' out l := by
  obtain ⟨lvs, h1, h2, h3⟩ := h
  exact ⟨lvs, h1, own_kept h2 fun g hg => hk g (own_lt h2 hg).1, fun j o v hj hv => own_kept (h3 j o v hj hv) fun g hg => hk g (own_lt (h3 j o v hj hv) hg).1⟩
/-- Rows of different kinds lie in different blocks. -/
theorem own_ne {w : World} {B B' s s' n n' : Nat} {e e' : TypeId} {v v' : Value} {xs xs' : List Value} (h : w.ownsRow B e s v n xs) (h' : w.ownsRow B' e' s' v' n' xs') (hne : e ≠ e') {g : Nat} (hg : v.ownBlock = some g) : v'.ownBlock ≠ some g := by
  intro hg'
  rcases h.2 with ⟨rfl, _⟩ | ⟨k, cap, cur, rfl, _, hh, _⟩
  · simp [Value.ownBlock] at hg
  rcases h'.2 with ⟨rfl, _⟩ | ⟨k', cap', cur', rfl, _, hh', _⟩
  · simp [Value.ownBlock] at hg'
  simp only [Value.ownBlock, Option.some.injEq] at hg hg'
  subst hg; subst hg'
  rw [hh] at hh'
  injection hh' with h1
  injection h1 with _ h2
  exact hne h2
theorem opsOwn_app {base : Nat} {w w' : World} {out out' lv : Value} {l : List OpP} {o : OpP} {lvs : List Value} (h1 : lvs.length = l.length) (h2 : w.ownsRow base 50 7 out l.length (flatOps l lvs))
    (h3 : ∀ (j : Nat) (o : OpP) (v : Value), l[j]? = some o → lvs[j]? = some v → w.ownsRow base 3 1 v o.L.length (o.L.map iV)) (hlv : w.ownsRow base 3 1 lv o.L.length (o.L.map iV))
    (hg : w.grownBy w' out.ownBlock) (ho : w'.ownsRow base 50 7 out' (l.length + 1) (flatOps l lvs ++ opRow o lv)) : OpsOwn base w' out' (l ++ [o]) := by
  have key : ∀ {m : Nat} {v : Value} {xs : List Value}, w.ownsRow base 3 1 v m xs → w'.ownsRow base 3 1 v m xs := fun hv =>
    own_kept hv fun g hgv => hg.block g (own_lt hv hgv).1 (fun e => own_ne hv h2 (by decide) hgv e.symm)
  refine ⟨lvs ++ [lv], by simp [h1], ?_, fun j x v hj hv => ?_⟩
  · rw [flat_app l lvs o lv h1, List.length_append]
    exact ho
  · by_cases e : j < l.length
    · rw [List.getElem?_append_left e] at hj
      rw [List.getElem?_append_left (by omega)] at hv
      exact key (h3 j x v hj hv)
    · have : j = l.length := by
        have := (List.getElem?_eq_some_iff.1 hj).1
        simp at this; omega
      subst this
      rw [List.getElem?_append_right (Nat.le_refl _), Nat.sub_self] at hj
      rw [← h1, List.getElem?_append_right (Nat.le_refl _), Nat.sub_self] at hv
      simp at hj hv
      subst hj; subst hv
      exact key hlv

/-- A slice of bytes that reads so. -/
def BytesAt (w : World) (a : Option Addr) (ns : List Nat) : Prop :=
  ns.length ≤ maxLen ∧ (∀ n ∈ ns, n ≤ 255) ∧ (ns = [] ∨ ∃ g c, a = some ⟨g, c, none⟩ ∧ g < w.heap.size ∧ ∀ (j n : Nat), ns[j]? = some n → w.cell? ⟨g, c + j, none⟩ = some (.int .u8 n))
theorem BytesAt.kept {w w' : World} {a : Option Addr} {ns : List Nat} (h : BytesAt w a ns) (hb : CellsKept w w') : BytesAt w' a ns := by
  obtain ⟨h1, h2, h⟩ := h
  refine ⟨h1, h2, h.imp id ?_⟩
  rintro ⟨g, c, e, hx, hc⟩
  exact ⟨g, c, e, Nat.lt_of_lt_of_le hx hb.1, fun j n hj => hb.cell (hc j n hj)⟩
theorem bytes_cell {w : World} {a : Option Addr} {ns : List Nat} (h : BytesAt w a ns) {k : Nat} (hk : k < ns.length) : ∃ g c, a = some ⟨g, c, none⟩ ∧ g < w.heap.size ∧ ∀ j, j < ns.length → w.cell? ⟨g, c + j, none⟩ = some (.int .u8 (ns.getD j 0)) ∧ ns.getD j 0 ≤ 255 := by
  obtain ⟨_, h2, rfl | ⟨x, y, e, hx, hc⟩⟩ := h
  · simp at hk
  · refine ⟨x, y, e, hx, fun j hj => ?_⟩
    have : ns[j]? = some (ns.getD j 0) := by rw [List.getD_eq_getElem?_getD, List.getElem?_eq_getElem hj]; rfl
    exact ⟨hc j _ this, h2 _ (List.mem_of_getElem? this)⟩

/-- What a call of the round is, whose block is G. -/
def OpDone (G B : Nat) (Wo : World) (o : OpP) (wx : World) : Prop :=
  ∃ ld lc, wx.heap[G]? = some (.cells #[.int .i64 o.kind, .int .i64 o.size, .int .i64 o.at_, .int .i64 o.code, .slice ld o.L.length lc, .int .i64 o.b, .int .i64 o.e] 50 (0, 0)) ∧ wx.ownsRow (G + 1) 3 1 (.slice ld o.L.length lc) o.L.length (o.L.map iV) ∧ Below B Wo wx
theorem nilRow (w : World) (B : Nat) : w.ownsRow B 3 1 (.slice none 0 0) 0 [] := World.ownsRow_nil _ _ _ _
theorem and8 (y : Nat) (h : y ≤ 255) : bits .and .u8 (y : Int) 1 = ((y % 2 : Nat) : Int) := by
  have : ∀ y : Fin 256, bits .and .u8 ((y.val : Nat) : Int) 1 = ((y.val % 2 : Nat) : Int) := by decide +kernel
  exact this ⟨y, by omega⟩
theorem bit8 (n q : Nat) (h : n ≤ 255) : (bits .and .u8 ((n : Int) / 2 ^ q) 1 == 1) = decide (n >>> q % 2 = 1) := by
  have e : ((n : Int) / 2 ^ q) = ((n / 2 ^ q : Nat) : Int) := by rw [Int.natCast_ediv, Int.natCast_pow]; rfl
  rw [e, and8 _ (Nat.le_trans (Nat.div_le_self _ _) h), Nat.shiftRight_eq_div_pow]
  generalize n / 2 ^ q % 2 = m
  by_cases hm : m = 1
  · subst hm; rfl
  · rw [decide_eq_false hm]
    simp; omega
theorem lInfo50 : (Tryd.prog.info? 50).map (fun i => (i.zero, i.size, i.bytes)) = some (some (.agg #[.int .i64 0, .int .i64 0, .int .i64 0, .int .i64 0, .slice none 0 0, .int .i64 0, .int .i64 0]), 7, 72) := by kernel_rfl
set_option maxRecDepth 6000 in
set_option maxHeartbeats 8000000 in
theorem ops_any (ns : List Nat) (most : Nat) (hm : most ≤ 8) (a : Option Addr) (cap : Nat) (w : World) (h : BytesAt w a ns) :
    Calls Tryd.prog 34 #[.slice a ns.length cap, .int .i64 most] w fun e w' => (∃ u, e = .returned u ∧ OpsOwn w.heap.size w' u (opsM ns most)) ∧ Below w.heap.size w w' := by
  have H := Lib.hid h
  have hmax := h.1
  unfold maxLen at hmax
  clear h
  obtain ⟨n, en⟩ : ∃ n, ns.length = n := ⟨_, rfl⟩
  have En := Lib.hid en
  rw [en] at hmax ⊢
  clear en
  go_enter Tryd.func34, Tryd.ntmps34
  go_wp2_with fail
  go_loopw [5, 6] (fun o i wr => ∃ (k : Nat) (od : Option Addr) (oc : Nat), k ≤ most ∧ 6 * k ≤ n ∧ o = .slice od k oc ∧ i = .int .i64 (6 * k : Nat) ∧ OpsOwn w.heap.size wr (.slice od k oc) ((List.range k).map (opN ns)) ∧ Below w.heap.size w wr) (fun _ i _ => n - (intOf i).toNat)
  case atStart =>
    exact ⟨0, none, 0, by omega, by omega, rfl, rfl, opsOwn_nil _ _, Below.refl _ _⟩
  case round =>
    obtain ⟨k, od, oc, hk, hkn, rfl, rfl, hown, hbw⟩ := hrel
    have HO := Lib.hid hown
    have HBw := Lib.hid hbw
    obtain ⟨Wo, hWo⟩ : ∃ Wo, Wo = wr := ⟨_, rfl⟩
    subst hWo
    clear hown hbw
    by_cases hlt : 6 * k + 5 < n
    · by_cases hms : k < most
      · obtain ⟨gn, cn, rfl, hx, hc⟩ := bytes_cell (H.out.kept (CellsKept.of HBw.out)) (k := 6 * k + 5) (by rw [En.out]; exact hlt)
        rw [En.out] at hc
        obtain ⟨i, ei⟩ : ∃ i, 6 * k = i := ⟨_, rfl⟩
        have Ei := Lib.hid ei
        rw [ei] at hkn hlt ⊢
        clear ei
        obtain ⟨c0, b0⟩ := hc i (by omega)
        obtain ⟨c1, b1⟩ := hc (i + 1) (by omega)
        obtain ⟨c2, b2⟩ := hc (i + 2) (by omega)
        obtain ⟨c3, b3⟩ := hc (i + 3) (by omega)
        obtain ⟨c4, b4⟩ := hc (i + 4) (by omega)
        obtain ⟨c5, b5⟩ := hc (i + 5) (by omega)
        clear hc
        have Hopn := Lib.hid (show opN ns k = opOf (ns.getD i 0) (ns.getD (i + 1) 0) (ns.getD (i + 2) 0) (ns.getD (i + 3) 0) (ns.getD (i + 4) 0) (ns.getD (i + 5) 0) by unfold opN; rw [Ei.out])
        generalize ns.getD i 0 = n0 at *
        generalize ns.getD (i + 1) 0 = n1 at *
        generalize ns.getD (i + 2) 0 = n2 at *
        generalize ns.getD (i + 3) 0 = n3 at *
        generalize ns.getD (i + 4) 0 = n4 at *
        generalize ns.getD (i + 5) 0 = n5 at *
        have hmaxn := hmax
        go_upto_region 5 with (fail)
        refine ops_region gn cn n cap i n1 n2 n3 ?text rfl rfl rfl (nlt rfl) hlt (by omega) hx c1 c2 c3 b1 b2 b3 ?rest
        case text =>
          intro i o ho
          have hi : i < 25 := (Array.getElem?_eq_some_iff.1 ho).1
          rcases (show i = 0 ∨ i = 1 ∨ i = 2 ∨ i = 3 ∨ i = 4 ∨ i = 5 ∨ i = 6 ∨ i = 7 ∨ i = 8 ∨ i = 9 ∨ i = 10 ∨ i = 11 ∨ i = 12 ∨ i = 13 ∨ i = 14 ∨ i = 15 ∨ i = 16 ∨ i = 17 ∨ i = 18 ∨ i = 19 ∨ i = 20 ∨ i = 21 ∨ i = 22 ∨ i = 23 ∨ i = 24 by omega) with rfl | rfl | rfl | rfl | rfl | rfl | rfl | rfl | rfl | rfl | rfl | rfl | rfl | rfl | rfl | rfl | rfl | rfl | rfl | rfl | rfl | rfl | rfl | rfl | rfl
          all_goals
            obtain rfl := Option.some.inj ho
            exact ⟨_, _, _, rfl, rfl, rfl, rfl, rfl, rfl⟩
        case rest =>
          intro a W1 G ha1 ha2 ha3 ha7 hG hblk hb1
          obtain ⟨u, hu, ea⟩ : ∃ u : Nat → Value, (∀ t, Tm a t = u t) ∧ a = putL [7, 22, 23, 24, 25, 26, 27, 28, 29, 30, 31, 32, 33, 34, 35, 36, 37, 38, 39, 40, 41, 42, 43, 44] u _ := ⟨Tm a, fun _ => rfl, act_eq _ ha1 ha2 fun t ht => ha3 t (by simp at ht; omega)⟩
          rw [hu 7] at ha7
          clear hu ha1 ha2 ha3
          subst ea
          simp only [putL, Act.put, List.setIfInBounds_toArray, List.set_cons_succ, List.set_cons_zero]
          rw [ha7]
          clear ha7
          unfold newOp at hblk
          have Hc := Lib.hid (show ∀ W, Below Wo.heap.size Wo W → W.cell? ⟨gn, cn + i, none⟩ = some (.int .u8 (n0 : Nat)) ∧ W.cell? ⟨gn, cn + (i + 3), none⟩ = some (.int .u8 (n3 : Nat)) ∧ W.cell? ⟨gn, cn + (i + 4), none⟩ = some (.int .u8 (n4 : Nat)) ∧ W.cell? ⟨gn, cn + (i + 5), none⟩ = some (.int .u8 (n5 : Nat)) from
            fun W h => ⟨(h.cell (p := ⟨gn, cn + i, none⟩) hx).trans c0, (h.cell (p := ⟨gn, cn + (i + 3), none⟩) hx).trans c3, (h.cell (p := ⟨gn, cn + (i + 4), none⟩) hx).trans c4, (h.cell (p := ⟨gn, cn + (i + 5), none⟩) hx).trans c5⟩)
          clear c0 c1 c2 c3 c4 c5
          generalize hz : sizeOf26 n1 = z at *
          have hb20 : n2 % 20 < 20 := Nat.mod_lt _ (by decide)
          generalize hbg : n2 % 20 = bg at *
          have Hz := Lib.hid hz
          have Hbg := Lib.hid hbg
          clear hz hbg
          obtain ⟨d0, d3, d4, d5⟩ := Hc.out _ hb1
          go_upto_if 50 with (fail)
          go_cut [7] (fun s7 wx => s7 = .pointer (some ⟨G, 0, none⟩) ∧ wx.heap[G]? = some (.cells #[.int .i64 1, .int .i64 z, .int .i64 (placeOf n3), .int .i64 0, .slice none 0 0, .int .i64 (bg : Nat), .int .i64 0] 50) ∧ Below Wo.heap.size Wo wx)
          case first =>
            by_cases h200 : (200 : Int) < (n3 : Int)
            · have r4 : (n3 : Int).tmod 4 = ((n3 % 4 : Nat) : Int) := by rw [Int.tmod_eq_emod_of_nonneg (by omega)]; omega
              have m4 : IntKind.i64.wrap (8192 * ((n3 % 4 : Nat) : Int)) = 8192 * ((n3 % 4 : Nat) : Int) := by rw [IntKind.wrap_i64]; omega
              have ep : placeOf n3 = 8192 * ((n3 % 4 : Nat) : Int) := by unfold placeOf; rw [if_pos (by omega)]
              have Ep := Lib.hid ep
              clear ep
              have g2 := blk_cell hblk 2
              have f2 := blk_frozen hblk 2
              go_wp2
              go_meet
              rw [Ep.out]
              exact ⟨rfl, by simpa using blk_set hblk 2 _, hb1.setCell (p := ⟨G, 2, none⟩) hG _⟩
            · have ep : placeOf n3 = 128 * ((n3 % 70 : Nat) : Int) := by unfold placeOf; rw [if_neg (by omega)]
              have Ep := Lib.hid ep
              clear ep
              go_wp2
              go_meet
              rw [Ep.out]
              exact ⟨rfl, hblk, hb1⟩
          case rest =>
            obtain ⟨rfl, hblk2, hb2⟩ := hcut
            clear hblk hb1 d0 d3 d4 d5
            obtain ⟨d0, d3, d4, d5⟩ := Hc.out _ hb2
            have g5 := blk_cell hblk2 5
            have g6 := blk_cell hblk2 6
            have f6 := blk_frozen hblk2 6
            have i4 : IntKind.i64.wrap ((i : Int) + 4) = (i : Int) + 4 := by rw [IntKind.wrap_i64]; omega
            have r9 : (n4 : Int).tmod 9 = ((n4 % 9 : Nat) : Int) := by rw [Int.tmod_eq_emod_of_nonneg (by omega)]; omega
            have hb9 : n4 % 9 < 9 := Nat.mod_lt _ (by decide)
            have a9 : IntKind.i64.wrap ((bg : Int) + ((n4 % 9 : Nat) : Int)) = ((bg + n4 % 9 : Nat) : Int) := by rw [IntKind.wrap_i64]; omega
            generalize hm9 : n4 % 9 = m9 at *
            have Hm9 := Lib.hid hm9
            clear hm9
            go_upto_region 8 with (fail)
            go_cut [7] (fun s7 wx => s7 = .pointer (some ⟨G, 0, none⟩) ∧ wx.heap[G]? = some (.cells #[.int .i64 1, .int .i64 z, .int .i64 (placeOf n3), .int .i64 0, .slice none 0 0, .int .i64 (bg : Nat), .int .i64 ((bg + m9 : Nat) : Int)] 50) ∧ Below Wo.heap.size Wo wx)
            case first =>
              go_region
              all_goals
                go_wp2
                go_meet
                refine ⟨rfl, ?_, (hb2.setCell (p := ⟨G, 6, none⟩) hG _).drew⟩
                show (World.setCell wc ⟨G, 6, none⟩ _).heap[G]? = _
                simpa using blk_set hblk2 6 _
            case rest =>
              obtain ⟨rfl, hblk3, hb3⟩ := hcut
              clear hblk2 hb2 d0 d3 d4 d5
              obtain ⟨d0, d3, d4, d5⟩ := Hc.out _ hb3
              clear g5 g6 f6 a9 r9 i4
              go_upto_if 76 with (fail)
              go_cut [7] (fun s7 wx => s7 = .pointer (some ⟨G, 0, none⟩) ∧ wx.heap[G]? = some (.cells #[.int .i64 1, .int .i64 z, .int .i64 (placeOf n3), .int .i64 0, .slice none 0 0, .int .i64 (bg : Nat), .int .i64 (if 235 < n4 then -1 else ((bg + m9 : Nat) : Int))] 50) ∧ Below Wo.heap.size Wo wx)
              case first =>
                have g6 := blk_cell hblk3 6
                have f6 := blk_frozen hblk3 6
                by_cases h235 : (235 : Int) < (n4 : Int)
                · go_wp2
                  go_meet
                  rw [if_pos (show 235 < n4 by omega)]
                  exact ⟨rfl, by simpa using blk_set hblk3 6 _, hb3.setCell (p := ⟨G, 6, none⟩) hG _⟩
                · go_wp2
                  go_meet
                  rw [if_neg (show ¬ 235 < n4 by omega)]
                  exact ⟨rfl, by simpa using hblk3, hb3⟩
              case rest =>
                obtain ⟨rfl, hblk4, hb4⟩ := hcut
                clear hblk3 hb3 d0 d3 d4 d5
                obtain ⟨d0, d3, d4, d5⟩ := Hc.out _ hb4
                have r8 : (n0 : Int).tmod 8 = ((n0 % 8 : Nat) : Int) := by rw [Int.tmod_eq_emod_of_nonneg (by omega)]; omega
                have hen : endOf n2 n4 = (if 235 < n4 then (-1 : Int) else ((bg + m9 : Nat) : Int)) := by unfold endOf; rw [Hbg.out, Hm9.out]
                generalize (if 235 < n4 then (-1 : Int) else ((bg + m9 : Nat) : Int)) = en at *
                have Hen := Lib.hid hen
                clear hen
                have hop : opOf n0 n1 n2 n3 n4 n5 = if n0 % 8 = 5 ∨ n0 % 8 = 6 then ⟨2, 0, 0, if 220 < n0 then 7 else 0, if 220 < n0 then [] else pickL n3 n5 4, (bg : Nat), en⟩ else if n0 % 8 = 7 then ⟨1, z, 0, 3, [], (bg : Nat), en⟩ else ⟨1, z, placeOf n3, 0, [], (bg : Nat), en⟩ := by
                  unfold opOf; rw [Hbg.out, Hen.out, Hz.out]
                have Hop := Lib.hid hop
                clear hop
                generalize n0 % 8 = v8 at *
                go_upto_block 2 with (fail)
                go_cut [7] (fun s7 wx => s7 = .pointer (some ⟨G, 0, none⟩) ∧ OpDone G Wo.heap.size Wo (opOf n0 n1 n2 n3 n4 n5) wx)
                case first =>
                  by_cases h56 : v8 = 5 ∨ v8 = 6
                  · rw [if_pos h56] at Hop
                    go_upto_if 83 with (fail)
                    go_cut [7, 83] (fun s7 s83 wx => s7 = .pointer (some ⟨G, 0, none⟩) ∧ s83 = .bool true ∧ wx = wc)
                    case first =>
                      rcases h56 with rfl | rfl
                      · go_wp2
                        go_meet
                        exact ⟨rfl, rfl, rfl⟩
                      · go_wp2
                        go_meet
                        exact ⟨rfl, rfl, rfl⟩
                    case rest =>
                      obtain ⟨rfl, rfl, rfl⟩ := hcut
                      clear h56
                      have g0 := blk_cell hblk4 0
                      have f0 := blk_frozen hblk4 0
                      have g1 := blk_cell hblk4 1
                      have f1 := blk_frozen hblk4 1
                      have g2 := blk_cell hblk4 2
                      have f2 := blk_frozen hblk4 2
                      have hblk5 := blk_set (blk_set (blk_set hblk4 0 (.int .i64 2)) 1 (.int .i64 0)) 2 (.int .i64 0)
                      simp at hblk5
                      have hb5 := ((hb4.setCell (p := ⟨G, 0, none⟩) hG (.int .i64 2)).setCell (p := ⟨G, 1, none⟩) hG (.int .i64 0)).setCell (p := ⟨G, 2, none⟩) hG (.int .i64 0)
                      have Hblk5 := Lib.hid hblk5
                      have Hb5 := Lib.hid hb5
                      clear hblk5 hb5
                      go_upto_block 3 with (fail)
                      go_cut [7] (fun s7 wx => s7 = .pointer (some ⟨G, 0, none⟩) ∧ ∃ ld lc, wx.heap[G]? = some (.cells #[.int .i64 2, .int .i64 0, .int .i64 0, .int .i64 0, .slice ld (pickL n3 n5 4).length lc, .int .i64 (bg : Nat), .int .i64 en] 50 (0, 0)) ∧ wx.ownsRow (G + 1) 3 1 (.slice ld (pickL n3 n5 4).length lc) (pickL n3 n5 4).length ((pickL n3 n5 4).map iV) ∧ Below Wo.heap.size Wo wx)
                      case first =>
                        clear g0 f0 g1 f1 g2 f2 hblk4 hb4 d0 d3 d4 d5
                        go_wp2_with fail
                        go_loopw [8] (fun s8 wx => ∃ (q : Nat) (ld : Option Addr) (lc : Nat), q ≤ 4 ∧ s8 = .int .i64 q ∧ wx.heap[G]? = some (.cells #[.int .i64 2, .int .i64 0, .int .i64 0, .int .i64 0, .slice ld (pickL n3 n5 q).length lc, .int .i64 (bg : Nat), .int .i64 en] 50 (0, 0)) ∧ wx.ownsRow (G + 1) 3 1 (.slice ld (pickL n3 n5 q).length lc) (pickL n3 n5 q).length ((pickL n3 n5 q).map iV) ∧ Below Wo.heap.size Wo wx) (fun s8 _ => 4 - (intOf s8).toNat)
                        case atStart => exact ⟨0, none, 0, by omega, rfl, Hblk5.out, nilRow _ _, Hb5.out⟩
                        case round =>
                          obtain ⟨q, ld, lc, hq, rfl, hblk6, hrow, hb6⟩ := hrel
                          obtain ⟨Wi, hWi⟩ : ∃ Wi, Wi = wr := ⟨_, rfl⟩
                          subst hWi
                          obtain ⟨d0, d3, d4, d5⟩ := Hc.out _ hb6
                          have Hblk6 := Lib.hid hblk6
                          have Hrow := Lib.hid hrow
                          have Hb6 := Lib.hid hb6
                          clear hblk6 hrow hb6
                          by_cases hq4 : q < 4
                          · have g4 := blk_cell Hblk6.out 4
                            have f4 := blk_frozen Hblk6.out 4
                            go_upto_if 101 with (fail)
                            rw [bit8 n5 q b5]
                            obtain ⟨bb, ebb⟩ : ∃ bb, decide (n5 >>> q % 2 = 1) = bb := ⟨_, rfl⟩
                            rw [ebb]
                            have Ebb := Lib.hid ebb
                            clear ebb
                            cases bb with
                            | false =>
                              have epick : pickL n3 n5 (q + 1) = pickL n3 n5 q := by rw [pickL, if_neg (of_decide_eq_false Ebb.out), List.append_nil]
                              have Epick := Lib.hid epick
                              clear epick
                              go_wp2
                              go_roundw
                              case rel =>
                                refine ⟨q + 1, ld, lc, by omega, by go_num, ?_, ?_, Hb6.out⟩
                                · rw [Epick.out]; exact Hblk6.out
                                · rw [Epick.out]; exact Hrow.out
                              case measure => simp [intOf]; omega
                            | true =>
                              have epick : pickL n3 n5 (q + 1) = pickL n3 n5 q ++ [128 * ((n3 % 9 * q + q : Nat) : Int)] := by rw [pickL, if_pos (of_decide_eq_true Ebb.out)]
                              have Epick := Lib.hid epick
                              clear epick
                              have hlen := pickL_len n3 n5 q
                              have hGi : G < Wi.heap.size := (Array.getElem?_eq_some_iff.1 Hblk6.out).1
                              go_upto_region 19 with (fail)
                              refine ap_region G gn cn n cap i n3 q (.slice ld (pickL n3 n5 q).length lc) (pickL n3 n5 q) ?text2 rfl rfl rfl rfl rfl rfl hlt (by omega) (Nat.lt_of_lt_of_le hx hG) hGi g4 f4 Hrow.out (by omega) d3 b3 hq4 ?rest2
                              case text2 =>
                                intro i o ho
                                have hi : i < 18 := (Array.getElem?_eq_some_iff.1 ho).1
                                rcases (show i = 0 ∨ i = 1 ∨ i = 2 ∨ i = 3 ∨ i = 4 ∨ i = 5 ∨ i = 6 ∨ i = 7 ∨ i = 8 ∨ i = 9 ∨ i = 10 ∨ i = 11 ∨ i = 12 ∨ i = 13 ∨ i = 14 ∨ i = 15 ∨ i = 16 ∨ i = 17 by omega) with rfl | rfl | rfl | rfl | rfl | rfl | rfl | rfl | rfl | rfl | rfl | rfl | rfl | rfl | rfl | rfl | rfl | rfl
                                all_goals
                                  obtain rfl := Option.some.inj ho
                                  exact ⟨_, _, _, rfl, rfl, rfl, rfl, rfl, rfl⟩
                              case rest2 =>
                                intro a Wm ha1 ha2 ha3 hbm ho1
                                obtain ⟨u', hu', ea⟩ : ∃ u : Nat → Value, (∀ t, Tm a t = u t) ∧ a = putL [102, 103, 104, 105, 106, 107, 108, 109, 110, 111, 112, 113, 114, 115, 116, 117, 118] u _ := ⟨Tm a, fun _ => rfl, act_eq _ ha1 ha2 fun t ht => ha3 t (by simp at ht; omega)⟩
                                rw [hu' 117] at ho1 ⊢
                                clear hu' ha1 ha2 ha3
                                subst ea
                                obtain ⟨ld', lc', e117⟩ := own_slice ho1
                                rw [e117] at ho1
                                have hw7 : ∀ v, (Wm.setCell ⟨G, 4, none⟩ v).heap[G]? = some (.cells #[.int .i64 2, .int .i64 0, .int .i64 0, .int .i64 0, v, .int .i64 (bg : Nat), .int .i64 en] 50 (0, 0)) := fun v => by
                                  simpa using blk_set ((hbm.block G (Nat.lt_succ_self G)).trans Hblk6.out) 4 v
                                have Hw7 := Lib.hid (hw7 (.slice ld' ((pickL n3 n5 q).length + 1) lc'))
                                have Ho7 := Lib.hid (ownsRow_setCell_below ho1 (a := ⟨G, 4, none⟩) (Nat.lt_succ_self G) (.slice ld' ((pickL n3 n5 q).length + 1) lc'))
                                have Hb7 := Lib.hid ((Hb6.out.trans (hbm.mono (show Wo.heap.size ≤ G + 1 by omega))).setCell (p := ⟨G, 4, none⟩) hG (.slice ld' ((pickL n3 n5 q).length + 1) lc'))
                                clear hw7 ho1 hbm
                                simp only [putL, Act.put, List.setIfInBounds_toArray, List.set_cons_succ, List.set_cons_zero]
                                rw [e117]
                                clear e117
                                go_wp2
                                go_roundw
                                case rel =>
                                  refine ⟨q + 1, ld', lc', by omega, by go_num, ?_, ?_, Hb7.out⟩
                                  · rw [Epick.out, List.length_append]; exact Hw7.out
                                  · rw [Epick.out, List.length_append, List.map_append]; exact Ho7.out
                                case measure => simp [intOf]; omega
                          · obtain rfl : q = 4 := by omega
                            go_wp2
                            go_meet
                            exact ⟨rfl, ld, lc, Hblk6.out, Hrow.out, Hb6.out⟩
                      case rest =>
                        obtain ⟨rfl, ld, lc, hblk7, hrow, hb7⟩ := hcut
                        clear g0 f0 g1 f1 g2 f2 hblk4 hb4 d0 d3 d4 d5
                        obtain ⟨d0, d3, d4, d5⟩ := Hc.out _ hb7
                        have g3 := blk_cell hblk7 3
                        have f3 := blk_frozen hblk7 3
                        have g4 := blk_cell hblk7 4
                        have f4 := blk_frozen hblk7 4
                        by_cases h220 : (220 : Int) < (n0 : Int)
                        · rw [if_pos (show 220 < n0 by omega), if_pos (show 220 < n0 by omega)] at Hop
                          go_wp2
                          go_meet
                          rw [Hop.out]
                          refine ⟨rfl, none, 0, ?_, nilRow _ _, (hb7.setCell (p := ⟨G, 3, none⟩) hG _).setCell (p := ⟨G, 4, none⟩) hG _⟩
                          simpa using blk_set (blk_set hblk7 3 _) 4 _
                        · rw [if_neg (show ¬ 220 < n0 by omega), if_neg (show ¬ 220 < n0 by omega)] at Hop
                          go_wp2
                          go_meet
                          rw [Hop.out]
                          exact ⟨rfl, ld, lc, hblk7, hrow, hb7⟩
                  · rw [if_neg h56] at Hop
                    have e5 : ((v8 : Int) == 5) = false := by simp; omega
                    have e6 : ((v8 : Int) == 6) = false := by simp; omega
                    clear h56
                    by_cases h7 : v8 = 7
                    · rw [if_pos h7] at Hop
                      subst h7
                      have g2 := blk_cell hblk4 2
                      have f2 := blk_frozen hblk4 2
                      have g3 := blk_cell hblk4 3
                      have f3 := blk_frozen hblk4 3
                      go_wp2
                      go_meet
                      rw [Hop.out]
                      refine ⟨rfl, none, 0, ?_, nilRow _ _, (hb4.setCell (p := ⟨G, 3, none⟩) hG _).setCell (p := ⟨G, 2, none⟩) hG _⟩
                      simpa using blk_set (blk_set hblk4 3 _) 2 _
                    · rw [if_neg h7] at Hop
                      have e7 : ((v8 : Int) == 7) = false := by simp; omega
                      go_wp2
                      go_meet
                      rw [Hop.out]
                      exact ⟨rfl, none, 0, hblk4, nilRow _ _, hb4⟩
                case rest =>
                  obtain ⟨rfl, ld, lc, hblk5, hrow, hb5⟩ := hcut
                  obtain ⟨oo, eoo⟩ : ∃ oo, opOf n0 n1 n2 n3 n4 n5 = oo := ⟨_, rfl⟩
                  rw [eoo] at hblk5 hrow
                  have Eoo := Lib.hid eoo
                  clear eoo hblk4 hb4 d0 d3 d4 d5
                  obtain ⟨i5, hi5, hz5, hs5, hy5⟩ := info_parts' lInfo50
                  have g0 := blk_cell hblk5 0
                  have g1 := blk_cell hblk5 1
                  have g2 := blk_cell hblk5 2
                  have g3 := blk_cell hblk5 3
                  have g4 := blk_cell hblk5 4
                  have g5 := blk_cell hblk5 5
                  have g6 := blk_cell hblk5 6
                  have hBc := HBw.out.trans (hb5.mono HBw.out.size)
                  have hO5 := HO.out.old (w' := wc) (fun g hg => hb5.block g hg)
                  obtain ⟨ll, ell⟩ : ∃ ll, (List.range k).map (opN ns) = ll := ⟨_, rfl⟩
                  have hll : ll.length = k := by rw [← ell]; simp
                  rw [ell] at hO5
                  have hO6 := hO5.old (w' := wc.alloc (.cells #[.int .i64 oo.kind, .int .i64 oo.size, .int .i64 oo.at_, .int .i64 oo.code, .slice ld oo.L.length lc, .int .i64 oo.b, .int .i64 oo.e] 50)) (fun g hg => Below.heap_alloc wc _ g hg)
                  obtain ⟨lvs, hl1, hl2, hl3⟩ := hO6
                  have hl2' := hl2
                  rw [hll] at hl2'
                  have Hnews := Lib.hid (World.news_of_block (World.alloc_heap_new wc (.cells #[.int .i64 oo.kind, .int .i64 oo.size, .int .i64 oo.at_, .int .i64 oo.code, .slice ld oo.L.length lc, .int .i64 oo.b, .int .i64 oo.e] 50)))
                  have Hl1 := Lib.hid hl1
                  have Hl2 := Lib.hid hl2'
                  have Hl2' := Lib.hid hl2
                  have Hl3 := Lib.hid hl3
                  have Hrow := Lib.hid (own_weaken (own_kept hrow (fun g hg => Below.heap_alloc wc (.cells #[.int .i64 oo.kind, .int .i64 oo.size, .int .i64 oo.at_, .int .i64 oo.code, .slice ld oo.L.length lc, .int .i64 oo.b, .int .i64 oo.e] 50) g (own_lt hrow hg).1)) (show w.heap.size ≤ G + 1 by have := HBw.out.size; omega))
                  have HBc := Lib.hid hBc
                  have Hll := Lib.hid hll
                  have Ell := Lib.hid ell
                  clear hBc hll ell hl1 hl2 hl2' hl3 hO5 hrow hb5 hblk5
                  have hone : ∀ v ∈ [Value.int .i64 oo.kind, .int .i64 oo.size, .int .i64 oo.at_, .int .i64 oo.code, .slice ld oo.L.length lc, .int .i64 oo.b, .int .i64 oo.e], v.oneCell' = true := by simp [Value.oneCell']
                  have Hone := Lib.hid hone
                  clear hone
                  go_wp2_with (at_builtin; refine wpList_append_lies _ rfl _ _ 39 rfl w.heap.size 50 i5 (.agg #[.int .i64 0, .int .i64 0, .int .i64 0, .int .i64 0, .slice none 0 0, .int .i64 0, .int .i64 0]) 7 72 Tryd.underlying39 hi5 hz5 hs5 hy5 rfl (by decide) _ _ _ rfl Hl2.out _ 1 1 _ rfl rfl Hnews.out Hone.out (by omega) (by unfold maxLen; omega) (by omega) (by have := HBc.out.size; simp; omega) _ rfl ?_; intro g' cap' w1 hown' hgrow _ _)
                  have HO7 := Lib.hid (opsOwn_app Hl1.out Hl2'.out Hl3.out Hrow.out (o := oo) hgrow (by rw [Hll.out]; exact hown'))
                  have HB7 := Lib.hid ((HBc.out.alloc HBc.out.size (.cells #[.int .i64 oo.kind, .int .i64 oo.size, .int .i64 oo.at_, .int .i64 oo.code, .slice ld oo.L.length lc, .int .i64 oo.b, .int .i64 oo.e] 50)).grown hgrow (by have := HBc.out.size; simp; omega) (own_later Hl2.out))
                  clear hown' hgrow
                  go_roundw
                  case rel =>
                    refine ⟨k + 1, _, _, by omega, by have := Ei.out; omega, rfl, congrArg (Value.int .i64) (by have := Ei.out; omega), ?_, HB7.out⟩
                    rw [List.range_succ, List.map_append, Ell.out, List.map_cons, List.map_nil, Hopn.out, Eoo.out]
                    exact HO7.out
                  case measure => simp [intOf]; omega
      · go_wp2_with fail
        go_ret
        refine ⟨⟨_, rfl, ?_⟩, HBw.out⟩
        have : min (ns.length / 6) most = k := by rw [En.out]; omega
        unfold opsM
        rw [this]
        exact HO.out
    · go_wp2_with fail
      go_ret
      refine ⟨⟨_, rfl, ?_⟩, HBw.out⟩
      have : min (ns.length / 6) most = k := by rw [En.out]; omega
      unfold opsM
      rw [this]
      exact HO.out
end Go.Proofs.YtomheapokfphiaaDoor
