/-
  The contract of the document's Fits.
-/
import Derived.Test.YtomheapokfphiaaDoorRaw29Order
import Derived.Deep.OwnRows
namespace Go.Proofs.YtomheapokfphiaaDoor
open Go Go.RowKit Go.Shelf

/-- Each one may stand where it stands. -/
def chkM (l : List OpP) : List Int → List Int → Bool
  | _, [] => true
  | pre, i :: rest => !(decide (i < 0) || decide ((l.length : Int) ≤ i) || pre.contains i || aheadM l pre i.toNat) && chkM l (pre ++ [i]) rest
/-- All are accepted, one behind the other. -/
def runM (pages : Int) (l : List OpP) : LiveP → List Int → Option LiveP
  | s, [] => some s
  | s, i :: rest => match doesM pages s (opAt l i.toNat) with
    | none => none
    | some s' => runM pages l s' rest
theorem go_split {pages : Int} {l : List OpP} : ∀ (rest pre : List Int) (s : LiveP), (goM pages l pre s rest).isSome = (chkM l pre rest && (runM pages l s rest).isSome)
  | [], _, _ => rfl
  | i :: rest, pre, s => by
    rw [goM, chkM, runM]
    by_cases hb : i < 0 ∨ (l.length : Int) ≤ i ∨ pre.contains i = true ∨ aheadM l pre i.toNat = true
    · rw [if_pos hb]
      have : (decide (i < 0) || decide ((l.length : Int) ≤ i) || pre.contains i || aheadM l pre i.toNat) = true := by
        rcases hb with h | h | h | h
        · rw [decide_eq_true h]; simp
        · rw [decide_eq_true h]; simp
        · rw [h]; simp
        · rw [h]; simp
      rw [this]
      rfl
    · rw [if_neg hb]
      have : (decide (i < 0) || decide ((l.length : Int) ≤ i) || pre.contains i || aheadM l pre i.toNat) = false := by
        have h1 : ¬ i < 0 := fun h => hb (.inl h)
        have h2 : ¬ (l.length : Int) ≤ i := fun h => hb (.inr (.inl h))
        have h3 : pre.contains i = false := by cases h : pre.contains i with
          | false => rfl
          | true => exact absurd (.inr (.inr (.inl h))) hb
        have h4 : aheadM l pre i.toNat = false := by cases h : aheadM l pre i.toNat with
          | false => rfl
          | true => exact absurd (.inr (.inr (.inr h))) hb
        rw [decide_eq_false h1, decide_eq_false h2, h3, h4]
        rfl
      rw [this]
      cases hd : doesM pages s (opAt l i.toNat) with
      | none => simp
      | some s' =>
        simp only [Bool.not_false, Bool.true_and]
        exact go_split rest _ s'
theorem chk_step {l : List OpP} {order : List Int} {i : Nat} (hi : i < order.length) : chkM l (order.take i) (order.drop i) =
    (!(decide (order.getD i 0 < 0) || decide ((l.length : Int) ≤ order.getD i 0) || (order.take i).contains (order.getD i 0) || aheadM l (order.take i) (order.getD i 0).toNat) && chkM l (order.take (i + 1)) (order.drop (i + 1))) := by
  have e : order.drop i = order.getD i 0 :: order.drop (i + 1) := by
    rw [List.drop_eq_getElem_cons hi, List.getD_eq_getElem?_getD, List.getElem?_eq_getElem hi]; rfl
  have e2 : order.take (i + 1) = order.take i ++ [order.getD i 0] := by
    rw [List.take_add_one, getD_get hi]; rfl
  rw [e, e2, chkM]
theorem run_step {pages : Int} {l : List OpP} {s : LiveP} {order : List Int} {i : Nat} (hi : i < order.length) : runM pages l s (order.drop i) = match doesM pages s (opAt l (order.getD i 0).toNat) with
    | none => none
    | some s' => runM pages l s' (order.drop (i + 1)) := by
  have e : order.drop i = order.getD i 0 :: order.drop (i + 1) := by
    rw [List.drop_eq_getElem_cons hi, List.getD_eq_getElem?_getD, List.getElem?_eq_getElem hi]; rfl
  rw [e, runM]
theorem fits_split {pages : Int} {l : List OpP} {order : List Int} (hp : 1 ≤ pages ∧ pages ≤ 4096) : fitsM pages l order = (mayL l && (chkM l [] order && (wholeM l order && (runM pages l [] order).isSome))) := by
  unfold fitsM
  rw [decide_eq_true hp, go_split, Bool.true_and]
  cases mayL l <;> cases chkM l [] order <;> cases wholeM l order <;> cases (runM pages l [] order).isSome <;> rfl
theorem chk_long {l : List OpP} {order : List Int} (h : l.length < order.length) : chkM l [] order = false := by
  cases hc : chkM l [] order with
  | false => rfl
  | true =>
    exfalso
    have : ∀ (rest pre : List Int), chkM l pre rest = true → rest.length ≤ miss pre l.length := by
      intro rest
      induction rest with
      | nil => intro pre _; exact Nat.zero_le _
      | cons i rest ih =>
        intro pre hc
        rw [chkM, Bool.and_eq_true] at hc
        obtain ⟨h1, h2⟩ := hc
        simp at h1
        obtain ⟨⟨⟨h3, h4⟩, h5⟩, _⟩ := h1
        have hi : ((i.toNat : Nat) : Int) = i := Int.toNat_of_nonneg h3
        have := miss_less (order := pre) (i := i.toNat) (by rw [hi, List.contains_eq_mem]; exact decide_eq_false h5) (n := l.length) (by omega)
        rw [hi] at this
        have := ih _ h2
        simp only [List.length_cons]
        omega
    have := this order [] hc
    have := miss_le [] l.length
    omega

theorem lInfo4 : (Tryd.prog.info? 4).map (fun i => (i.zero, i.size, i.bytes)) = some (some (.bool false), 1, 1) := by kernel_rfl
/-- Which ones are there already. -/
def InAt (w : World) (g n : Nat) (L : List Int) : Prop := ∃ cs, w.heap[g]? = some (.cells cs 4 (0, 0)) ∧ ∀ k, k < n → cs[k]? = some (.bool (L.contains (k : Int)))
theorem InAt.kept {w w' : World} {g n : Nat} {L : List Int} (h : InAt w g n L) (hb : Below w.heap.size w w') : InAt w' g n L := by
  obtain ⟨cs, h1, h2⟩ := h
  exact ⟨cs, (hb.block g (Array.getElem?_eq_some_iff.1 h1).1).trans h1, h2⟩
theorem InAt.set {w : World} {g n : Nat} {L : List Int} (h : InAt w g n L) {x : Nat} (hx : x < n) : InAt (w.setCell ⟨g, x, none⟩ (.bool true)) g n (L ++ [(x : Int)]) := by
  obtain ⟨cs, h1, h2⟩ := h
  refine ⟨_, blk_set h1 x (.bool true), fun k hk => ?_⟩
  have hxs : x < cs.size := (Array.getElem?_eq_some_iff.1 (h2 x hx)).1
  by_cases e : k = x
  · subst e
    rw [Array.getElem?_setIfInBounds_self_of_lt hxs]
    congr 2
    rw [List.contains_eq_mem]
    simp
  · rw [Array.getElem?_setIfInBounds_ne (fun h => e h.symm), h2 k hk]
    congr 2
    rw [List.contains_eq_mem, List.contains_eq_mem]
    simp
    omega
theorem contains_false {L : List Int} {k : Int} (h : L = []) : L.contains k = false := by subst h; rfl

set_option maxRecDepth 6000 in
set_option maxHeartbeats 8000000 in
theorem rfits_any (pages : Int) (hp0 : 1 ≤ pages) (hp1 : pages ≤ 4096) (l : List OpP) (hlen : l.length ≤ 12) (hfit : ∀ i, i < l.length → (opAt l i).fits ∧ 0 ≤ 0) (order : List Int) (hlo : order.length ≤ 20) (lv ov : Value) (w : World) (hl : OpsAt w lv l) (ho : IntsAt w ov order) :
    Calls Tryd.prog 41 #[.int .i64 pages, lv, ov] w fun e w' => e = .returned (.bool (fitsM pages l order)) ∧ Below w.heap.size w w' := by
  have HL := Lib.hid hl
  have HO := Lib.hid ho
  have H39 := rmay_any l (by omega) lv w hl
  obtain ⟨ld, lcap, rfl⟩ := ops_slice hl
  obtain ⟨od, ocap, rfl⟩ := ints_slice ho
  have Hfit := Lib.hid hfit
  have HF := Lib.hid (fits_split (l := l) (order := order) ⟨hp0, hp1⟩)
  clear hl ho hfit
  obtain ⟨ln, eln⟩ : ∃ ln, l.length = ln := ⟨_, rfl⟩
  have Eln := Lib.hid eln
  obtain ⟨on, eon⟩ : ∃ on, order.length = on := ⟨_, rfl⟩
  have Eon := Lib.hid eon
  rw [eln] at HL hlen ⊢
  rw [eln] at H39
  rw [eon] at HO hlo ⊢
  clear eln eon
  obtain ⟨fb, efb⟩ : ∃ fb, fitsM pages l order = fb := ⟨_, rfl⟩
  rw [efb] at HF
  rw [efb]
  clear efb
  obtain ⟨bm, ebm⟩ : ∃ bm, mayL l = bm := ⟨_, rfl⟩
  rw [ebm] at H39 HF
  have H39 := Lib.hid H39
  clear ebm
  have hq1 : ¬ (pages < 1) := by omega
  have hq2 : ¬ (4096 < pages) := by omega
  cases bm with
  | false =>
    obtain rfl : fb = false := HF.out
    go_enter Tryd.func41, Tryd.ntmps41
    go_wp2_with fail
    refine H39.out.mono ?_
    rintro e w1 ⟨rfl, hb1⟩
    have HB1 := Lib.hid hb1
    clear hb1
    go_wp2
    go_ret
    exact ⟨rfl, HB1.out⟩
  | true =>
    have HF := Lib.hid (show fb = (chkM l [] order && (wholeM l order && (runM pages l [] order).isSome)) from HF.out)
    go_enter Tryd.func41, Tryd.ntmps41
    go_wp2_with fail
    refine H39.out.mono ?_
    rintro e w1 ⟨rfl, hb1⟩
    have HB1 := Lib.hid hb1
    clear hb1
    by_cases hlong : ln < on
    · obtain rfl : fb = false := HF.out.trans (by rw [chk_long (by rw [Eln.out, Eon.out]; exact hlong)]; rfl)
      have hlI : (ln : Int) < on := by omega
      go_wp2
      go_ret
      exact ⟨rfl, HB1.out⟩
    · have hlI : ¬ ((ln : Int) < on) := by omega
      have hmk := run_make_row' (P := Tryd.prog) 72 4 (.bool false) 1 Tryd.underlying72 lInfo4 rfl .i64 .i64 ln (by omega) (by omega)
      obtain ⟨W1, hW1⟩ : ∃ W1, W1 = w1 := ⟨_, rfl⟩
      subst hW1
      have hin0 : InAt (W1.alloc (.cells (madeCells #[.bool false] ln) 4)) W1.heap.size ln (order.take 0) := ⟨_, World.alloc_heap_new W1 _, fun k hk => by
        rw [List.take_zero, ← Array.getElem?_toList, toList_madeCells_one, List.getElem?_replicate, if_pos hk]
        rfl⟩
      have HI0 := Lib.hid hin0
      have HB2 := Lib.hid (HB1.out.alloc HB1.out.size (.cells (madeCells #[.bool false] ln) 4))
      have hgW : w.heap.size ≤ W1.heap.size := HB1.out.size
      clear hin0
      go_wp2_with fail
      go_loopw [8] (fun i wr => ∃ q : Nat, q ≤ on ∧ i = .int .i64 (q : Nat) ∧ chkM l [] order = chkM l (order.take q) (order.drop q) ∧ (∀ y ∈ order.take q, 0 ≤ y ∧ y < ln) ∧ InAt wr W1.heap.size ln (order.take q) ∧ Below w.heap.size w wr) (fun i _ => on - (intOf i).toNat)
      case atStart => exact ⟨0, by omega, rfl, by rw [List.take_zero, List.drop_zero], (fun y hy => by rw [List.take_zero] at hy; cases hy), HI0.out, HB2.out⟩
      case round =>
        obtain ⟨q, hq, rfl, hchk, hval, hin, hbw⟩ := hrel
        obtain ⟨Wo, hWo⟩ : ∃ Wo, Wo = wr := ⟨_, rfl⟩
        subst hWo
        have HC := Lib.hid hchk
        have HV := Lib.hid hval
        have HI := Lib.hid hin
        have HBw := Lib.hid hbw
        clear hchk hval hin
        by_cases hlt : q < on
        · obtain ⟨ga, gao, ca, hva, hga, ka⟩ := intsAt_cell (HO.out.kept (CellsKept.of hbw)) (k := q) (by rw [Eon.out]; exact hlt)
          obtain ⟨rfl, rfl⟩ : od = some ⟨ga, gao, none⟩ ∧ ocap = ca := by rw [Eon.out] at hva; injection hva with h1 h2 h3; exact ⟨h1, h3⟩
          have qI : (q : Int) < on := by omega
          have hstep := chk_step (l := l) (order := order) (i := q) (by rw [Eon.out]; exact hlt)
          have htk : order.take (q + 1) = order.take q ++ [order.getD q 0] := by rw [List.take_add_one, getD_get (by rw [Eon.out]; exact hlt)]; rfl
          obtain ⟨x, ex⟩ : ∃ x, order.getD q 0 = x := ⟨_, rfl⟩
          rw [ex] at ka hstep htk
          rw [Eln.out] at hstep
          have Ex := Lib.hid ex
          have Hstep := Lib.hid hstep
          have Htk := Lib.hid htk
          have Hbad := Lib.hid (fun (h : (decide (x < 0) || decide ((ln : Int) ≤ x) || (order.take q).contains x || aheadM l (order.take q) x.toNat) = true) => (show fb = false from HF.out.trans (by rw [HC.out, Hstep.out, h]; rfl)))
          clear hva hstep htk ex hbw
          by_cases h0 : x < 0
          · have d0 : decide (x < 0) = true := decide_eq_true h0
            obtain rfl : fb = false := Hbad.out (by rw [d0]; rfl)
            go_wp2
            go_ret
            exact ⟨rfl, HBw.out⟩
          · have d0 : decide (x < 0) = false := decide_eq_false h0
            by_cases h1 : (ln : Int) ≤ x
            · have d1 : decide ((ln : Int) ≤ x) = true := decide_eq_true h1
              obtain rfl : fb = false := Hbad.out (by rw [d1]; simp)
              go_wp2
              go_ret
              exact ⟨rfl, HBw.out⟩
            · have d1 : decide ((ln : Int) ≤ x) = false := decide_eq_false h1
              obtain ⟨m, rfl⟩ := Int.eq_ofNat_of_zero_le (show 0 ≤ x by omega)
              have hml : m < ln := by omega
              obtain ⟨cs, hcs, hcc⟩ := HI.out
              have hcell := (blk_cell hcs m).trans (hcc m hml)
              have hfz := blk_frozen hcs m
              obtain ⟨cb, ecb⟩ : ∃ cb, (order.take q).contains (m : Int) = cb := ⟨_, rfl⟩
              rw [ecb] at hcell
              have Ecb := Lib.hid ecb
              have Hset := Lib.hid (HI.out.set hml)
              have HBs := Lib.hid (HBw.out.setCell (p := ⟨W1.heap.size, m, none⟩) hgW (.bool true))
              have mI : (m : Int) < ln := by omega
              clear ecb hcs hcc
              cases cb with
              | true =>
                obtain rfl : fb = false := Hbad.out (by rw [Ecb.out]; simp)
                go_wp2
                go_ret
                exact ⟨rfl, HBw.out⟩
              | false =>
                go_wp2_with fail
                go_loopw [10] (fun i wr => ∃ t : Nat, t ≤ q ∧ i = .int .i64 (t : Nat) ∧ (∀ z, z < t → endedB (opAt l m) (opAt l ((order.take q).getD z 0).toNat) = false) ∧ InAt wr W1.heap.size ln (order.take q ++ [(m : Int)]) ∧ Below w.heap.size w wr) (fun i _ => q - (intOf i).toNat)
                case atStart => exact ⟨0, by omega, rfl, (fun z hz => absurd hz (Nat.not_lt_zero z)), Hset.out, HBs.out⟩
                case round =>
                  obtain ⟨t, ht, rfl, hno, hin2, hbi⟩ := hrel
                  obtain ⟨Wi, hWi⟩ : ∃ Wi, Wi = wr := ⟨_, rfl⟩
                  subst hWi
                  have HN := Lib.hid hno
                  have HI2 := Lib.hid hin2
                  have HBi := Lib.hid hbi
                  have hqL : (order.take q).length = q := by rw [List.length_take, Eon.out]; omega
                  clear hno hin2
                  by_cases htq : t < q
                  · obtain ⟨ga2, ga2o, ca2, hva2, _, kt⟩ := intsAt_cell (HO.out.kept (CellsKept.of hbi)) (k := t) (by rw [Eon.out]; omega)
                    obtain ⟨ga3, ga3o, ca3, hva3, _, kq⟩ := intsAt_cell (HO.out.kept (CellsKept.of hbi)) (k := q) (by rw [Eon.out]; exact hlt)
                    obtain ⟨rfl, rfl⟩ : ga = ga2 ∧ gao = ga2o := by injection hva2 with h1 h2 h3; injection h1 with h1; injection h1 with h1 h4; exact ⟨h1, h4⟩
                    have hget : (order.take q).getD t 0 = order.getD t 0 := by
                      rw [List.getD_eq_getElem?_getD, List.getD_eq_getElem?_getD, List.getElem?_take_of_lt htq]
                    have hvt := HV.out (order.getD t 0) (by
                      rw [← hget]
                      exact List.mem_of_getElem? (getD_get (by rw [hqL]; exact htq)))
                    obtain ⟨y, ey⟩ := Int.eq_ofNat_of_zero_le hvt.1
                    rw [ey] at kt hvt hget
                    have hyl : y < ln := by omega
                    have Hget := Lib.hid hget
                    obtain ⟨gl, glo, cl, lv, hvl, hgl, hLv, hc⟩ := opsAt_cell (HL.out.kept (CellsKept.of hbi)) (k := m) (by rw [Eln.out]; exact hml)
                    obtain ⟨rfl, rfl⟩ : ld = some ⟨gl, glo, none⟩ ∧ lcap = cl := by rw [Eln.out] at hvl; injection hvl with h1 h2 h3; exact ⟨h1, h3⟩
                    obtain ⟨gl2, gl2o, cl2, lv2, hvl2, _, hLv2, hc2⟩ := opsAt_cell (HL.out.kept (CellsKept.of hbi)) (k := y) (by rw [Eln.out]; exact hyl)
                    obtain ⟨rfl, rfl⟩ : gl = gl2 ∧ glo = gl2o := by injection hvl2 with h1 h2 h3; injection h1 with h1; injection h1 with h1 h4; exact ⟨h1, h4⟩
                    obtain ⟨md, mcap, rfl⟩ := ints_slice hLv
                    obtain ⟨md2, mcap2, rfl⟩ := ints_slice hLv2
                    obtain ⟨y0, y1, y2, y3, y4, y5, y6⟩ := hc
                    obtain ⟨z0, z1, z2, z3, z4, z5, z6⟩ := hc2
                    have hE := fun (W : World) => ended_any (opAt l m) (opAt l y) md (opAt l m).L.length mcap md2 (opAt l y).L.length mcap2 W
                    obtain ⟨eb, eeb⟩ : ∃ eb, endedB (opAt l m) (opAt l y) = eb := ⟨_, rfl⟩
                    rw [eeb] at hE
                    unfold opVal at hE
                    have HE := Lib.hid hE
                    have Eeb := Lib.hid eeb
                    have yI : (y : Int) < ln := by omega
                    have tI : (t : Int) < on := by omega
                    have Hb2 := Lib.hid (fun (hb : eb = true) => (show fb = false from Hbad.out (by
                      have : aheadM l (order.take q) m = true := behind_at (q := t) (by rw [hqL]; exact htq) (by rw [Hget.out, Int.toNat_natCast, Eeb.out]; exact hb)
                      rw [Int.toNat_natCast, this]; simp)))
                    have Hg2 := Lib.hid (fun (hb : eb = false) => (show ∀ z, z < t + 1 → endedB (opAt l m) (opAt l ((order.take q).getD z 0).toNat) = false from fun z hz => by
                      rcases Nat.lt_or_ge z t with h | h
                      · exact HN.out z h
                      · obtain rfl : z = t := by omega
                        rw [Hget.out, Int.toNat_natCast, Eeb.out]; exact hb))
                    clear hE eeb hva2 hva3 hvl hvl2 hLv hLv2 hbi ey hvt hget hqL kq
                    generalize opAt l m = o1 at *
                    generalize opAt l y = o2 at *
                    obtain ⟨kd, sz, at_, cd, LL, b, e⟩ := o1
                    obtain ⟨kd2, sz2, at2, cd2, LL2, b2, e2⟩ := o2
                    simp only [] at *
                    go_upto_region 14 with (fail)
                    go_cut [80] (fun s80 wx => s80 = .bool eb ∧ Below Wi.heap.size Wi wx)
                    case first =>
                      go_region_with (go_at_call 57; refine (HE.out _).mono ?_; rintro e w1 ⟨rfl, hb1⟩)
                      all_goals
                        go_wp2
                        go_meet
                        exact ⟨rfl, below_undrew' hb1⟩
                    case rest =>
                      obtain ⟨rfl, hbc⟩ := hcut
                      have HBc := Lib.hid (below_more HBi.out hbc)
                      have HI3 := Lib.hid (HI2.out.kept hbc)
                      clear hbc
                      cases eb with
                      | true =>
                        obtain rfl : fb = false := Hb2.out rfl
                        go_wp2
                        go_ret
                        exact ⟨rfl, HBc.out⟩
                      | false =>
                        have Hg := Lib.hid (Hg2.out rfl)
                        go_wp2
                        go_roundw
                        case rel => exact ⟨t + 1, by omega, by go_num, Hg.out, HI3.out, HBc.out⟩
                        case measure => simp [intOf]; omega
                  · obtain rfl : t = q := by omega
                    have Hah := Lib.hid (show aheadM l (order.take t) m = false from behind_none (fun z hz => HN.out z (by rw [hqL] at hz; exact hz)))
                    have Hnx := Lib.hid (show chkM l [] order = chkM l (order.take (t + 1)) (order.drop (t + 1)) by
                      rw [HC.out, Hstep.out, d0, d1, Ecb.out, Int.toNat_natCast, Hah.out]; rfl)
                    clear hqL
                    go_wp2
                    go_roundw
                    case rel =>
                      refine ⟨t + 1, by omega, by go_num, Hnx.out, (fun y hy => ?_), by rw [Htk.out]; exact HI2.out, HBi.out⟩
                      rw [Htk.out] at hy
                      rcases List.mem_append.1 hy with hy | hy
                      · exact HV.out y hy
                      · have := List.mem_singleton.1 hy
                        omega
                    case measure => simp [intOf]; omega
        · obtain rfl : q = on := by omega
          have hall : order.take q = order := by rw [← Eon.out]; exact List.take_length
          have Hchk := Lib.hid (show chkM l [] order = true by
            rw [HC.out]
            have : order.drop q = [] := by rw [← Eon.out]; exact List.drop_length
            rw [this]; rfl)
          have hval := HV.out
          have hin := HI.out
          rw [hall] at hval hin
          have HV2 := Lib.hid hval
          have HI5 := Lib.hid hin
          clear hval hin hall
          have HF2 := Lib.hid (show fb = (wholeM l order && (runM pages l [] order).isSome) from HF.out.trans (by rw [Hchk.out]; rfl))
          go_wp2_with fail
          go_loopw [11] (fun i wr => ∃ t : Nat, t ≤ ln ∧ i = .int .i64 (t : Nat) ∧ (∀ j, j < t → (opAt l j).e = -1 ∨ order.contains (j : Int) = true) ∧ wr = Wo) (fun i _ => ln - (intOf i).toNat)
          case atStart => exact ⟨0, by omega, rfl, (fun j hj => absurd hj (Nat.not_lt_zero j)), rfl⟩
          case round =>
            obtain ⟨t, ht, rfl, hno, hwr⟩ := hrel
            have hwr := hwr.symm
            subst hwr
            have HN := Lib.hid hno
            clear hno
            by_cases htl : t < ln
            · obtain ⟨cs, hcs, hcc⟩ := HI5.out
              have hcell := (blk_cell hcs t).trans (hcc t htl)
              obtain ⟨gl, glo, cl, lv, hvl, hgl, _, hc⟩ := opsAt_cell (HL.out.kept (CellsKept.of hbw)) (k := t) (by rw [Eln.out]; exact htl)
              obtain ⟨rfl, rfl⟩ : ld = some ⟨gl, glo, none⟩ ∧ lcap = cl := by rw [Eln.out] at hvl; injection hvl with h1 h2 h3; exact ⟨h1, h3⟩
              have ce := hc.2.2.2.2.2.2
              have tI : (t : Int) < ln := by omega
              obtain ⟨ee, eee⟩ : ∃ ee, (opAt l t).e = ee := ⟨_, rfl⟩
              rw [eee] at ce
              have Ee := Lib.hid eee
              obtain ⟨cb, ecb⟩ : ∃ cb, order.contains (t : Int) = cb := ⟨_, rfl⟩
              rw [ecb] at hcell
              have Ecb := Lib.hid ecb
              have Hnext := Lib.hid (fun (h : ee = -1 ∨ order.contains (t : Int) = true) => (show ∀ j, j < t + 1 → (opAt l j).e = -1 ∨ order.contains (j : Int) = true from fun j hj => by
                rcases Nat.lt_or_ge j t with h' | h'
                · exact HN.out j h'
                · obtain rfl : j = t := by omega
                  rw [Ee.out]; exact h))
              clear hcs hcc hvl hc eee ecb
              cases cb with
              | true =>
                have Hn := Lib.hid (Hnext.out (.inr Ecb.out))
                go_wp2
                go_roundw
                case rel => exact ⟨t + 1, by omega, by go_num, Hn.out, trivial⟩
                case measure => simp [intOf]; omega
              | false =>
                by_cases he : ee = -1
                · have he' : (ee != -1) = false := by rw [he]; rfl
                  have Hn := Lib.hid (Hnext.out (.inl he))
                  go_wp2
                  go_roundw
                  case rel => exact ⟨t + 1, by omega, by go_num, Hn.out, trivial⟩
                  case measure => simp [intOf]; omega
                · have he' : (ee != -1) = true := by simpa using he
                  obtain rfl : fb = false := HF2.out.trans (by
                    have : wholeM l order = false := by
                      unfold wholeM
                      refine all_not (by rw [Eln.out]; exact htl) ?_
                      rw [Ecb.out, Ee.out, decide_eq_false he]; rfl
                    rw [this]; rfl)
                  go_wp2
                  go_ret
                  exact ⟨rfl, HBw.out⟩
            · obtain rfl : t = ln := by omega
              have Hw := Lib.hid (show wholeM l order = true by
                unfold wholeM
                refine all_at fun i hi => ?_
                rw [Eln.out] at hi
                rcases HN.out i hi with h | h
                · rw [decide_eq_true h]; rfl
                · rw [h, Bool.or_true])
              have HF3 := Lib.hid (show fb = (runM pages l [] order).isSome from HF2.out.trans (by rw [Hw.out]; rfl))
              go_wp2_with fail
              go_loopw [12, 13] (fun sv i wr => ∃ (z : Nat) (s : LiveP) (sd : Option Addr) (scap : Nat), z ≤ q ∧ sv = .slice sd s.length scap ∧ i = .int .i64 (z : Nat) ∧ runM pages l [] order = runM pages l s (order.drop z) ∧ s.length ≤ 100 + z ∧ LivesAt wr (.slice sd s.length scap) s ∧ Below w.heap.size w wr) (fun _ i _ => q - (intOf i).toNat)
              case atStart => exact ⟨0, [], none, 0, by omega, rfl, rfl, by rw [List.drop_zero], by simp, livesAt_nil _, HBw.out⟩
              case round =>
                obtain ⟨z, s, sd, scap, hz, rfl, rfl, hrun, hsl, hls, hbz⟩ := hrel
                obtain ⟨Wz, hWz⟩ : ∃ Wz, Wz = wr := ⟨_, rfl⟩
                subst hWz
                have HR := Lib.hid hrun
                have HS := Lib.hid hls
                have HBz := Lib.hid hbz
                clear hrun hls
                by_cases hzq : z < q
                · obtain ⟨ga, gao, ca, hva, hga, ka⟩ := intsAt_cell (HO.out.kept (CellsKept.of hbz)) (k := z) (by rw [Eon.out]; exact hzq)
                  obtain ⟨rfl, rfl⟩ : od = some ⟨ga, gao, none⟩ ∧ ocap = ca := by rw [Eon.out] at hva; injection hva with h1 h2 h3; exact ⟨h1, h3⟩
                  have hvz := HV2.out (order.getD z 0) (List.mem_of_getElem? (getD_get (by rw [Eon.out]; exact hzq)))
                  obtain ⟨m, em⟩ := Int.eq_ofNat_of_zero_le hvz.1
                  have hst := run_step (pages := pages) (l := l) (s := s) (order := order) (i := z) (by rw [Eon.out]; exact hzq)
                  rw [em] at ka hvz hst
                  rw [Int.toNat_natCast] at hst
                  have Hst := Lib.hid hst
                  have hml : m < t := by omega
                  obtain ⟨gl, glo, cl, lvm, hvl, hgl, hLv, hc⟩ := opsAt_cell (HL.out.kept (CellsKept.of hbz)) (k := m) (by rw [Eln.out]; exact hml)
                  obtain ⟨rfl, rfl⟩ : ld = some ⟨gl, glo, none⟩ ∧ lcap = cl := by rw [Eln.out] at hvl; injection hvl with h1 h2 h3; exact ⟨h1, h3⟩
                  obtain ⟨md, mcap, rfl⟩ := ints_slice hLv
                  have hfm := Hfit.out m (by rw [Eln.out]; exact hml)
                  have H58 := accepts_any pages hp0 hp1 s (by omega) (opAt l m) hfm.1 (by omega) _ md mcap Wz HS.out hLv
                  obtain ⟨rd, erd⟩ : ∃ rd, doesM pages s (opAt l m) = rd := ⟨_, rfl⟩
                  rw [erd] at H58
                  have Erd := Lib.hid erd
                  have hdl : ∀ s', rd = some s' → s'.length ≤ 100 + (z + 1) := fun s' h => by
                    rcases doesM_lengthR (erd.trans h) with h' | h'
                    · omega
                    · have := hfm.2; omega
                  have Hdl := Lib.hid hdl
                  unfold opVal at H58
                  have H58 := Lib.hid H58
                  obtain ⟨y0, y1, y2, y3, y4, y5, y6⟩ := hc
                  have zI : (z : Int) < q := by omega
                  have mI : (m : Int) < t := by omega
                  clear erd hvl hva hLv hfm hbz em hvz hst hdl
                  generalize opAt l m = op at *
                  obtain ⟨kd, sz, at_, cd, LL, b, e⟩ := op
                  simp only [] at *
                  go_wp2_with fail
                  refine H58.out.mono ?_
                  rintro e4 w4 ⟨⟨sv4, rfl, hsv4⟩, hb4⟩
                  have HB4 := Lib.hid (below_more HBz.out hb4)
                  have HS4 := Lib.hid hsv4
                  clear hb4 y0 y1 y2 y3 y4 y5 y6
                  cases rd with
                  | none =>
                    clear hsv4
                    obtain rfl : fb = false := HF3.out.trans (by rw [HR.out, Hst.out, Erd.out]; rfl)
                    go_wp2
                    go_ret
                    exact ⟨rfl, HB4.out⟩
                  | some s' =>
                    simp only [Option.isSome_some, Option.getD_some] at *
                    obtain ⟨sd4, sc4, rfl⟩ := lives_slice hsv4
                    clear hsv4
                    have Hnx := Lib.hid (show runM pages l [] order = runM pages l s' (order.drop (z + 1)) by rw [HR.out, Hst.out, Erd.out])
                    have Hd2 := Lib.hid (Hdl.out s' rfl)
                    go_wp2
                    go_roundw
                    case rel => exact ⟨z + 1, s', sd4, sc4, by omega, rfl, by go_num, Hnx.out, Hd2.out, HS4.out, HB4.out⟩
                    case measure => simp [intOf]; omega
                · obtain rfl : z = q := by omega
                  obtain rfl : fb = true := HF3.out.trans (by
                    rw [HR.out]
                    have : order.drop z = [] := by rw [← Eon.out]; exact List.drop_length
                    rw [this]; rfl)
                  go_wp2
                  go_ret
                  exact ⟨rfl, HBz.out⟩
end Go.Proofs.YtomheapokfphiaaDoor
