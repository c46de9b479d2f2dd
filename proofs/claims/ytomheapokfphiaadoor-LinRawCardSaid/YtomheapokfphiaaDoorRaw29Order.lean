/-
  The contracts of the document's search, and of its Order.
-/
import Derived.Test.YtomheapokfphiaaDoorRaw29Search
namespace Go.Proofs.YtomheapokfphiaaDoor
open Go Go.RowKit Go.Shelf

theorem search_any (pages : Int) (hp0 : 1 ≤ pages) (hp1 : pages ≤ 4096) (l : List OpP) (hlen : l.length ≤ 8) (hfit : ∀ i, i < l.length → (opAt l i).fits ∧ 0 ≤ 0) :
    ∀ (f : Nat), f ≤ 8 → ∀ (s : LiveP) (order : List Int) (lv ov sv : Value) (w : World), miss order l.length ≤ f → s.length + f ≤ 400 → order.length + f ≤ 400 → (∀ x ∈ order, 0 ≤ x ∧ x < l.length) → OpsAt w lv l → IntsAt w ov order → LivesAt w sv s →
      Calls Tryd.prog 51 #[.int .i64 pages, lv, ov, sv] w fun e w' => FoundAt w ((dfsM pages l f s order).find? (wholeM l)) e w'
  | 0, _, s, order, lv, ov, sv, w, hm, hs, ho, hin, hl, hov, hsv => by
    have hc := miss_zero (order := order) (n := l.length) (by omega)
    have := search_step pages hp0 hp1 l hlen hfit (fun _ _ => []) s (by omega) order (by omega) hin lv ov sv w hl hov hsv (fun i _ _ _ _ hi hn => by rw [hc i hi] at hn; cases hn)
    rw [subM_none hc] at this
    exact this
  | f + 1, hf, s, order, lv, ov, sv, w, hm, hs, ho, hin, hl, hov, hsv => by
    refine search_step pages hp0 hp1 l hlen hfit (dfsM pages l f) s (by omega) order (by omega) hin lv ov sv w hl hov hsv (fun i s' ov' sv' W hi hn hd hl' hov' hsv' => ?_)
    have h1 := miss_less (order := order) (i := i) hn hi
    have h2 := (hfit i hi).2
    refine search_any pages hp0 hp1 l hlen hfit f (by omega) s' (order ++ [(i : Int)]) lv ov' sv' W (by omega) ?_ (by simp; omega) (fun x hx => ?_) hl' hov' hsv'
    · rcases doesM_lengthR hd with h | h
      · omega
      · omega
    · rcases List.mem_append.1 hx with hx | hx
      · exact hin x hx
      · have := List.mem_singleton.1 hx
        omega

set_option maxHeartbeats 4000000 in
theorem rorder_any (pages : Int) (hp0 : 1 ≤ pages) (hp1 : pages ≤ 4096) (l : List OpP) (hlen : l.length ≤ 8) (hfit : ∀ i, i < l.length → (opAt l i).fits ∧ 0 ≤ 0) (lv : Value) (w : World) (hl : OpsAt w lv l) :
    Calls Tryd.prog 36 #[.int .i64 pages, lv] w fun e w' => FoundAt w (orderM pages l) e w' := by
  have HL := Lib.hid hl
  have H39 := rmay_any l (by omega) lv w hl
  obtain ⟨r, er⟩ : ∃ r, orderM pages l = r := ⟨_, rfl⟩
  rw [er]
  have Er := Lib.hid er
  have Hs := Lib.hid (fun (W : World) (h : OpsAt W lv l) => search_any pages hp0 hp1 l hlen hfit l.length hlen [] [] lv (.slice none 0 0) (.slice none 0 0) W (miss_nil _) (by simp; omega) (by simp; omega) (fun x hx => by cases hx) h (intsAt_nil _) (livesAt_nil _))
  obtain ⟨ld, lcap, rfl⟩ := ops_slice hl
  clear hl er
  obtain ⟨bm, ebm⟩ : ∃ bm, mayL l = bm := ⟨_, rfl⟩
  rw [ebm] at H39
  have Ebm := Lib.hid ebm
  have H39 := Lib.hid H39
  clear ebm
  have hq1 : ¬ (pages < 1) := by omega
  have hq2 : ¬ (4096 < pages) := by omega
  have hl8 : ¬ ((8 : Int) < l.length) := by omega
  cases bm with
  | false =>
    obtain rfl : r = none := Er.out.symm.trans (by unfold orderM; rw [if_neg]; rintro ⟨_, h, _⟩; rw [Ebm.out] at h; cases h)
    go_enter Tryd.func36, Tryd.ntmps36
    go_wp2_with fail
    refine H39.out.mono ?_
    rintro e w1 ⟨rfl, hb1⟩
    have HB1 := Lib.hid hb1
    clear hb1
    go_wp2
    go_ret2
    exact ⟨⟨_, rfl, intsAt_nil _⟩, HB1.out⟩
  | true =>
    have Hr := Lib.hid (show (dfsM pages l l.length [] []).find? (wholeM l) = r from by rw [← Er.out]; unfold orderM; rw [if_pos ⟨⟨hp0, hp1⟩, Ebm.out, hlen⟩])
    go_enter Tryd.func36, Tryd.ntmps36
    go_wp2_with fail
    refine H39.out.mono ?_
    rintro e w1 ⟨rfl, hb1⟩
    have HB1 := Lib.hid hb1
    have HL1 := Lib.hid (HL.out.kept (CellsKept.of hb1))
    clear hb1
    go_wp2_with fail
    refine (Hs.out _ HL1.out).mono ?_
    rintro e w2 ⟨⟨u, rfl, hu⟩, hb2⟩
    rw [Hr.out] at hu
    rw [Hr.out]
    have HB2 := Lib.hid (below_more HB1.out hb2)
    have HU := Lib.hid hu
    clear hu hb2
    go_wp2
    go_ret2
    exact ⟨⟨_, rfl, HU.out⟩, HB2.out⟩
end Go.Proofs.YtomheapokfphiaaDoor
