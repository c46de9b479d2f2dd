/-
  What lives, in the document's form; its contracts behind and place.
-/
import Derived.Test.YtomheapokfphiaaDoorRaw29Leaf
import Derived.Test.YtomheapokfphiaaDoorRawCycle
import Derived.Deep.RegionWith
namespace Go.Proofs.YtomheapokfphiaaDoor
open Go Go.RowKit Go.Shelf

/-- Pairs in a slice: an address, and so many bytes. -/
def LivesAt (w : World) (v : Value) (s : LiveP) : Prop :=
  ∃ ad cap, v = .slice ad s.length cap ∧ (s = [] ∨ ∃ g, ad = some ⟨g, 0, none⟩ ∧ g < w.heap.size ∧ ∀ (j : Nat) (q : Int × Int), s[j]? = some q → w.cell? ⟨g, j * 2, none⟩ = some (.int .i64 q.1) ∧ w.cell? ⟨g, j * 2 + 1, none⟩ = some (.int .i64 q.2))
theorem LivesAt.kept {w w' : World} {v : Value} {s : LiveP} (h : LivesAt w v s) (hb : CellsKept w w') : LivesAt w' v s := by
  obtain ⟨ad, cap, rfl, h | ⟨g, rfl, hg, hc⟩⟩ := h
  · exact ⟨_, _, rfl, .inl h⟩
  · exact ⟨_, _, rfl, .inr ⟨g, rfl, Nat.lt_of_lt_of_le hg hb.1, fun j q hq => ⟨hb.cell (hc j q hq).1, hb.cell (hc j q hq).2⟩⟩⟩
theorem livesAt_nil (w : World) : LivesAt w (.slice none 0 0) [] := ⟨none, 0, rfl, .inl rfl⟩
theorem lives_slice {w : World} {v : Value} {s : LiveP} (h : LivesAt w v s) : ∃ ad cap, v = .slice ad s.length cap := by
  obtain ⟨ad, cap, rfl, _⟩ := h
  exact ⟨ad, cap, rfl⟩
theorem livesAt_cell {w : World} {v : Value} {s : LiveP} (h : LivesAt w v s) {k : Nat} {q : Int × Int} (hk : s[k]? = some q) :
    ∃ g cap, v = .slice (some ⟨g, 0, none⟩) s.length cap ∧ g < w.heap.size ∧ w.cell? ⟨g, k * 2, none⟩ = some (.int .i64 q.1) ∧ w.cell? ⟨g, k * 2 + 1, none⟩ = some (.int .i64 q.2) := by
  obtain ⟨ad, cap, rfl, rfl | ⟨g, rfl, hg, hc⟩⟩ := h
  · simp at hk
  · exact ⟨g, cap, rfl, hg, (hc k q hk).1, (hc k q hk).2⟩
def flatLive : LiveP → List Value
  | [] => []
  | q :: s => [.int .i64 q.1, .int .i64 q.2] ++ flatLive s
theorem flatLive_len : ∀ s : LiveP, (flatLive s).length = s.length * 2
  | [] => rfl
  | q :: s => by rw [flatLive, List.length_append, flatLive_len s, List.length_cons]; simp; omega
theorem flatLive_app : ∀ (s t : LiveP), flatLive (s ++ t) = flatLive s ++ flatLive t
  | [], _ => rfl
  | q :: s, t => by simp [flatLive, flatLive_app s t]
theorem flatLive_get : ∀ (s : LiveP) (j : Nat) (q : Int × Int), s[j]? = some q → (flatLive s)[j * 2]? = some (.int .i64 q.1) ∧ (flatLive s)[j * 2 + 1]? = some (.int .i64 q.2)
  | [], j, q, h => by simp at h
  | p :: s, 0, q, h => by
    simp at h
    subst h
    simp [flatLive]
  | p :: s, j + 1, q, h => by
    have := flatLive_get s j q (by simpa using h)
    rw [flatLive, List.getElem?_append_right (by simp; omega), List.getElem?_append_right (by simp; omega)]
    simp only [List.length_cons, List.length_nil]
    rw [show (j + 1) * 2 - (0 + 1 + 1) = j * 2 by omega, show (j + 1) * 2 + 1 - (0 + 1 + 1) = j * 2 + 1 by omega]
    exact this
theorem flatLive_one : ∀ (s : LiveP), ∀ u ∈ flatLive s, u.oneCell' = true
  | [], u, h => by cases h
  | q :: s, u, h => by
    rw [flatLive] at h
    rcases List.mem_append.1 h with h | h
    · simp at h
      rcases h with rfl | rfl <;> rfl
    · exact flatLive_one s u h
theorem lives_of_owns {w : World} {base n : Nat} {v : Value} {s : LiveP} (hn : n = s.length) (h : w.ownsRow base 84 2 v n (flatLive s)) : LivesAt w v s := by
  subst hn
  have h' := h
  rcases h.2 with ⟨rfl, h0⟩ | ⟨g, cap, cur, rfl, hb, hh, _⟩
  · exact ⟨none, 0, by rw [h0], .inl (List.length_eq_zero_iff.1 h0)⟩
  · refine ⟨_, cap, rfl, .inr ⟨g, rfl, (Array.getElem?_eq_some_iff.1 hh).1, fun j q hq => ?_⟩⟩
    have hj := (List.getElem?_eq_some_iff.1 hq).1
    have := flatLive_get s j q hq
    exact ⟨(World.ownsRow.cellAt h' (j * 2) (by omega)).trans this.1, (World.ownsRow.cellAt h' (j * 2 + 1) (by omega)).trans this.2⟩

set_option maxHeartbeats 2000000 in
theorem place_any (s : LiveP) (hs : s.length ≤ 500) (x : Int) (v : Value) (w : World) (h : LivesAt w v s) : Calls Tryd.prog 70 #[v, .int .i64 x] w fun e w' => (∃ i : Int, e = .returned (.int .i64 i) ∧ IndexV (s.map (·.1)) x i) ∧ w = w' := by
  have HL := Lib.hid h
  obtain ⟨ld, lcap, rfl⟩ := lives_slice h
  clear h
  obtain ⟨ln, eln⟩ : ∃ ln, s.length = ln := ⟨_, rfl⟩
  have Eln := Lib.hid eln
  rw [eln] at hs HL ⊢
  clear eln
  go_enter Tryd.func70, Tryd.ntmps70
  go_wp2_with fail
  go_loopw [5] (fun i wr => ∃ k : Nat, k ≤ ln ∧ i = .int .i64 (k : Nat) ∧ (∀ j, j < k → (s.map (·.1)).getD j 0 ≠ x) ∧ wr = w) (fun i _ => ln - (intOf i).toNat)
  case atStart => exact ⟨0, by omega, rfl, fun j hj => absurd hj (Nat.not_lt_zero j), rfl⟩
  case round =>
    obtain ⟨k, hk, rfl, hno, hwr⟩ := hrel
    have hwr := hwr.symm
    subst hwr
    have HN := Lib.hid hno
    clear hno
    by_cases hlt : k < ln
    · obtain ⟨q, hq⟩ : ∃ q, s[k]? = some q := ⟨_, List.getElem?_eq_getElem (by rw [Eln.out]; exact hlt)⟩
      obtain ⟨gl, cl, hvl, hgl, hc, _⟩ := livesAt_cell HL.out hq
      obtain ⟨rfl, rfl⟩ : ld = some ⟨gl, 0, none⟩ ∧ lcap = cl := by rw [Eln.out] at hvl; injection hvl with h1 h2 h3; exact ⟨h1, h3⟩
      have hkI : (k : Int) < ln := by omega
      have hy : (s.map (·.1)).getD k 0 = q.1 := by rw [List.getD_eq_getElem?_getD, List.getElem?_map, hq]; rfl
      have Hy := Lib.hid hy
      obtain ⟨y, z⟩ := q
      simp only [] at *
      clear hvl hq hy
      by_cases hxy : y = x
      · subst hxy
        have Hi := Lib.hid (show IndexV (s.map (·.1)) y (k : Int) from .inl ⟨k, rfl, by rw [List.length_map, Eln.out]; exact hlt, Hy.out, HN.out⟩)
        go_wp2
        go_ret
        exact ⟨⟨_, rfl, Hi.out⟩, rfl⟩
      · have hxy' : (y == x) = false := by simpa using hxy
        go_wp2
        go_roundw
        case rel =>
          refine ⟨k + 1, by omega, by go_num, (fun j hj => ?_), trivial⟩
          rcases Nat.lt_or_ge j k with h | h
          · exact HN.out j h
          · obtain rfl : j = k := by omega
            rw [Hy.out]; exact hxy
        case measure => simp [intOf]; omega
    · obtain rfl : k = ln := by omega
      have Hi := Lib.hid (show IndexV (s.map (·.1)) x (-1) from .inr ⟨rfl, fun j hj => HN.out j (by rw [List.length_map, Eln.out] at hj; exact hj)⟩)
      go_wp2
      go_ret
      exact ⟨⟨_, rfl, Hi.out⟩, rfl⟩

theorem below_undrew' {w w' : World} (h : Below w.drew.heap.size w.drew w') : Below w.heap.size w w' := ⟨h.os, h.tape, h.output, h.size, h.block⟩
set_option maxHeartbeats 4000000 in
theorem behind_any (l : List OpP) (L : List Int) (hL : L.length ≤ 500) (hin : ∀ x ∈ L, 0 ≤ x ∧ x < l.length) (i : Nat) (hi : i < l.length) (v u : Value) (w : World) (h : OpsAt w v l) (hu : IntsAt w u L) :
    Calls Tryd.prog 63 #[v, u, .int .i64 (i : Nat)] w fun e w' => e = .returned (.bool (aheadM l L i)) ∧ Below w.heap.size w w' := by
  have HL := Lib.hid h
  have HU := Lib.hid hu
  obtain ⟨ld, lcap, rfl⟩ := ops_slice h
  obtain ⟨ud, ucap, rfl⟩ := ints_slice hu
  clear h hu
  obtain ⟨ln, eln⟩ : ∃ ln, l.length = ln := ⟨_, rfl⟩
  have Eln := Lib.hid eln
  obtain ⟨un, eun⟩ : ∃ un, L.length = un := ⟨_, rfl⟩
  have Eun := Lib.hid eun
  rw [eln] at HL hin hi ⊢
  rw [eun] at hL HU ⊢
  have Hin := Lib.hid hin
  clear eln eun hin
  obtain ⟨ab, eab⟩ : ∃ ab, aheadM l L i = ab := ⟨_, rfl⟩
  rw [eab]
  have Eab := Lib.hid eab
  clear eab
  go_enter Tryd.func63, Tryd.ntmps63
  go_wp2_with fail
  go_loopw [7] (fun i' wr => ∃ k : Nat, k ≤ un ∧ i' = .int .i64 (k : Nat) ∧ (∀ q, q < k → endedB (opAt l i) (opAt l (L.getD q 0).toNat) = false) ∧ Below w.heap.size w wr) (fun i' _ => un - (intOf i').toNat)
  case atStart => exact ⟨0, by omega, rfl, fun j hj => absurd hj (Nat.not_lt_zero j), Below.refl _ _⟩
  case round =>
    obtain ⟨k, hk, rfl, hno, hbw⟩ := hrel
    obtain ⟨Wo, hWo⟩ : ∃ Wo, Wo = wr := ⟨_, rfl⟩
    subst hWo
    have HN := Lib.hid hno
    have HBw := Lib.hid hbw
    clear hno
    by_cases hlt : k < un
    · obtain ⟨ga, gao, ca, hva, hga, ka⟩ := intsAt_cell (HU.out.kept (CellsKept.of hbw)) (k := k) (by rw [Eun.out]; exact hlt)
      obtain ⟨rfl, rfl⟩ : ud = some ⟨ga, gao, none⟩ ∧ ucap = ca := by rw [Eun.out] at hva; injection hva with h1 h2 h3; exact ⟨h1, h3⟩
      have hb0 := Hin.out (L.getD k 0) (List.mem_of_getElem? (getD_get (by rw [Eun.out]; exact hlt)))
      obtain ⟨x, ex⟩ := Int.eq_ofNat_of_zero_le hb0.1
      have Ex := Lib.hid ex
      rw [ex] at ka hb0
      have hxl : x < ln := by omega
      obtain ⟨gl, glo, cl, lv, hvl, hgl, hLv, hc⟩ := opsAt_cell (HL.out.kept (CellsKept.of hbw)) (k := i) (by rw [Eln.out]; exact hi)
      obtain ⟨rfl, rfl⟩ : ld = some ⟨gl, glo, none⟩ ∧ lcap = cl := by rw [Eln.out] at hvl; injection hvl with h1 h2 h3; exact ⟨h1, h3⟩
      obtain ⟨gl2, gl2o, cl2, lv2, hvl2, _, hLv2, hc2⟩ := opsAt_cell (HL.out.kept (CellsKept.of hbw)) (k := x) (by rw [Eln.out]; exact hxl)
      obtain ⟨rfl, rfl⟩ : gl = gl2 ∧ glo = gl2o := by injection hvl2 with h1 h2 h3; injection h1 with h1; injection h1 with h1 h4; exact ⟨h1, h4⟩
      obtain ⟨md, mcap, rfl⟩ := ints_slice hLv
      obtain ⟨md2, mcap2, rfl⟩ := ints_slice hLv2
      obtain ⟨y0, y1, y2, y3, y4, y5, y6⟩ := hc
      obtain ⟨z0, z1, z2, z3, z4, z5, z6⟩ := hc2
      have hE := fun (W : World) => ended_any (opAt l i) (opAt l x) md (opAt l i).L.length mcap md2 (opAt l x).L.length mcap2 W
      obtain ⟨eb, eeb⟩ : ∃ eb, endedB (opAt l i) (opAt l x) = eb := ⟨_, rfl⟩
      rw [eeb] at hE
      unfold opVal at hE
      have HE := Lib.hid hE
      have Eeb := Lib.hid eeb
      have iI : (i : Int) < ln := by omega
      have xI : (x : Int) < ln := by omega
      have kI : (k : Int) < un := by omega
      have Hbad := Lib.hid (fun (hb : eb = true) => (show aheadM l L i = true from behind_at (q := k) (by rw [Eun.out]; exact hlt) (by rw [Ex.out, Int.toNat_natCast, Eeb.out]; exact hb)))
      have Hgood := Lib.hid (fun (hb : eb = false) => (show ∀ q, q < k + 1 → endedB (opAt l i) (opAt l (L.getD q 0).toNat) = false from fun q hq => by
        rcases Nat.lt_or_ge q k with h | h
        · exact HN.out q h
        · obtain rfl : q = k := by omega
          rw [Ex.out, Int.toNat_natCast, Eeb.out]; exact hb))
      clear hE eeb hva hvl hvl2 hLv hLv2 hbw ex hb0
      generalize opAt l i = o1 at *
      generalize opAt l x = o2 at *
      obtain ⟨kd, sz, at_, cd, LL, b, e⟩ := o1
      obtain ⟨kd2, sz2, at2, cd2, LL2, b2, e2⟩ := o2
      simp only [] at *
      go_upto_region 4 with (fail)
      go_cut [25] (fun s25 wx => s25 = .bool eb ∧ Below Wo.heap.size Wo wx)
      case first =>
        go_region_with (go_at_call 57; refine (HE.out _).mono ?_; rintro e w1 ⟨rfl, hb1⟩)
        all_goals
          go_wp2
          go_meet
          exact ⟨rfl, below_undrew' hb1⟩
      case rest =>
        obtain ⟨rfl, hbc⟩ := hcut
        have HBc := Lib.hid (below_more HBw.out hbc)
        clear hbc
        cases eb with
        | true =>
          obtain rfl : ab = true := Eab.out.symm.trans (Hbad.out rfl)
          go_wp2
          go_ret
          exact ⟨rfl, HBc.out⟩
        | false =>
          have Hg := Lib.hid (Hgood.out rfl)
          go_wp2
          go_roundw
          case rel => exact ⟨k + 1, by omega, by go_num, Hg.out, HBc.out⟩
          case measure => simp [intOf]; omega
    · obtain rfl : k = un := by omega
      obtain rfl : ab = false := Eab.out.symm.trans (behind_none (fun q hq => HN.out q (by rw [Eun.out] at hq; exact hq)))
      go_wp2
      go_ret
      exact ⟨rfl, HBw.out⟩
end Go.Proofs.YtomheapokfphiaaDoor
