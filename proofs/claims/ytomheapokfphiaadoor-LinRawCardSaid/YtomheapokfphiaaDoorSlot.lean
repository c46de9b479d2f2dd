/-
  The contracts of package slot and of the document's slots.
-/
import Derived.Test.YtomheapokfphiaaDoorRef
namespace Go.Proofs.YtomheapokfphiaaDoor
open Go.RowKit

set_option maxHeartbeats 400000 in
theorem there_yes (p c : Int) (h0 : 0 ≤ p) (h1 : p < 4096) (h2 : 0 ≤ c) (h3 : c ≤ 14) (w : World) : Calls Tryd.prog 46 #[.int .i64 p, .int .i64 c] w fun e w' => e = .returned (.bool true) ∧ w = w' := by
  go_enter Tryd.func46, Tryd.ntmps46
  go_wp2
  go_ret
  exact ⟨rfl, rfl⟩

set_option maxHeartbeats 400000 in
theorem there_no (p c : Int) (h : p < 0 ∨ 4096 ≤ p ∨ c < 0 ∨ 14 < c) (w : World) : Calls Tryd.prog 46 #[.int .i64 p, .int .i64 c] w fun e w' => e = .returned (.bool false) ∧ w = w' := by
  by_cases g0 : p < 0
  · go_enter Tryd.func46, Tryd.ntmps46
    go_wp2
    go_ret
    exact ⟨rfl, rfl⟩
  by_cases g1 : 4096 ≤ p
  · have d : decide (p < 4096) = false := by simp; omega
    clear g0 h
    go_enter Tryd.func46, Tryd.ntmps46
    go_wp2
    go_ret
    exact ⟨rfl, rfl⟩
  by_cases g2 : c < 0
  · clear h
    go_enter Tryd.func46, Tryd.ntmps46
    go_wp2
    go_ret
    exact ⟨rfl, rfl⟩
  · have g3 : 14 < c := by omega
    have d : decide (c ≤ 14) = false := by simp; omega
    clear h
    go_enter Tryd.func46, Tryd.ntmps46
    go_wp2
    go_ret
    exact ⟨rfl, rfl⟩

set_option maxHeartbeats 400000 in
theorem begin_any (p c i : Int) (r : Int × Bool) (hr : BegV p c i r) (w : World) (hT : Tab w) : Calls Tryd.prog 27 #[.int .i64 p, .int .i64 c, .int .i64 i] w fun e w' => e = .returned (.tuple #[.int .i64 r.1, .bool r.2]) ∧ Below w.heap.size w w' := by
  rcases begins_or p c i with h | h | ⟨h, h2⟩
  · obtain rfl : r = (p * 8192 + i * szI c, true) := by
      rcases hr with ⟨_, e⟩ | ⟨n, _⟩
      · exact e
      · exact absurd h n
    obtain ⟨b1, b2⟩ := mul_bd c i h.i0 h.i1
    have g0 := h.p0; have g1 := h.p1; have g2 := h.c0; have g3 := h.c1; have g4 := h.i0; have g5 := h.i1
    clear hr h
    go_enter Tryd.func27, Tryd.ntmps27
    go_wp2_with fail
    refine (there_yes p c g0 g1 g2 g3 _).mono ?_
    rintro e w1 ⟨rfl, rfl⟩
    go_wp2_with fail
    refine (slots_any c _ hT).mono ?_
    rintro e w1 ⟨rfl, hb1⟩
    go_wp2_with fail
    refine (size_any c _ (hT.below hb1)).mono ?_
    rintro e w2 ⟨rfl, rfl⟩
    go_wp2
    go_ret2
    exact ⟨rfl, hb1⟩
  · obtain rfl : r = (0, false) := by
      rcases hr with ⟨b, _⟩ | ⟨_, e⟩
      · have := b.p0; have := b.p1; have := b.c0; have := b.c1; omega
      · exact e
    have H := Lib.hid h
    clear hr h
    go_enter Tryd.func27, Tryd.ntmps27
    go_wp2_with fail
    refine (there_no p c H.out _).mono ?_
    rintro e w1 ⟨rfl, rfl⟩
    go_wp2
    go_ret2
    exact ⟨rfl, Below.refl _ _⟩
  · obtain rfl : r = (0, false) := by
      rcases hr with ⟨b, _⟩ | ⟨_, e⟩
      · have := b.i0; have := b.i1; omega
      · exact e
    obtain ⟨g0, g1, g2, g3⟩ := h
    clear hr
    rcases h2 with h2 | ⟨h2, h3⟩
    · go_enter Tryd.func27, Tryd.ntmps27
      go_wp2_with fail
      refine (there_yes p c g0 g1 g2 g3 _).mono ?_
      rintro e w1 ⟨rfl, rfl⟩
      go_wp2
      go_ret2
      exact ⟨rfl, Below.refl _ _⟩
    · go_enter Tryd.func27, Tryd.ntmps27
      go_wp2_with fail
      refine (there_yes p c g0 g1 g2 g3 _).mono ?_
      rintro e w1 ⟨rfl, rfl⟩
      go_wp2_with fail
      refine (slots_any c _ hT).mono ?_
      rintro e w1 ⟨rfl, hb1⟩
      go_wp2
      go_ret2
      exact ⟨rfl, hb1⟩

set_option maxHeartbeats 400000 in
theorem rbegin_any (p c i : Int) (r : Int × Bool) (hr : BegV p c i r) (w : World) : Calls Tryd.prog 30 #[.int .i64 p, .int .i64 c, .int .i64 i] w fun e w' => e = .returned (.tuple #[.int .i64 r.1, .bool r.2]) ∧ Below w.heap.size w w' := by
  rcases begins_or p c i with h | h | ⟨h, h2⟩
  · obtain rfl : r = (p * 8192 + i * szI c, true) := by
      rcases hr with ⟨_, e⟩ | ⟨n, _⟩
      · exact e
      · exact absurd h n
    obtain ⟨b1, b2⟩ := mul_bd c i h.i0 h.i1
    have g0 := h.p0; have g1 := h.p1; have g2 := h.c0; have g3 := h.c1; have g4 := h.i0; have g5 := h.i1
    clear hr h
    go_enter Tryd.func30, Tryd.ntmps30
    go_wp2_with fail
    refine (rslots_any c _).mono ?_
    rintro e w1 ⟨rfl, hb1⟩
    go_wp2_with fail
    refine (rsize_any c _).mono ?_
    rintro e w2 ⟨rfl, hb2⟩
    go_wp2
    go_ret2
    exact ⟨rfl, below_trans hb1 hb2⟩
  · obtain rfl : r = (0, false) := by
      rcases hr with ⟨b, _⟩ | ⟨_, e⟩
      · have := b.p0; have := b.p1; have := b.c0; have := b.c1; omega
      · exact e
    clear hr
    by_cases g0 : p < 0
    · clear h
      go_enter Tryd.func30, Tryd.ntmps30
      go_wp2
      go_ret2
      exact ⟨rfl, Below.refl _ _⟩
    by_cases g1 : 4096 ≤ p
    · clear h
      go_enter Tryd.func30, Tryd.ntmps30
      go_wp2
      go_ret2
      exact ⟨rfl, Below.refl _ _⟩
    by_cases g2 : c < 0
    · clear h
      go_enter Tryd.func30, Tryd.ntmps30
      go_wp2
      go_ret2
      exact ⟨rfl, Below.refl _ _⟩
    · have g3 : 14 < c := by omega
      clear h
      go_enter Tryd.func30, Tryd.ntmps30
      go_wp2
      go_ret2
      exact ⟨rfl, Below.refl _ _⟩
  · obtain rfl : r = (0, false) := by
      rcases hr with ⟨b, _⟩ | ⟨_, e⟩
      · have := b.i0; have := b.i1; omega
      · exact e
    obtain ⟨g0, g1, g2, g3⟩ := h
    clear hr
    rcases h2 with h2 | ⟨h2, h3⟩
    · go_enter Tryd.func30, Tryd.ntmps30
      go_wp2
      go_ret2
      exact ⟨rfl, Below.refl _ _⟩
    · go_enter Tryd.func30, Tryd.ntmps30
      go_wp2_with fail
      refine (rslots_any c _).mono ?_
      rintro e w1 ⟨rfl, hb1⟩
      go_wp2
      go_ret2
      exact ⟨rfl, hb1⟩

set_option maxHeartbeats 400000 in
theorem rof5_any (p c a : Int) (r : Int × Bool) (hr : OfV p c a r) (w : World) : Calls Tryd.prog 31 #[.int .i64 p, .int .i64 c, .int .i64 a] w fun e w' => e = .returned (.tuple #[.int .i64 r.1, .bool r.2]) ∧ Below w.heap.size w w' := by
  have hsl := slI_bd c
  go_enter Tryd.func31, Tryd.ntmps31
  go_wp2
  go_loopw [8] (fun i wr => ∃ k : Nat, i = .int .i64 k ∧ (k : Int) ≤ slI c ∧ (∀ j, j < k → ¬ At p c a j) ∧ Below w.heap.size w wr) (fun i _ => (slI c).toNat - (intOf i).toNat)
  case atStart => exact ⟨0, rfl, by omega, fun j hj => by omega, Below.refl _ _⟩
  case round =>
    obtain ⟨k, rfl, hk, hno, hb⟩ := hrel
    have Hno := Lib.hid hno
    clear hno
    by_cases hlt : (k : Int) < slI c
    · by_cases hat : At p c a k
      · obtain rfl : r = ((k : Int), true) := by
          rcases hr with ⟨j, hj, e⟩ | ⟨n, _⟩
          · rw [e, at_one hj hat]
          · exact absurd hat (n k)
        obtain ⟨hbg, hba⟩ := hat
        have Hb := Lib.hid hba
        clear hba hr
        go_wp2_with fail
        refine (rslots_any c _).mono ?_
        rintro e w1 ⟨rfl, hb1⟩
        go_wp2_with fail
        refine (rbegin_any p c k _ (.inl ⟨hbg, rfl⟩) _).mono ?_
        rw [Hb.out]
        rintro e w2 ⟨rfl, hb2⟩
        go_wp2
        go_ret2
        exact ⟨rfl, below_trans (below_trans hb hb1) hb2⟩
      · obtain ⟨⟨a1, ok1⟩, hbv⟩ := beg_ex p c k
        have hne : ok1 = true → (a1 == a) = false := by
          intro hok
          rcases hbv with ⟨hbg, e⟩ | ⟨_, e⟩
          · simp only [Prod.mk.injEq] at e
            have : ¬ a1 = a := fun h => hat ⟨hbg, by omega⟩
            simpa using this
          · simp only [Prod.mk.injEq] at e
            rw [e.2] at hok; cases hok
        have Hat := Lib.hid hat
        have Hbv := Lib.hid hbv
        clear hat hbv hr
        cases ok1
        · clear hne
          go_wp2_with fail
          refine (rslots_any c _).mono ?_
          rintro e w1 ⟨rfl, hb1⟩
          go_wp2_with fail
          refine (rbegin_any p c k _ Hbv.out _).mono ?_
          rintro e w2 ⟨rfl, hb2⟩
          go_wp2
          go_roundw
          case rel =>
            refine ⟨k + 1, by go_num, by omega, fun j hj => ?_, below_trans (below_trans hb hb1) hb2⟩
            by_cases e : j = k
            · subst e; exact Hat.out
            · exact Hno.out j (by omega)
          case measure => simp [intOf]; omega
        · have hne := hne rfl
          go_wp2_with fail
          refine (rslots_any c _).mono ?_
          rintro e w1 ⟨rfl, hb1⟩
          go_wp2_with fail
          refine (rbegin_any p c k _ Hbv.out _).mono ?_
          rintro e w2 ⟨rfl, hb2⟩
          go_wp2
          go_roundw
          case rel =>
            refine ⟨k + 1, by go_num, by omega, fun j hj => ?_, below_trans (below_trans hb hb1) hb2⟩
            by_cases e : j = k
            · subst e; exact Hat.out
            · exact Hno.out j (by omega)
          case measure => simp [intOf]; omega
    · obtain rfl : r = (0, false) := by
        rcases hr with ⟨j, hj, e⟩ | ⟨_, e⟩
        · have := hj.1.i1
          exact absurd hj (Hno.out j (by omega))
        · exact e
      clear hr
      go_wp2_with fail
      refine (rslots_any c _).mono ?_
      rintro e w1 ⟨rfl, hb1⟩
      go_wp2
      go_ret2
      exact ⟨rfl, below_trans hb hb1⟩
end Go.Proofs.YtomheapokfphiaaDoor
