/-
  The laws of layer 5, walked: SlotBack, SlotApart.
-/
import Derived.Test.YtomheapokfphiaaDoorSlotLaws
import Derived.Deep.RegionWith
import Derived.Deep.DeepCutAuto
namespace Go.Proofs.YtomheapokfphiaaDoor
open Go.RowKit

theorem mod_bd (x c : Int) (h0 : 0 ≤ c) (h1 : c ≤ 14) : 0 ≤ x % slI c ∧ x % slI c < slI c := by
  have := slI_pos c h0 h1
  exact ⟨Int.emod_nonneg _ (by omega), Int.emod_lt_of_pos _ (by omega)⟩
theorem byI_bd (c : Int) (h0 : 0 ≤ c) (h1 : c ≤ 14) : 128 ≤ byI c 1 ∧ byI c 1 ≤ 12288 := by
  by_cases e : c = 14
  · subst e; decide
  · have := szI_in c h0 (by omega); have := szI_bd c
    simp only [byI, if_neg e]; omega
theorem not_at_in (p c i e : Int) (hc : 0 ≤ c ∧ c ≤ 14) (hi : 0 ≤ i ∧ i < slI c) (h1 : 0 < e) (h2 : e < byI c 1) (k : Nat) : ¬ At p c (p * 8192 + i * szI c + e) k := fun h => by
  by_cases e14 : c = 14
  · subst e14
    have h3 := (at_large _ _ k).1 h
    have hz : szI 14 = 0 := by decide
    rw [hz] at h3
    omega
  · have h3 := (at_imp p c _ k (by omega) h).2.1
    have hb : byI c 1 = szI c := by simp only [byI, if_neg e14]
    rw [hb] at h2
    have e1 : p * 8192 + i * szI c + e - p * 8192 = e + i * szI c := by omega
    rw [e1, Int.add_mul_emod_self_right, Int.emod_eq_of_lt (by omega) h2] at h3
    omega

set_option maxHeartbeats 1000000 in
theorem slotBack_any (x y z u : Int) (x0 : 0 ≤ x) (x1 : x ≤ 65535) (y0 : 0 ≤ y) (y1 : y ≤ 255) (z0 : 0 ≤ z) (z1 : z ≤ 255) (u0 : 0 ≤ u) (u1 : u ≤ 65535) (w : World) (hT : Tab w) :
    Calls Tryd.prog 8 #[.int .u16 x, .int .u8 y, .int .u8 z, .int .u16 u] w fun e w' => e = .returned (.bool true) ∧ Below w.heap.size w w' := by
  obtain ⟨p, ep⟩ : ∃ a, x % 4096 = a := ⟨_, rfl⟩
  obtain ⟨c, ec⟩ : ∃ a, y % 15 = a := ⟨_, rfl⟩
  obtain ⟨i, ei⟩ : ∃ a, z % slI c = a := ⟨_, rfl⟩
  have p0 : 0 ≤ p ∧ p < 4096 := by omega
  have c0 : 0 ≤ c ∧ c ≤ 14 := by omega
  have i0 : 0 ≤ i ∧ i < slI c := by rw [← ei]; exact mod_bd z c c0.1 c0.2
  have hs := slI_pos c c0.1 c0.2
  have hs2 := (slI_bd c).2
  have hm := mul_bd c i i0.1 i0.2
  have hb := byI_bd c c0.1 c0.2
  have hbeg : Begins p c i := ⟨p0.1, p0.2, c0.1, c0.2, i0.1, i0.2⟩
  have hat : At p c (p * 8192 + i * szI c) i.toNat := by
    have e : ((i.toNat : Nat) : Int) = i := Int.toNat_of_nonneg i0.1
    exact ⟨by rw [e]; exact hbeg, by rw [e]⟩
  have hof : OfV p c (p * 8192 + i * szI c) (i, true) := .inl ⟨i.toNat, hat, by rw [Int.toNat_of_nonneg i0.1]⟩
  have hno := not_at_in p c i (1 + u % (byI c 1 - 1)) c0 i0
  have hmod : 0 ≤ u % (byI c 1 - 1) ∧ u % (byI c 1 - 1) < byI c 1 - 1 := ⟨Int.emod_nonneg _ (by omega), Int.emod_lt_of_pos _ (by omega)⟩
  have hno := hno (by omega) (by omega)
  obtain ⟨a, ea⟩ : ∃ a, p * 8192 + i * szI c = a := ⟨_, rfl⟩
  obtain ⟨n, en⟩ : ∃ n, byI c 1 = n := ⟨_, rfl⟩
  have hbegv : BegV p c i (a, true) := .inl ⟨hbeg, by rw [ea]⟩
  rw [ea] at hof hno
  rw [en] at hb hno hmod
  have ha : 0 ≤ a ∧ a ≤ 100000000 := by omega
  have hof2 : OfV p c (a + 1 + u % (n - 1)) (0, false) := .inr ⟨by rwa [Int.add_assoc], rfl⟩
  have ha1 : a + 1 + u % (n - 1) ≤ 9223372036854775807 := by omega
  obtain ⟨p0, p1⟩ := p0; obtain ⟨c0, c1⟩ := c0; obtain ⟨i0, i1⟩ := i0; obtain ⟨ha0, ha2⟩ := ha; obtain ⟨hb0, hb1⟩ := hb; obtain ⟨hm0, hm1⟩ := hmod
  have Hof := Lib.hid hof; have Hof2 := Lib.hid hof2; have Hbegv := Lib.hid hbegv; have En := Lib.hid en
  have Ha1 := Lib.hid ha1
  clear hof hof2 hbegv en hno hat hbeg hm ea ha1
  go_enter Tryd.func8, Tryd.ntmps8
  go_wp2_with fail
  rw [ec]
  refine (rslots_any c _).mono ?_
  rintro e w1 ⟨rfl, hb1⟩
  have hT1 := hT.below hb1
  go_wp2_with fail
  refine (begin_any p c i _ Hbegv.out _ hT1).mono ?_
  rintro e w2 ⟨rfl, hb2⟩
  have hT2 := hT1.below hb2
  go_wp2_with fail
  refine (of5_any p c a _ Hof.out (by omega) _ hT2).mono ?_
  rintro e w3 ⟨rfl, hb3⟩
  have hT3 := hT2.below hb3
  go_wp2_with fail
  refine (bytes_any c 1 _ hT3).mono ?_
  rw [En.out]
  rintro e w4 ⟨rfl, rfl⟩
  go_wp2_with fail
  refine (of5_any p c _ _ Hof2.out Ha1.out _ hT3).mono ?_
  rintro e w5 ⟨rfl, hb5⟩
  have hT5 := hT3.below hb5
  go_wp2_with fail
  refine (awake5 _ hT5).mono ?_
  rintro e w6 ⟨rfl, hb6⟩
  go_wp2
  go_ret
  exact ⟨rfl, below_trans (below_trans (below_trans (below_trans hb1 hb2) hb3) hb5) hb6⟩

theorem below_undrew {w w' : World} (h : Below w.drew.heap.size w.drew w') : Below w.heap.size w w' := ⟨h.os, h.tape, h.output, h.size, h.block⟩

theorem apart_slots (p c i j : Int) (hp : 0 ≤ p ∧ p < 4096) (hc : 0 ≤ c ∧ c < 14) (hi : 0 ≤ i ∧ i < slI c) (hj : 0 ≤ j ∧ j < slI c) :
    apB (p * 8192 + i * szI c) (szI c) (p * 8192 + j * szI c) (szI c) = !decide (i = j) ∧ (p * 8192 + i * szI c < p * 8192 + j * szI c ↔ i < j) := by
  have hz := szI_in c hc.1 hc.2
  have hz2 := (szI_bd c).2
  have mi := mul_bd c i hi.1 hi.2
  have mj := mul_bd c j hj.1 hj.2
  have key : ∀ a b : Int, a < b → a * szI c + szI c ≤ b * szI c := fun a b h => by
    have : (a + 1) * szI c ≤ b * szI c := Int.mul_le_mul_of_nonneg_right (by omega) (by omega)
    rwa [Int.add_mul, Int.one_mul] at this
  have kij := key i j
  have kji := key j i
  constructor
  · unfold apB ApP
    by_cases e : i = j
    · subst e
      rw [decide_eq_true rfl]
      exact decide_eq_false (by omega)
    · rw [decide_eq_false e]
      exact decide_eq_true (by omega)
  · by_cases h : i < j
    · have := kij h; omega
    · by_cases e : i = j
      · subst e; omega
      · have := kji (by omega); omega

set_option maxRecDepth 100000 in
set_option maxHeartbeats 2000000 in
theorem slotApart_any (x y z u : Int) (x0 : 0 ≤ x) (x1 : x ≤ 65535) (y0 : 0 ≤ y) (y1 : y ≤ 255) (z0 : 0 ≤ z) (z1 : z ≤ 255) (u0 : 0 ≤ u) (u1 : u ≤ 255) (w : World) (hT : Tab w) :
    Calls Tryd.prog 10 #[.int .u16 x, .int .u8 y, .int .u8 z, .int .u8 u] w fun e w' => e = .returned (.bool true) ∧ Below w.heap.size w w' := by
  obtain ⟨p, ep⟩ : ∃ a, x % 4096 = a := ⟨_, rfl⟩
  obtain ⟨c, ec⟩ : ∃ a, y % 14 = a := ⟨_, rfl⟩
  obtain ⟨i, ei⟩ : ∃ a, z % slI c = a := ⟨_, rfl⟩
  obtain ⟨j, ej⟩ : ∃ a, u % slI c = a := ⟨_, rfl⟩
  have p0 : 0 ≤ p ∧ p < 4096 := by omega
  have c0 : 0 ≤ c ∧ c < 14 := by omega
  have i0 : 0 ≤ i ∧ i < slI c := by rw [← ei]; exact mod_bd z c c0.1 (by omega)
  have j0 : 0 ≤ j ∧ j < slI c := by rw [← ej]; exact mod_bd u c c0.1 (by omega)
  have hs := slI_pos c c0.1 (by omega)
  have hs2 := (slI_bd c).2
  have hz := szI_in c c0.1 c0.2
  have hz2 := (szI_bd c).2
  have mi := mul_bd c i i0.1 i0.2
  have mj := mul_bd c j j0.1 j0.2
  have mi1 : i * szI c + szI c ≤ pgI c * 8192 := by
    have : (i + 1) * szI c ≤ slI c * szI c := Int.mul_le_mul_of_nonneg_right (by omega) (by omega)
    rw [Int.add_mul, Int.one_mul] at this
    omega
  have hpg := (pgI_bd c).2
  have hap := apart_slots p c i j p0 c0 i0 j0
  have hbi : BegV p c i (p * 8192 + i * szI c, true) := .inl ⟨⟨p0.1, p0.2, c0.1, by omega, i0.1, i0.2⟩, rfl⟩
  have hbj : BegV p c j (p * 8192 + j * szI c, true) := .inl ⟨⟨p0.1, p0.2, c0.1, by omega, j0.1, j0.2⟩, rfl⟩
  have hby : byI c (pgI c) = szI c := by simp only [byI]; rw [if_neg (by omega)]
  obtain ⟨a, ea⟩ : ∃ a, p * 8192 + i * szI c = a := ⟨_, rfl⟩
  obtain ⟨b, eb⟩ : ∃ a, p * 8192 + j * szI c = a := ⟨_, rfl⟩
  obtain ⟨n, en⟩ : ∃ a, szI c = a := ⟨_, rfl⟩
  obtain ⟨g, eg⟩ : ∃ a, pgI c = a := ⟨_, rfl⟩
  rw [ea] at hbi
  rw [eb] at hbj
  rw [en, eg] at hby
  rw [ea, eb, en] at hap
  have f1 : p * 8192 ≤ a := by omega
  have f2 : a + n ≤ (p + g) * 8192 := by omega
  have f3 : 0 ≤ a ∧ a ≤ 100000000 := by omega
  have f4 : 0 ≤ b ∧ b ≤ 100000000 := by omega
  have f5 : 128 ≤ n ∧ n ≤ 12288 := by omega
  have f6 : 1 ≤ g ∧ g ≤ 3 := by omega
  have Hbi := Lib.hid hbi; have Hbj := Lib.hid hbj; have Hby := Lib.hid hby; have Hap := Lib.hid hap; have Eg := Lib.hid eg
  obtain ⟨p0, p1⟩ := p0; obtain ⟨c0, c1⟩ := c0; obtain ⟨i0, i1⟩ := i0; obtain ⟨j0, j1⟩ := j0; obtain ⟨f30, f31⟩ := f3; obtain ⟨f40, f41⟩ := f4; obtain ⟨f50, f51⟩ := f5; obtain ⟨f60, f61⟩ := f6
  clear hbi hbj hby hap eg ea eb en mi1 mi mj hz hz2 hpg
  go_enter Tryd.func10, Tryd.ntmps10
  go_upto_region 2 with (fail)
  rw [ep, ec]
  go_cut [11, 12] (fun s11 s12 wx => s11 = .int .i64 i ∧ s12 = .int .i64 j ∧ Below w.heap.size w wx)
  case first =>
    go_region_with (go_at_call 24; refine (rslots_any c _).mono ?_; rintro e w1 ⟨rfl, hb1⟩)
    all_goals
      go_wp2_with fail
      go_meet
      exact ⟨by first | rfl | rw [ei] | rw [Int.tmod_eq_emod_of_nonneg z0, ei], by first | rfl | rw [ej] | rw [Int.tmod_eq_emod_of_nonneg u0, ej], below_trans (below_undrew (by assumption)) hb1⟩
  case rest =>
    clear ep ec ei ej
    obtain ⟨rfl, rfl, hb0⟩ := hcut
    have hT0 := hT.below hb0
    go_wp2_with fail
    refine (begin_any p c i _ Hbi.out _ hT0).mono ?_
    rintro e w1 ⟨rfl, hb1⟩
    have hT1 := hT0.below hb1
    go_wp2_with fail
    refine (begin_any p c j _ Hbj.out _ hT1).mono ?_
    rintro e w2 ⟨rfl, hb2⟩
    have hT2 := hT1.below hb2
    go_wp2_with fail
    refine (rpages_any c _).mono ?_
    rw [Eg.out]
    rintro e w3 ⟨rfl, hb3⟩
    have hT3 := hT2.below hb3
    go_wp2_with fail
    refine (bytes_any c g _ hT3).mono ?_
    rw [Hby.out]
    rintro e w3' ⟨rfl, rfl⟩
    go_wp2_with fail
    refine (rpages_any c _).mono ?_
    rw [Eg.out]
    rintro e w4 ⟨rfl, hb4⟩
    have hT4 := hT3.below hb4
    go_wp2_with fail
    refine (apart_any a n b n _).mono ?_
    rw [Hap.out.1]
    rintro e w4' ⟨rfl, rfl⟩
    by_cases hij : i = j
    · have hd : decide (i = j) = true := decide_eq_true hij
      have hn : (i != j) = false := by simpa using hij
      have hab : ¬ a < b := by have := Hap.out.2; omega
      have hlt : ¬ i < j := by omega
      have hb5 : decide (a < b) = false := decide_eq_false hab
      have hb6 : decide (i < j) = false := decide_eq_false hlt
      rw [hd]
      clear hij hd
      go_wp2_with fail
      refine (awake5 _ hT4).mono ?_
      rintro e w5 ⟨rfl, hb5⟩
      go_wp2
      go_ret
      exact ⟨rfl, below_trans (below_trans (below_trans (below_trans (below_trans hb0 hb1) hb2) hb3) hb4) hb5⟩
    · have hd : decide (i = j) = false := decide_eq_false hij
      have hn : (i != j) = true := by simpa using hij
      rw [hd]
      clear hd
      by_cases hlt : i < j
      · have hab : a < b := Hap.out.2.2 hlt
        clear hij
        go_wp2_with fail
        refine (awake5 _ hT4).mono ?_
        rintro e w5 ⟨rfl, hb5⟩
        go_wp2
        go_ret
        exact ⟨rfl, below_trans (below_trans (below_trans (below_trans (below_trans hb0 hb1) hb2) hb3) hb4) hb5⟩
      · have hab : ¬ a < b := fun h => hlt (Hap.out.2.1 h)
        have hb5 : decide (a < b) = false := decide_eq_false hab
        have hb6 : decide (i < j) = false := decide_eq_false hlt
        clear hij
        go_wp2_with fail
        refine (awake5 _ hT4).mono ?_
        rintro e w5 ⟨rfl, hb5⟩
        go_wp2
        go_ret
        exact ⟨rfl, below_trans (below_trans (below_trans (below_trans (below_trans hb0 hb1) hb2) hb3) hb4) hb5⟩
end Go.Proofs.YtomheapokfphiaaDoor
