/-
  The contract of the document's accepts.
-/
import Derived.Test.YtomheapokfphiaaDoorRaw29Cycle
namespace Go.Proofs.YtomheapokfphiaaDoor
open Go Go.RowKit Go.Shelf

theorem apB_comm (a n t m : Int) : apB a n t m = apB t m a n := by
  unfold apB
  congr 1
  unfold ApP
  apply propext
  constructor
  · rintro ⟨⟨h1, h2, h3, h4⟩, h⟩
    exact ⟨⟨h3, h4, h1, h2⟩, by omega⟩
  · rintro ⟨⟨h1, h2, h3, h4⟩, h⟩
    exact ⟨⟨h3, h4, h1, h2⟩, by omega⟩
theorem allocM_ok {pages : Int} {s : LiveP} {o : OpP} (h : noneOp pages o = false) (ha : ∀ (k : Nat) (q : Int × Int), s[k]? = some q → apB o.at_ (bytesOf o.size) q.1 q.2 = true) : allocM pages s o = some (s ++ [(o.at_, bytesOf o.size)]) := by
  unfold allocM
  rw [h, if_neg (by simp), if_pos]
  refine List.all_eq_true.2 fun q hq => ?_
  obtain ⟨k, hk⟩ := List.getElem?_of_mem hq
  exact ha k q hk
theorem allocM_bad' {pages : Int} {s : LiveP} {o : OpP} {k : Nat} {q : Int × Int} (hk : s[k]? = some q) (h : apB o.at_ (bytesOf o.size) q.1 q.2 = false) : allocM pages s o = none := by
  unfold allocM
  split
  · rfl
  · rw [if_neg]
    intro ha
    have := List.all_eq_true.1 ha q (List.mem_of_getElem? hk)
    rw [h] at this
    cases this
set_option maxRecDepth 6000 in
set_option maxHeartbeats 8000000 in
theorem accepts_any (pages : Int) (hp0 : 1 ≤ pages) (hp1 : pages ≤ 4096) (s : LiveP) (hs : s.length ≤ 400) (o : OpP) (ho : o.fits) (_ : 0 ≤ 0) (sv : Value) (ld : Option Addr) (lc : Nat) (w : World) (h : LivesAt w sv s) (hl : IntsAt w (.slice ld o.L.length lc) o.L) :
    Calls Tryd.prog 58 #[.int .i64 pages, sv, opVal o (.slice ld o.L.length lc)] w fun e w' => AccDone w (doesM pages s o) e w' := by
  have HS := Lib.hid h
  have HL := Lib.hid hl
  obtain ⟨sd, scap, rfl⟩ := lives_slice h
  have hsz2 := ho.2.1.2
  obtain ⟨hat0, hat1⟩ := ho.2.2.1
  obtain ⟨kd, sz, at_, cd, L, b, e⟩ := o
  unfold opVal
  simp only [] at *
  clear h hl ho
  obtain ⟨sn, esn⟩ : ∃ sn, s.length = sn := ⟨_, rfl⟩
  have Esn := Lib.hid esn
  obtain ⟨ln, eln⟩ : ∃ ln, L.length = ln := ⟨_, rfl⟩
  have Eln := Lib.hid eln
  rw [esn] at HS hs ⊢
  rw [eln] at HL ⊢
  clear esn eln
  obtain ⟨r, er⟩ : ∃ r, doesM pages s ⟨kd, sz, at_, cd, L, b, e⟩ = r := ⟨_, rfl⟩
  have Er := Lib.hid er
  rw [er]
  clear er
  have HB0 := Lib.hid (new_below (w := w) (.cells #[.int .i64 kd, .int .i64 sz, .int .i64 at_, .int .i64 cd, .slice ld ln lc, .int .i64 b, .int .i64 e] 50))
  have HG0 := Lib.hid (World.alloc_heap_new w (.cells #[.int .i64 kd, .int .i64 sz, .int .i64 at_, .int .i64 cd, .slice ld ln lc, .int .i64 b, .int .i64 e] 50))
  by_cases k1 : kd = 1
  · subst k1
    by_cases c3 : cd = 3
    · subst c3
      obtain rfl : r = some s := Er.out.symm.trans (by unfold doesM; simp)
      go_enter Tryd.func58, Tryd.ntmps58
      go_wp2
      go_ret2
      exact ⟨⟨_, rfl, HS.out.kept (CellsKept.of HB0.out)⟩, HB0.out⟩
    · have c3' : (cd == 3) = false := by simpa using c3
      by_cases c0 : cd = 0
      · subst c0
        have Er2 := Lib.hid (show r = allocM pages s ⟨1, sz, at_, 0, L, b, e⟩ from Er.out.symm.trans (by unfold doesM; simp))
        obtain ⟨⟨c, p, ok⟩, hcls⟩ := cls_ex sz
        have H20 := Lib.hid (fun W => rof_any sz (c, p, ok) hcls hsz2 W)
        have H32 := Lib.hid (fun W => rbytes_any c p W)
        have hby := bytesOf_cls hcls
        have hbd := bytesOf_bd sz
        simp only [] at hby H20
        clear hcls
        obtain ⟨n, en⟩ : ∃ n, byI c p = n := ⟨_, rfl⟩
        rw [en] at hby H32
        clear en
        go_enter Tryd.func58, Tryd.ntmps58
        go_wp2_with fail
        refine (H20.out _).mono ?_
        rintro e w1 ⟨rfl, hb1⟩
        have HB1 := Lib.hid (HB0.out.trans (hb1.mono (by simp)))
        have HG1 := Lib.hid ((hb1.block w.heap.size (by simp)).trans HG0.out)
        clear hb1
        go_wp2_with fail
        refine (H32.out _).mono ?_
        rintro e w2 ⟨rfl, hb2⟩
        have HB2 := Lib.hid (below_more HB1.out hb2)
        have HG2 := Lib.hid ((hb2.block w.heap.size (Array.getElem?_eq_some_iff.1 HG1.out).1).trans HG1.out)
        have g2 := blk_cell HG2.out 2
        clear hb2
        rcases hby with ⟨rfl, rfl, hs0⟩ | ⟨rfl, hz⟩
        · have w1' : IntKind.i64.wrap (pages * 8192) = pages * 8192 := by rw [IntKind.wrap_i64]; omega
          have w2' : IntKind.i64.wrap (pages * 8192 - bytesOf sz) = pages * 8192 - bytesOf sz := by rw [IntKind.wrap_i64]; omega
          have hnone : ∀ (_ : bytesOf sz < 1 ∨ at_ < 0 ∨ pages * 8192 - bytesOf sz < at_), r = none := fun hx => Er2.out.trans (allocM_bad (by unfold noneOp; simp; omega))
          have Hnone := Lib.hid hnone
          clear hnone
          by_cases q1 : bytesOf sz < 1
          · have qq1 : decide (bytesOf sz < 1) = true := decide_eq_true q1
            obtain rfl : r = none := Hnone.out (.inl q1)
            go_wp2
            go_ret2
            exact ⟨⟨_, rfl, livesAt_nil _⟩, HB2.out⟩
          · have qq1 : decide (bytesOf sz < 1) = false := decide_eq_false q1
            by_cases q2 : at_ < 0
            · have qq2 : decide (at_ < 0) = true := decide_eq_true q2
              obtain rfl : r = none := Hnone.out (.inr (.inl q2))
              go_wp2
              go_ret2
              exact ⟨⟨_, rfl, livesAt_nil _⟩, HB2.out⟩
            · have qq2 : decide (at_ < 0) = false := decide_eq_false q2
              by_cases q3 : pages * 8192 - bytesOf sz < at_
              · have qq3 : decide (pages * 8192 - bytesOf sz < at_) = true := decide_eq_true q3
                obtain rfl : r = none := Hnone.out (.inr (.inr q3))
                go_wp2
                go_ret2
                exact ⟨⟨_, rfl, livesAt_nil _⟩, HB2.out⟩
              · have qq3 : decide (pages * 8192 - bytesOf sz < at_) = false := decide_eq_false q3
                have Hno := Lib.hid (show noneOp pages ⟨1, sz, at_, 0, L, b, e⟩ = false by unfold noneOp; simp; omega)
                have Hbad := Lib.hid (fun (k : Nat) (q : Int × Int) (hk : s[k]? = some q) (h : apB at_ (bytesOf sz) q.1 q.2 = false) => (show r = none from Er2.out.trans (allocM_bad' hk h)))
                have Hok := Lib.hid (fun (ha : ∀ (k : Nat) (q : Int × Int), s[k]? = some q → apB at_ (bytesOf sz) q.1 q.2 = true) => (show r = some (s ++ [(at_, bytesOf sz)]) from Er2.out.trans (allocM_ok Hno.out ha)))
                generalize bytesOf sz = n at *
                obtain ⟨W2, hW2⟩ : ∃ W2, W2 = w2 := ⟨_, rfl⟩
                subst hW2
                go_wp2_with fail
                go_loopw [12] (fun i wr => ∃ k : Nat, k ≤ sn ∧ i = .int .i64 (k : Nat) ∧ (∀ (j : Nat) (q : Int × Int), j < k → s[j]? = some q → apB at_ n q.1 q.2 = true) ∧ Below W2.heap.size W2 wr) (fun i _ => sn - (intOf i).toNat)
                case atStart => exact ⟨0, by omega, rfl, (fun j q hj => absurd hj (Nat.not_lt_zero j)), Below.refl _ _⟩
                case round =>
                  obtain ⟨k, hk, rfl, hall, hbw⟩ := hrel
                  obtain ⟨Wo, hWo⟩ : ∃ Wo, Wo = wr := ⟨_, rfl⟩
                  subst hWo
                  have HA := Lib.hid hall
                  have HBw := Lib.hid (below_more HB2.out hbw)
                  have Hbo := Lib.hid hbw
                  have hG := (hbw.block w.heap.size (Array.getElem?_eq_some_iff.1 HG2.out).1).trans HG2.out
                  have gg := blk_cell hG 2
                  clear hall hbw
                  by_cases hlt : k < sn
                  · obtain ⟨q, hq⟩ : ∃ q, s[k]? = some q := ⟨_, List.getElem?_eq_getElem (by rw [Esn.out]; exact hlt)⟩
                    obtain ⟨gl, cl, hvl, hgl, z0, z1⟩ := livesAt_cell (HS.out.kept (CellsKept.of HBw.out)) hq
                    obtain ⟨rfl, rfl⟩ : sd = some ⟨gl, 0, none⟩ ∧ scap = cl := by rw [Esn.out] at hvl; injection hvl with h1 h2 h3; exact ⟨h1, h3⟩
                    have kI : (k : Int) < sn := by omega
                    have Hq := Lib.hid hq
                    obtain ⟨x, y⟩ := q
                    simp only [] at z0 z1
                    have hE := fun (W : World) => rapart_any x y at_ n W
                    obtain ⟨eb, eeb⟩ : ∃ eb, apB x y at_ n = eb := ⟨_, rfl⟩
                    rw [eeb] at hE
                    have HE := Lib.hid hE
                    have Eeb := Lib.hid ((apB_comm at_ n x y).trans eeb)
                    clear hE eeb hvl hq
                    go_upto_region 14 with (fail)
                    go_cut [92] (fun s92 wx => s92 = .bool (!eb) ∧ Below Wo.heap.size Wo wx)
                    case first =>
                      go_region_with (go_at_call 33; refine (HE.out _).mono ?_; rintro e w1 ⟨rfl, hb1⟩)
                      all_goals
                        go_wp2
                        go_meet
                        exact ⟨rfl, below_undrew' hb1⟩
                    case rest =>
                      obtain ⟨rfl, hbc⟩ := hcut
                      have HBc := Lib.hid (below_more HBw.out hbc)
                      have Hbc := Lib.hid (below_more Hbo.out hbc)
                      clear hbc
                      cases eb with
                      | false =>
                        obtain rfl : r = none := Hbad.out k _ Hq.out Eeb.out
                        go_wp2
                        go_ret2
                        exact ⟨⟨_, rfl, livesAt_nil _⟩, HBc.out⟩
                      | true =>
                        go_wp2
                        go_roundw
                        case rel =>
                          refine ⟨k + 1, by omega, by go_num, (fun j q hj hq => ?_), Hbc.out⟩
                          rcases Nat.lt_or_ge j k with h | h
                          · exact HA.out j q h hq
                          · obtain rfl : j = k := by omega
                            rw [Hq.out] at hq
                            obtain rfl := Option.some.inj hq
                            exact Eeb.out
                        case measure => simp [intOf]; omega
                  · obtain rfl : k = sn := by omega
                    obtain rfl : r = some (s ++ [(at_, n)]) := Hok.out (fun j q hq => HA.out j q (by have := (List.getElem?_eq_some_iff.1 hq).1; rw [Esn.out] at this; exact this) hq)
                    have hsv := HS.out.kept (CellsKept.of HBw.out)
                    go_upto_region 16 with (fail)
                    refine ac_region w.heap.size s (.slice sd k scap) at_ n ?text rfl rfl rfl rfl rfl (by rw [Esn.out]; omega) (Array.getElem?_eq_some_iff.1 hG).1 gg hsv ?rest
                    case text =>
                      intro i o ho
                      have hi : i < 11 := (Array.getElem?_eq_some_iff.1 ho).1
                      rcases (show i = 0 ∨ i = 1 ∨ i = 2 ∨ i = 3 ∨ i = 4 ∨ i = 5 ∨ i = 6 ∨ i = 7 ∨ i = 8 ∨ i = 9 ∨ i = 10 by omega) with rfl | rfl | rfl | rfl | rfl | rfl | rfl | rfl | rfl | rfl | rfl
                      all_goals
                        obtain rfl := Option.some.inj ho
                        exact ⟨_, _, _, rfl, rfl, rfl, rfl, rfl, rfl⟩
                    case rest =>
                      intro a w7 ha1 ha2 ha3 hb7 h7 hrow7
                      obtain ⟨u, hu, ea⟩ : ∃ u : Nat → Value, (∀ t, Tm a t = u t) ∧ a = putL [6, 7, 8, 9, 10, 11, 12, 13, 14, 15, 16, 17, 18, 19, 20, 21, 22, 23, 24, 25, 26, 27, 28, 29, 30, 31, 32, 33, 34, 35, 36, 37, 38, 39, 40, 41, 42, 43, 44, 45, 46, 47, 48, 49, 50, 51, 52, 53, 54, 55, 56, 57, 58, 59, 60, 61, 62, 63, 64, 65, 66, 67, 68, 69, 70, 71, 72, 73, 74, 75, 76, 77, 78, 79, 80, 81, 82, 83, 84, 85, 86, 87, 88, 89, 90, 91, 92, 93, 94, 95, 96, 97, 98, 99, 100, 101] u _ := ⟨Tm a, fun _ => rfl, act_eq _ ha1 ha2 fun t ht => ha3 t (by simp at ht; omega)⟩
                      rw [hu 7] at h7
                      rw [hu 6] at hrow7
                      have Hrow7 := Lib.hid (lives_of_owns (s := s ++ [(at_, n)]) (by simp) hrow7)
                      have HB7 := Lib.hid (below_more HBw.out hb7)
                      clear hu ha1 ha2 ha3 hrow7 hb7
                      subst ea
                      simp only [putL, Act.put, List.setIfInBounds_toArray, List.set_cons_succ, List.set_cons_zero]
                      rw [h7]
                      go_wp2
                      go_ret2
                      exact ⟨⟨_, rfl, Hrow7.out⟩, HB7.out⟩
        · obtain rfl : r = none := Er2.out.trans (allocM_bad (by unfold noneOp; simp [hz]))
          go_wp2
          go_ret2
          exact ⟨⟨_, rfl, livesAt_nil _⟩, HB2.out⟩
      · have c0' : (cd != 0) = true := by simpa using c0
        obtain rfl : r = none := Er.out.symm.trans (by unfold doesM; simp [c0, c3])
        go_enter Tryd.func58, Tryd.ntmps58
        go_wp2
        go_ret2
        exact ⟨⟨_, rfl, livesAt_nil _⟩, HB0.out⟩
  · have k1' : (kd == 1) = false := by simpa using k1
    by_cases k2 : kd = 2
    · subst k2
      by_cases c7 : cd = 7
      · subst c7
        obtain rfl : r = some s := Er.out.symm.trans (by unfold doesM; simp)
        go_enter Tryd.func58, Tryd.ntmps58
        go_wp2
        go_ret2
        exact ⟨⟨_, rfl, HS.out.kept (CellsKept.of HB0.out)⟩, HB0.out⟩
      · have c7' : (cd == 7) = false := by simpa using c7
        by_cases c0 : cd = 0
        · subst c0
          obtain rfl : r = cycleM s L := Er.out.symm.trans (by unfold doesM; simp)
          have hcy := accepts_cycle pages s (by rw [Esn.out]; exact hs) sz at_ L b e (.slice sd sn scap) ld lc w HS.out (by rw [Eln.out]; exact HL.out)
          rw [Eln.out] at hcy
          exact hcy
        · have c0' : (cd != 0) = true := by simpa using c0
          obtain rfl : r = none := Er.out.symm.trans (by unfold doesM; simp [c0, c7])
          go_enter Tryd.func58, Tryd.ntmps58
          go_wp2
          go_ret2
          exact ⟨⟨_, rfl, livesAt_nil _⟩, HB0.out⟩
    · have k2' : (kd == 2) = false := by simpa using k2
      obtain rfl : r = none := Er.out.symm.trans (by unfold doesM; simp [k1, k2])
      by_cases c0 : cd = 0
      · subst c0
        go_enter Tryd.func58, Tryd.ntmps58
        go_wp2
        go_ret2
        exact ⟨⟨_, rfl, livesAt_nil _⟩, HB0.out⟩
      · have c0' : (cd != 0) = true := by simpa using c0
        go_enter Tryd.func58, Tryd.ntmps58
        go_wp2
        go_ret2
        exact ⟨⟨_, rfl, livesAt_nil _⟩, HB0.out⟩
end Go.Proofs.YtomheapokfphiaaDoor
