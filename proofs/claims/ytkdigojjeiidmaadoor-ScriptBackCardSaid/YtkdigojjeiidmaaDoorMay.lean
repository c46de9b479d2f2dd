/-
  The contracts of names, some, May.
-/
import Derived.Test.YtkdigojjeiidmaaDoorCall
namespace Go.Proofs.YtkdigojjeiidmaaDoor
open Go Go.RowKit Go.Shelf

/-- Number i may stand there. -/
def okAt (L : List Int) (i : Nat) : Bool := decide (0 ≤ L.getD i 0) && (decide (i = 0) || decide (L.getD (i - 1) 0 < L.getD i 0))
def namesOk (L : List Int) : Bool := (List.range L.length).all (okAt L)
def someM (a : Int) : Bool := decide (1 ≤ a) && decide (a ≤ 4096)
def mayM (o : CallP) : Bool :=
  if o.kind = 4 then (decide (o.a = 0) || decide (o.a = 1)) && (namesOk o.L && decide (o.L.length ≤ 8))
  else if 0 < o.L.length then false
  else if o.kind = 1 then decide (0 ≤ o.a)
  else if o.kind = 2 then decide (o.a = 0)
  else if o.kind = 3 ∨ o.kind = 5 then someM o.a
  else false
theorem namesOk_true {L : List Int} : namesOk L = true ↔ ∀ i, i < L.length → okAt L i = true := by
  unfold namesOk
  rw [List.all_eq_true]
  exact ⟨fun h i hi => h i (List.mem_range.2 hi), fun h i hi => h i (List.mem_range.1 hi)⟩
theorem namesOk_false {L : List Int} {i : Nat} (hi : i < L.length) (h : okAt L i = false) : namesOk L = false := by
  cases hb : namesOk L with
  | false => rfl
  | true => rw [namesOk_true.1 hb i hi] at h; cases h
theorem namesOk_all {L : List Int} (h : ∀ i, i < L.length → okAt L i = true) : namesOk L = true := namesOk_true.2 h

theorem some_any (a : Int) (w : World) : Calls Tryd.prog 29 #[.int .i64 a] w fun e w' => e = .returned (.bool (someM a)) ∧ w = w' := by
  unfold someM
  by_cases h1 : 1 ≤ a
  · have d1 : decide (1 ≤ a) = true := decide_eq_true h1
    by_cases h2 : a ≤ 4096
    · have d2 : decide (a ≤ 4096) = true := decide_eq_true h2
      rw [d1, d2]
      go_enter Tryd.func29, Tryd.ntmps29
      go_wp2
      go_ret
      exact ⟨rfl, rfl⟩
    · have d2 : decide (a ≤ 4096) = false := decide_eq_false h2
      rw [d1, d2]
      go_enter Tryd.func29, Tryd.ntmps29
      go_wp2
      go_ret
      exact ⟨rfl, rfl⟩
  · have d1 : decide (1 ≤ a) = false := decide_eq_false h1
    rw [d1, Bool.false_and]
    go_enter Tryd.func29, Tryd.ntmps29
    go_wp2
    go_ret
    exact ⟨rfl, rfl⟩

set_option maxHeartbeats 1600000 in
theorem names_any (L : List Int) (v : Value) (w : World) (h : IntsAt w v L) (hl : L.length ≤ 9223372036854775807) :
    Calls Tryd.prog 28 #[v] w fun e w' => e = .returned (.bool (namesOk L && decide (L.length ≤ 8))) ∧ w = w' := by
  obtain ⟨ad, cap, rfl⟩ : ∃ ad cap, v = .slice ad L.length cap := by obtain ⟨ad, cap, rfl, _⟩ := h; exact ⟨ad, cap, rfl⟩
  obtain ⟨n, en⟩ : ∃ n, L.length = n := ⟨_, rfl⟩
  obtain ⟨b, eb⟩ : ∃ b, (namesOk L && decide (L.length ≤ 8)) = b := ⟨_, rfl⟩
  have H := Lib.hid h
  have Eb := Lib.hid eb
  have En := Lib.hid en
  rw [eb]
  rw [en] at hl ⊢
  clear h eb en
  go_enter Tryd.func28, Tryd.ntmps28
  go_wp2_with fail
  go_loop [7] (fun i => ∃ k : Nat, k ≤ n ∧ i = .int .i64 k ∧ Hid (∀ j, j < k → okAt L j = true)) (fun i => n - (intOf i).toNat)
  case atStart => exact ⟨0, by omega, rfl, fun j hj => by omega⟩
  case round =>
    obtain ⟨k, hk, rfl, hall⟩ := hrel
    by_cases hlt : k < n
    · have hki : (k : Int) < n := by omega
      obtain ⟨g, c, cap', hv, hg, hc⟩ := intsAt_cell H.out (k := k) (by rw [En.out]; exact hlt)
      obtain rfl : ad = some ⟨g, c, none⟩ := by injection hv
      clear hv
      have Hstep := Lib.hid (fun (e : okAt L k = true) j (hj : j < k + 1) => (if hjk : j = k then (by rw [hjk]; exact e) else hall.out j (by omega) : okAt L j = true))
      have Hbad := Lib.hid (fun (e : okAt L k = false) => (by rw [← Eb.out, namesOk_false (by rw [En.out]; exact hlt) e, Bool.false_and] : b = false))
      by_cases h0 : L.getD k 0 < 0
      · have d0 : decide (L.getD k 0 < 0) = true := decide_eq_true h0
        have hbf := Hbad.out (by unfold okAt; rw [decide_eq_false (by omega), Bool.false_and])
        subst hbf
        clear hall
        generalize L.getD k 0 = x at *
        go_wp2
        go_ret
        exact ⟨rfl, rfl⟩
      · have d0 : decide (L.getD k 0 < 0) = false := decide_eq_false h0
        by_cases hk0 : k = 0
        · subst hk0
          rw [Nat.add_zero] at hc
          have hok : okAt L 0 = true := by unfold okAt; rw [decide_eq_true (by omega)]; rfl
          have HS := Lib.hid (Hstep.out hok)
          clear hok hall
          generalize L.getD 0 0 = x at *
          go_wp2_with fail
          go_round
          case rel => exact ⟨1, by omega, by go_num, HS.out⟩
          case measure => simp [intOf]; omega
        · obtain ⟨g', c', cap'', hv, _, hc'⟩ := intsAt_cell H.out (k := k - 1) (by rw [En.out]; omega)
          obtain ⟨rfl, rfl⟩ : g = g' ∧ c = c' := by injection hv with e; injection e with e; injection e with e1 e2; exact ⟨e1, e2⟩
          clear hv
          obtain ⟨m, rfl⟩ : ∃ m, k = m + 1 := ⟨k - 1, by omega⟩
          have e1 : m + 1 - 1 = m := by omega
          rw [e1] at hc'
          have dk : decide ((0 : Int) < ((m + 1 : Nat) : Int)) = true := decide_eq_true (by omega)
          have hokm : okAt L (m + 1) = (decide (0 ≤ L.getD (m + 1) 0) && decide (L.getD m 0 < L.getD (m + 1) 0)) := by unfold okAt; rw [e1]; simp
          rw [hokm] at Hstep Hbad
          clear hokm hall e1
          generalize L.getD (m + 1) 0 = x at *
          generalize L.getD m 0 = y at *
          by_cases hxy : x ≤ y
          · have d1 : decide (x ≤ y) = true := decide_eq_true hxy
            have hbf := Hbad.out (by rw [decide_eq_false (show ¬ y < x by omega), Bool.and_false])
            subst hbf
            go_wp2
            go_ret
            exact ⟨rfl, rfl⟩
          · have d1 : decide (x ≤ y) = false := decide_eq_false hxy
            have HS := Lib.hid (Hstep.out (by rw [decide_eq_true (show 0 ≤ x by omega), decide_eq_true (show y < x by omega)]; rfl))
            clear Hstep Hbad
            go_wp2_with fail
            go_round
            case rel => exact ⟨m + 1 + 1, by omega, by go_num, HS.out⟩
            case measure => simp [intOf]; omega
    · obtain rfl : k = n := by omega
      have hb : b = decide (k ≤ 8) := by rw [← Eb.out, namesOk_all (fun i hi => hall.out i (by rw [En.out] at hi; exact hi)), En.out, Bool.true_and]
      clear hall
      by_cases h8 : k ≤ 8
      · have d8 : decide (k ≤ 8) = true := decide_eq_true h8
        have d8' : decide ((k : Int) ≤ 8) = true := decide_eq_true (by omega)
        rw [d8] at hb
        subst hb
        go_wp2
        go_ret
        exact ⟨rfl, rfl⟩
      · have d8 : decide (k ≤ 8) = false := decide_eq_false h8
        have d8' : decide ((k : Int) ≤ 8) = false := decide_eq_false (by omega)
        rw [d8] at hb
        subst hb
        go_wp2
        go_ret
        exact ⟨rfl, rfl⟩
set_option maxHeartbeats 1600000 in
theorem may_any (o : CallP) (lv : Value) (w : World) (h : IntsAt w lv o.L) (hl : o.L.length ≤ 9223372036854775807) :
    Calls Tryd.prog 14 #[callV o lv] w fun e w' => e = .returned (.bool (mayM o)) ∧ Below w.heap.size w w' := by
  obtain ⟨ad, cap, rfl⟩ : ∃ ad cap, lv = .slice ad o.L.length cap := by obtain ⟨ad, cap, rfl, _⟩ := h; exact ⟨ad, cap, rfl⟩
  obtain ⟨k, a, L⟩ := o
  simp only [callV] at *
  have H := Lib.hid (names_any L _ _ (h.kept (CellsKept.of (new_below (.cells #[.int .i64 k, .int .i64 a, .slice ad L.length cap] 36)))) hl)
  clear h
  by_cases hk4 : k = 4
  · subst hk4
    have em : mayM ⟨4, a, L⟩ = ((decide (a = 0) || decide (a = 1)) && (namesOk L && decide (L.length ≤ 8))) := by simp [mayM]
    rw [em]
    clear em
    generalize (namesOk L && decide (L.length ≤ 8)) = b at *
    generalize L.length = n at *
    by_cases h0 : a = 0
    · subst h0
      have e : ((decide ((0 : Int) = 0) || decide ((0 : Int) = 1)) && b) = b := by simp
      rw [e]
      go_enter Tryd.func14, Tryd.ntmps14
      go_wp2_with fail
      refine H.out.mono ?_
      rintro e w1 ⟨rfl, rfl⟩
      go_wp2
      go_ret
      exact ⟨rfl, (Below.refl _ _).alloc (Nat.le_refl _) _⟩
    · have t0 : (a == 0) = false := by simpa using h0
      by_cases h1 : a = 1
      · subst h1
        have e : ((decide ((1 : Int) = 0) || decide ((1 : Int) = 1)) && b) = b := by simp
        rw [e]
        go_enter Tryd.func14, Tryd.ntmps14
        go_wp2_with fail
        refine H.out.mono ?_
        rintro e w1 ⟨rfl, rfl⟩
        go_wp2
        go_ret
        exact ⟨rfl, (Below.refl _ _).alloc (Nat.le_refl _) _⟩
      · have t1 : (a == 1) = false := by simpa using h1
        have e : ((decide (a = 0) || decide (a = 1)) && b) = false := by simp [h0, h1]
        rw [e]
        clear h0 h1 e H
        go_enter Tryd.func14, Tryd.ntmps14
        go_wp2
        go_ret
        exact ⟨rfl, (Below.refl _ _).alloc (Nat.le_refl _) _⟩
  · have t4 : (k == 4) = false := by simpa using hk4
    have hm : mayM ⟨k, a, L⟩ = if 0 < L.length then false else if k = 1 then decide (0 ≤ a) else if k = 2 then decide (a = 0) else if k = 3 ∨ k = 5 then someM a else false := by simp only [mayM]; rw [if_neg hk4]
    rw [hm]
    clear hm H hk4
    generalize L.length = n at *
    by_cases hn : 0 < n
    · rw [if_pos hn]
      have hn' : (0 : Int) < n := by omega
      go_enter Tryd.func14, Tryd.ntmps14
      go_wp2
      go_ret
      exact ⟨rfl, (Below.refl _ _).alloc (Nat.le_refl _) _⟩
    · rw [if_neg hn]
      obtain rfl : n = 0 := by omega
      clear hn
      by_cases k1 : k = 1
      · subst k1
        rw [if_pos rfl]
        by_cases ha : 0 ≤ a
        · have d : decide (0 ≤ a) = true := decide_eq_true ha
          rw [d]
          go_enter Tryd.func14, Tryd.ntmps14
          go_wp2
          go_ret
          exact ⟨rfl, (Below.refl _ _).alloc (Nat.le_refl _) _⟩
        · have d : decide (0 ≤ a) = false := decide_eq_false ha
          rw [d]
          go_enter Tryd.func14, Tryd.ntmps14
          go_wp2
          go_ret
          exact ⟨rfl, (Below.refl _ _).alloc (Nat.le_refl _) _⟩
      · have t1 : (k == 1) = false := by simpa using k1
        rw [if_neg k1]
        clear k1
        by_cases k2 : k = 2
        · subst k2
          rw [if_pos rfl]
          by_cases ha : a = 0
          · subst ha
            rw [decide_eq_true rfl]
            go_enter Tryd.func14, Tryd.ntmps14
            go_wp2
            go_ret
            exact ⟨rfl, (Below.refl _ _).alloc (Nat.le_refl _) _⟩
          · have d : (a == 0) = false := by simpa using ha
            rw [decide_eq_false ha]
            clear ha
            go_enter Tryd.func14, Tryd.ntmps14
            go_wp2
            go_ret
            exact ⟨rfl, (Below.refl _ _).alloc (Nat.le_refl _) _⟩
        · have t2 : (k == 2) = false := by simpa using k2
          rw [if_neg k2]
          clear k2
          have HS := Lib.hid (some_any a (w.alloc (.cells #[.int .i64 k, .int .i64 a, .slice ad 0 cap] 36)))
          generalize someM a = b at *
          by_cases k3 : k = 3
          · subst k3
            rw [if_pos (.inl rfl)]
            go_enter Tryd.func14, Tryd.ntmps14
            go_wp2_with fail
            refine HS.out.mono ?_
            rintro e w1 ⟨rfl, rfl⟩
            go_wp2
            go_ret
            exact ⟨rfl, (Below.refl _ _).alloc (Nat.le_refl _) _⟩
          · have t3 : (k == 3) = false := by simpa using k3
            by_cases k5 : k = 5
            · subst k5
              rw [if_pos (.inr rfl)]
              go_enter Tryd.func14, Tryd.ntmps14
              go_wp2_with fail
              refine HS.out.mono ?_
              rintro e w1 ⟨rfl, rfl⟩
              go_wp2
              go_ret
              exact ⟨rfl, (Below.refl _ _).alloc (Nat.le_refl _) _⟩
            · have t5 : (k == 5) = false := by simpa using k5
              rw [if_neg (by omega)]
              clear k3 k5 HS
              go_enter Tryd.func14, Tryd.ntmps14
              go_wp2
              go_ret
              exact ⟨rfl, (Below.refl _ _).alloc (Nat.le_refl _) _⟩
end Go.Proofs.YtkdigojjeiidmaaDoor
