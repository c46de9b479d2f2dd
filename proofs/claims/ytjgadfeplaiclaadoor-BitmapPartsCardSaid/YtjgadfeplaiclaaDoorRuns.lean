/-
  The contract of bitmap.Runs.
-/
import Derived.Test.YtjgadfeplaiclaaDoorRunsPlain
import Derived.Test.YtjgadfeplaiclaaDoorParts
namespace Go.Proofs.YtjgadfeplaiclaaDoor
open Go Go.RowKit Go.Shelf
attribute [local go_sem] Oper.semAt_some

theorem info57 : (Tryd.prog.info? 57).map (fun i => (i.zero, i.size, i.bytes)) = some (some (.agg #[.int .i64 0, .int .i64 0]), 2, 16) := by kernel_rfl
def runV (q : Nat × Nat) : List Value := [.int .i64 q.1, .int .i64 q.2]

/-- The loop's state: the runs so far, and where the next one begins. -/
def RunsSt (L : List Nat) (e : Nat) (rs : List (Nat × Nat)) (at_ ok : Value) : Prop :=
  (ok = .bool true ∧ ∃ i : Nat, at_ = .int .i64 i ∧ i < e ∧ bitL L i = false ∧ rs ++ (i, endN L e i - i) :: runsAt L e (endN L e i) = runsAt L e 0) ∨ (ok = .bool false ∧ at_ = .int .i64 0 ∧ rs = runsAt L e 0)
theorem runsSt_of {L : List Nat} {e a : Nat} {rs : List (Nat × Nat)} (h : rs ++ runsAt L e a = runsAt L e 0) : ∃ r : Int × Bool, NextV L a e r ∧ RunsSt L e rs (.int .i64 r.1) (.bool r.2) ∧ (r.2 = true → (a : Int) ≤ r.1) := by
  by_cases hx : nxtN L e a < e
  · obtain ⟨h1, h2⟩ := nextV_found hx
    exact ⟨_, h1, .inl ⟨rfl, _, rfl, hx, h2, by rw [← h, runsAt_some hx]⟩, fun _ => by have := nxtN_ge L e a; simp; omega⟩
  · exact ⟨_, nextV_none hx, .inr ⟨rfl, rfl, by rw [← h, runsAt_none hx, List.append_nil]⟩, fun h => by cases h⟩

theorem own_below {w w' : World} {B e size n : Nat} {v : Value} {xs : List Value} (h : w.ownsRow B e size v n xs) (hb : Below w.heap.size w w') : w'.ownsRow B e size v n xs := by
  refine ⟨h.1, ?_⟩
  rcases h.2 with hn | ⟨g, cap, cur, rfl, hg, hgg, rest⟩
  · exact .inl hn
  · exact .inr ⟨g, cap, cur, rfl, hg, (hb.block g (Array.getElem?_eq_some_iff.1 hgg).1).trans hgg, rest⟩


set_option maxHeartbeats 1600000 in
theorem runs_any (L : List Nat) (hL : Words64 L) (hlen : L.length ≤ 1024) (v : Value) (n : Int) (hn0 : -9223372036854775808 ≤ n) (hn1 : n ≤ 9223372036854775807)
    (w : World) (h : WordsAt w v L) (hT : TabB w) (hp : 0 < w.heap.size) :
    Calls Tryd.prog 31 #[v, .int .i64 n] w fun e w' => (∃ u, e = .returned u ∧ w'.ownsRow w.heap.size 57 2 u (runsAt L (heldN L n) 0).length ((runsAt L (heldN L n) 0).flatMap runV)) ∧ Below w.heap.size w w' := by
  obtain ⟨i0, hi, hz0, hz1, hz2⟩ := info_parts info57
  obtain ⟨E, eE⟩ : ∃ E, heldN L n = E := ⟨_, rfl⟩
  have hE : E ≤ 64 * L.length := by rw [← eE]; unfold heldN; omega
  have hheld := Lib.hid (held_any L hlen v n hn0 hn1 w h)
  have hEE : heldN L E = E := by unfold heldN; omega
  rw [eE] at hheld ⊢
  have hnext := Lib.hid (fun (A : Nat) (hA : A ≤ E) (r : Int × Bool) (hr : NextV L A E r) (W : World) (hb : Below w.heap.size w W) =>
    next_any L hL hlen v E A (by omega) (by omega) A (.inl rfl) (by omega) r (by rw [hEE]; exact hr) W (h.kept hb) (hT.kept (hb.block 0 hp)) (Nat.lt_of_lt_of_le hp hb.size))
  have hhas := Lib.hid (fun (i : Nat) (hi : i ≤ E) (W : World) (hb : Below w.heap.size w W) => has_any L hL hlen v i (by omega) (by omega) W (h.kept hb))
  have hlenR := runsAt_length L E E 0 (by omega)
  obtain ⟨r0, hr0, hst0, _⟩ := runsSt_of (L := L) (e := E) (a := 0) (rs := []) rfl
  have Hr0 := Lib.hid hr0
  have Hst0 := Lib.hid hst0
  have Hlen := Lib.hid hlenR
  obtain ⟨ad, cap, rfl, hc⟩ := h
  clear hr0 hst0 hlenR hn0 hn1 eE hEE hc hL
  go_enter Tryd.func31, Tryd.ntmps31
  go_wp2_with fail
  refine hheld.out.mono ?_
  rintro e w1 ⟨rfl, rfl⟩
  go_wp2_with fail
  refine (hnext.out 0 (by omega) r0 Hr0.out _ (Below.refl _ _)).mono ?_
  rintro e w1 ⟨rfl, hb1⟩
  go_wp2_with fail
  go_loopw [4, 5, 6] (fun out at_ ok wr => ∃ rs, RunsSt L E rs at_ ok ∧ wr.ownsRow w.heap.size 57 2 out rs.length (rs.flatMap runV) ∧ Below w.heap.size w wr) (fun _ at_ ok _ => match ok with | .bool true => E + 1 - (intOf at_).toNat | _ => 0)
  case atStart => exact ⟨[], Hst0.out, World.ownsRow_nil _ _ _ _, hb1⟩
  case round =>
    obtain ⟨rs, hst, hrow, hb⟩ := hrel
    obtain ⟨Wo, hWo⟩ : ∃ Wo, Wo = wr := ⟨_, rfl⟩
    subst hWo
    have hrl : rs.length ≤ E := by
      rcases hst with ⟨_, i, _, _, _, e⟩ | ⟨_, _, e⟩
      · have := congrArg List.length e; have := Hlen.out; simp at *; omega
      · rw [e]; exact Hlen.out
    rcases hst with ⟨rfl, i, rfl, hiE, hbi, htot⟩ | ⟨rfl, rfl, htot⟩
    · obtain ⟨x1, x2, x3, x4⟩ := endN_spec hiE hbi
      obtain ⟨j, ej⟩ : ∃ j, endN L E i = j := ⟨_, rfl⟩
      rw [ej] at x1 x2 x3 x4 htot
      have htot2 : (rs ++ [(i, j - i)]) ++ runsAt L E j = runsAt L E 0 := by rw [← htot]; simp
      obtain ⟨r, hr, hst2, hle⟩ := runsSt_of htot2
      have Hr := Lib.hid hr
      have Hst2 := Lib.hid hst2
      have Hle := Lib.hid hle
      have X3 := Lib.hid x3
      have X4 := Lib.hid x4
      have Hb := Lib.hid hb
      have hbs := hb.size
      clear hr hst2 hle htot htot2 x3 x4 hb hb1 ej
      go_wp2_with fail
      obtain ⟨W1, hW1⟩ : ∃ W1, Wo.alloc (.cells #[.int .i64 i, .int .i64 0] 57) = W1 := ⟨_, rfl⟩
      have hc0 : W1.cell? ⟨Wo.heap.size, 0, none⟩ = some (.int .i64 i) := by rw [← hW1]; simp
      have hc1 : W1.cell? ⟨Wo.heap.size, 1, none⟩ = some (.int .i64 0) := by rw [← hW1]; simp
      have hf1 : W1.frozen? ⟨Wo.heap.size, 1, none⟩ = false := by rw [← hW1]; simp
      have hs1 : W1.heap.size = Wo.heap.size + 1 := by rw [← hW1]; simp
      have hB1 : Below w.heap.size w W1 := by rw [← hW1]; exact Hb.out.alloc hbs _
      have hrow1 : W1.ownsRow w.heap.size 57 2 u4 rs.length (rs.flatMap runV) := by rw [← hW1]; exact hrow.alloc _
      have Hrow := Lib.hid hrow
      have HW1 := Lib.hid hW1
      rw [hW1]
      clear hW1 hrow
      go_loopw [5] (fun at_ wx => ∃ q : Nat, i ≤ q ∧ q ≤ j ∧ at_ = .int .i64 q ∧ wx = W1) (fun at_ _ => E + 1 - (intOf at_).toNat)
      case atStart => exact ⟨i, Nat.le_refl _, by omega, rfl, rfl⟩
      case round =>
        obtain ⟨q, hq1, hq2, rfl, ewr⟩ := hrel
        have ewr' := ewr.symm
        subst ewr'
        clear ewr
        by_cases hqj : q < j
        · have hqE : (q : Int) < E := by omega
          have hv := Lib.hid ((hhas.out q (by omega) _ hB1))
          have hbit : hasV L (q : Int) = false := by rw [hasV_nat]; exact X3.out q hq1 hqj
          rw [hbit] at hv
          clear hbit
          go_wp2_with fail
          refine hv.out.mono ?_
          rintro e w3 ⟨rfl, rfl⟩
          go_wp2
          go_roundw
          case rel => exact ⟨q + 1, by omega, by omega, by go_num, trivial⟩
          case measure => simp [intOf]; omega
        · obtain rfl : q = j := by omega
          obtain ⟨d, ed⟩ : ∃ d, q - i = d := ⟨_, rfl⟩
          have g1 : IntKind.i64.wrap ((q : Int) - i) = d := by rw [IntKind.wrap_i64]; omega
          rw [ed] at Hst2
          have hrow2 : (W1.setCell ⟨Wo.heap.size, 1, none⟩ (.int .i64 d)).ownsRow w.heap.size 57 2 u4 rs.length (rs.flatMap runV) := by
            refine hrow1.kept (row := some Wo.heap.size) ⟨rfl, rfl, rfl, by simp, fun k _ hne => Below.heap_setCell W1 ⟨Wo.heap.size, 1, none⟩ _ k (by simpa using hne)⟩ (.inr ?_)
            rcases Hrow.out.2 with ⟨rfl, _⟩ | ⟨g, cap, cur, rfl, _, hh, _⟩
            · simp [Value.ownBlock]
            · have := (Array.getElem?_eq_some_iff.1 hh).1; simp only [Value.ownBlock, ne_eq, Option.some.injEq]; omega
          have hs2 : (W1.setCell ⟨Wo.heap.size, 1, none⟩ (.int .i64 d)).heap.size = Wo.heap.size + 1 := by simp; omega
          have HB3 := Lib.hid (show Below w.heap.size w ((W1.setCell ⟨Wo.heap.size, 1, none⟩ (.int .i64 d)).alloc (.cells #[.int .i64 i, .int .i64 d] 57)) ∧ w.heap.size ≤ ((W1.setCell ⟨Wo.heap.size, 1, none⟩ (.int .i64 d)).alloc (.cells #[.int .i64 i, .int .i64 d] 57)).heap.size from
            ⟨(hB1.setCell (p := ⟨Wo.heap.size, 1, none⟩) hbs _).alloc (by rw [hs2]; omega) _, by simp; omega⟩)
          have Hob := Lib.hid (show ∀ k, u4.ownBlock = some k → w.heap.size ≤ k from fun k e => by
            rcases Hrow.out.2 with ⟨rfl, _⟩ | ⟨g, cap, cur, rfl, hg, _⟩
            · simp [Value.ownBlock] at e
            · simp only [Value.ownBlock, Option.some.injEq] at e; omega)
          by_cases hqE : q < E
          · have hqE' : (q : Int) < E := by omega
            have hv := Lib.hid ((hhas.out q (by omega) _ hB1))
            have hbit : hasV L (q : Int) = true := by rw [hasV_nat]; exact X4.out hqE
            rw [hbit] at hv
            clear hbit
            go_wp2_with fail
            refine hv.out.mono ?_
            rintro e w3 ⟨rfl, rfl⟩
            go_wp2_with (at_builtin; refine wpList_append_own_at _ rfl _ _ 53 rfl w.heap.size 57 i0 (.agg #[.int .i64 0, .int .i64 0]) 2 16 Tryd.underlying53 hi hz0 hz1 hz2 rfl (by decide) _ _ _ rfl (hrow2.alloc _) ⟨Wo.heap.size + 1, 0, none⟩ 1 1 (runV (i, d)) rfl rfl (by rw [← hs2]; exact cell_two_new _ _ _ _) (by simp [Value.oneCell', runV]) (by unfold maxLen; omega) (by omega) (by simp; omega) ?_; intro v' w1 hown' hgrow _ hat)
            have hBe := HB3.out.1.grown hgrow HB3.out.2 Hob.out
            refine (hnext.out q (by omega) r Hr.out _ hBe).mono ?_
            rintro e w4 ⟨rfl, hb4⟩
            have Hb4 := Lib.hid hb4
            have HBe := Lib.hid hBe
            have Hown := Lib.hid hown'
            clear hb4 hBe hown' hgrow hat hrow2 hrow1
            go_wp2
            go_roundw
            case rel => exact ⟨rs ++ [(i, d)], Hst2.out, by have h := own_below Hown.out Hb4.out; simpa using h, HBe.out.trans (Hb4.out.mono HBe.out.size)⟩
            case measure =>
              have hle := Hle.out
              obtain ⟨r1, r2⟩ := r
              cases r2
              · simp [intOf]; omega
              · have := hle rfl
                simp [intOf] at *; omega
          · have hqE' : ¬ ((q : Int) < E) := by omega
            go_wp2_with (at_builtin; refine wpList_append_own_at _ rfl _ _ 53 rfl w.heap.size 57 i0 (.agg #[.int .i64 0, .int .i64 0]) 2 16 Tryd.underlying53 hi hz0 hz1 hz2 rfl (by decide) _ _ _ rfl (hrow2.alloc _) ⟨Wo.heap.size + 1, 0, none⟩ 1 1 (runV (i, d)) rfl rfl (by rw [← hs2]; exact cell_two_new _ _ _ _) (by simp [Value.oneCell', runV]) (by unfold maxLen; omega) (by omega) (by simp; omega) ?_; intro v' w1 hown' hgrow _ hat)
            have hBe := HB3.out.1.grown hgrow HB3.out.2 Hob.out
            refine (hnext.out q (by omega) r Hr.out _ hBe).mono ?_
            rintro e w4 ⟨rfl, hb4⟩
            have Hb4 := Lib.hid hb4
            have HBe := Lib.hid hBe
            have Hown := Lib.hid hown'
            clear hb4 hBe hown' hgrow hat hrow2 hrow1
            go_wp2
            go_roundw
            case rel => exact ⟨rs ++ [(i, d)], Hst2.out, by have h := own_below Hown.out Hb4.out; simpa using h, HBe.out.trans (Hb4.out.mono HBe.out.size)⟩
            case measure =>
              have hle := Hle.out
              obtain ⟨r1, r2⟩ := r
              cases r2
              · simp [intOf]; omega
              · have := hle rfl
                simp [intOf] at *; omega
    · clear hb1
      have Htot := Lib.hid htot
      have Hb := Lib.hid hb
      clear htot hb
      go_wp2
      go_ret
      exact ⟨⟨_, rfl, by rw [← Htot.out]; exact hrow⟩, Hb.out⟩
end Go.Proofs.YtjgadfeplaiclaaDoor
