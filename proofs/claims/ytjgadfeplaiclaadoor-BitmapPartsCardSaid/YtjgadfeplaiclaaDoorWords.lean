/-
  The iterator bitmap.words: its contract.
-/
import Derived.Test.YtjgadfeplaiclaaDoorWordsPlain
import Derived.Test.YtjgadfeplaiclaaDoorLater
namespace Go.Proofs.YtjgadfeplaiclaaDoor
open Go Go.RowKit Go.Shelf
attribute [local go_sem] Oper.semAt_some

set_option maxHeartbeats 400000 in
theorem words_any (a e : Int) (w : World) : Calls Tryd.prog 38 #[.int .i64 a, .int .i64 e] w fun r w' => r = .returned (.func (.func 46) #[] #[.pointer (some ⟨w.heap.size, 0, none⟩), .pointer (some ⟨w.heap.size + 1, 0, none⟩)]) ∧ w' = (w.alloc (.cells #[.int .i64 a] 3)).alloc (.cells #[.int .i64 e] 3) := by
  go_enter Tryd.func38, Tryd.ntmps38
  go_wp2
  go_ret
  exact ⟨rfl, rfl⟩

theorem cell_other {C B : Nat} (W : World) {v : Value} (h : C ≠ B) : (W.setCell ⟨B, 0, none⟩ v).cell? ⟨C, 0, none⟩ = W.cell? ⟨C, 0, none⟩ :=
  World.cell?_of_block (a := ⟨C, 0, none⟩) (Below.heap_setCell W ⟨B, 0, none⟩ v C h)

set_option maxHeartbeats 1000000 in
theorem words_gives (n : Nat) (a e : Nat) (he : e ≤ 1073741824) (w : World) (B C : Nat) (hBC : B ≠ C) (hc : w.cell? ⟨B, 0, none⟩ = some (.int .i64 a)) (hf : w.frozen? ⟨B, 0, none⟩ = false) (hd : w.cell? ⟨C, 0, none⟩ = some (.int .i64 e)) :
    Gives Tryd.prog n 46 #[.pointer (some ⟨B, 0, none⟩), .pointer (some ⟨C, 0, none⟩)] (fun q : Nat × Nat => #[.int .i64 q.1, .int .u64 q.2]) B [B, C] (wordsL a e) w := by
  intro l J Jx W hW hsz hJ hJx hY h0
  have hmix : Tryd.prog.follows .mixedOrders = true := by kernel_rfl
  refine callsIn_of_wp Tryd.func46 rfl trivial ?_ rfl
  simp only [Tryd.ntmps46, List.size_toArray, List.length_cons, List.length_nil, Nat.reduceAdd, Nat.reduceSub, Array.replicate_succ, Array.replicate_zero, List.push_toArray, List.append_toArray, List.nil_append, List.cons_append]
  gi_wp2
  have hcW : W.cell? ⟨B, 0, none⟩ = some (.int .i64 (posN a e 0 : Nat)) := (World.cell?_of_block (a := ⟨B, 0, none⟩) (hW B (by simp))).trans hc
  have hfW : W.frozen? ⟨B, 0, none⟩ = false := (World.frozen?_of_block (a := ⟨B, 0, none⟩) (hW B (by simp))).trans hf
  have hdW : W.cell? ⟨C, 0, none⟩ = some (.int .i64 e) := (World.cell?_of_block (a := ⟨C, 0, none⟩) (hW C (by simp))).trans hd
  clear hc hf hd hW
  gi_loopw [] (fun wr => ∃ j, j ≤ wordsN a e ∧ J j wr ∧ wr.cell? ⟨B, 0, none⟩ = some (.int .i64 (posN a e j : Nat)) ∧ wr.frozen? ⟨B, 0, none⟩ = false ∧ wr.cell? ⟨C, 0, none⟩ = some (.int .i64 e)) (fun wr => e - cellN wr B)
  case atStart => exact ⟨0, Nat.zero_le _, h0, hcW, hfW, hdW⟩
  case round =>
    obtain ⟨j, hj, hJj, hcr, hfr, hdr⟩ := hrel
    have hpl := posN_lt a e j
    by_cases hlt : j < wordsN a e
    · obtain ⟨h1, h2, h3⟩ := posN_word hlt
      have h4 := posN_mask hlt
      have h5 := posN_shift hlt
      have h6 := hpl.2 hlt
      have hm := maskN_lt a e (a / 64 + j)
      obtain ⟨fn, tmps, assign, body, hy, hR⟩ := hY j _ wr.drew (wordsL_at hlt) (hJ _ _ _ hJj ⟨rfl, rfl, rfl, Nat.le_refl _, fun _ _ _ => rfl⟩)
      dsimp only at hy
      have hR2 := hR.mono (R' := fun e W' => ∃ b : Bool, e = .returned (.bool b) ∧ Hid ((b = true ∧ J (j + 1) W' ∧ KeptB [B, C] wr W') ∨ (b = false ∧ Jx j W'))) (by
        rintro e W' (⟨rfl, h1, h2⟩ | ⟨rfl, h1⟩)
        · exact ⟨true, rfl, Lib.hid (.inl ⟨rfl, h1, h2⟩)⟩
        · exact ⟨false, rfl, Lib.hid (.inr ⟨rfl, h1⟩)⟩)
      clear hR
      obtain ⟨p, ep⟩ : ∃ p, posN a e j = p := ⟨_, rfl⟩
      obtain ⟨t, et⟩ : ∃ t, posN a e (j + 1) = t := ⟨_, rfl⟩
      obtain ⟨k, ek⟩ : ∃ k, a / 64 + j = k := ⟨_, rfl⟩
      obtain ⟨m, em⟩ : ∃ m, maskN a e k = m := ⟨_, rfl⟩
      rw [ep] at hcr h1 h3 h4 h5 h6
      rw [et] at h2 h3 h4 h5
      rw [ek] at h1 h2 h4 hm hy
      rw [em] at h4 hm hy
      have Hpl := Lib.hid hpl
      have Ep := Lib.hid ep
      have Et := Lib.hid et
      have hp30 : p < 1073741824 := by omega
      have f1 : (p : Int) / 64 = k := by omega
      have f2 : (p : Int) % 64 = (p % 64 : Nat) := by omega
      obtain ⟨d, ed⟩ : ∃ d, t - p = d := ⟨_, rfl⟩
      obtain ⟨q, eq⟩ : ∃ q, p % 64 = q := ⟨_, rfl⟩
      have f3 : (onesN (d : Int) : Int) * 2 ^ q = m := by rw [cast_mul_pow, ← h4, ed, eq]
      have f4 : IntKind.u64.wrap ((m : Nat) : Int) = m := u64_wrap_of m hm
      have fq : min q 64 = q := by omega
      have f5 : (p : Int).tmod 64 = q := by rw [Int.tmod_eq_emod_of_nonneg (by omega)]; omega
      clear hpl ep et ek em h4 hJj f2
      by_cases hmin : e ≤ (k + 1) * 64
      · have hm1 : (e : Int) ≤ ((k : Int) + 1) * 64 := by omega
        obtain rfl : t = e := by omega
        have f6 : IntKind.i64.wrap ((t : Int) - p) = d := by rw [IntKind.wrap_i64]; omega
        clear hmin h2 ed eq
        gi_wp2
        gi_region_with_o (first
          | (refine ⟨trivial, (fun h => by cases h), ?_⟩; gi_at_call 14; refine (callsIn_wide.2 (ones_any _ _)).mono ?_; rintro e w' ⟨rfl, rfl⟩)
          | (refine ⟨(fun h => by cases h), ?_⟩; refine hR2.mono ?_; rintro e W3 ⟨b, rfl, hq⟩))
        all_goals
          rcases hq.out with ⟨rfl, hJ3, hk3⟩ | ⟨rfl, hJx3⟩
          · have hc3 : W3.cell? ⟨B, 0, none⟩ = some (.int .i64 p) := (World.cell?_of_block (a := ⟨B, 0, none⟩) (hk3 B (by simp))).trans hcr
            have hf3 : W3.frozen? ⟨B, 0, none⟩ = false := (World.frozen?_of_block (a := ⟨B, 0, none⟩) (hk3 B (by simp))).trans hfr
            have hd3 : W3.cell? ⟨C, 0, none⟩ = some (.int .i64 t) := (World.cell?_of_block (a := ⟨C, 0, none⟩) (hk3 C (by simp))).trans hdr
            clear hq hk3
            gi_wp2
            go_roundw
            case rel =>
              refine ⟨j + 1, by omega, hJ _ _ _ hJ3 (grown_setCell W3 B 0 _), ?_, (World.frozen?_setCell ..).trans hf3, ?_⟩
              · rw [Et.out]
                exact World.cell?_setCell_same' _ _ _ (by rw [hc3]; rfl)
              · rw [cell_other W3 (show C ≠ B from fun h => hBC h.symm)]; exact hd3
            case measure =>
              have m1 : cellN wr B = p := by simp [cellN, hcr]
              have m2 : ∀ v : Nat, cellN (W3.setCell ⟨B, 0, none⟩ (.int .i64 v)) B = v := fun v => by
                have : (W3.setCell ⟨B, 0, none⟩ (.int .i64 v)).cell? ⟨B, 0, none⟩ = some (.int .i64 v) := World.cell?_setCell_same' _ _ _ (by rw [hc3]; rfl)
                simp [cellN, this]
              rw [m1, m2]; omega
          · gi_wp2
            refine bodyPost_ret (results_none rfl _ _ _) rfl ?_
            exact ⟨⟨_, rfl⟩, .inr ⟨j, by rw [wordsL_length]; exact hlt, hJx3⟩⟩
      · have hm1 : ¬ (e : Int) ≤ ((k : Int) + 1) * 64 := by omega
        have ht : t = (k + 1) * 64 := by omega
        have f6 : IntKind.i64.wrap (((k : Int) + 1) * 64 - p) = d := by rw [IntKind.wrap_i64]; omega
        have Ht := Lib.hid ht
        clear hmin h2 ed eq ht
        gi_wp2
        gi_region_with_o (first
          | (refine ⟨trivial, (fun h => by cases h), ?_⟩; gi_at_call 14; refine (callsIn_wide.2 (ones_any _ _)).mono ?_; rintro e w' ⟨rfl, rfl⟩)
          | (refine ⟨(fun h => by cases h), ?_⟩; refine hR2.mono ?_; rintro e W3 ⟨b, rfl, hq⟩))
        all_goals
          rcases hq.out with ⟨rfl, hJ3, hk3⟩ | ⟨rfl, hJx3⟩
          · have hc3 : W3.cell? ⟨B, 0, none⟩ = some (.int .i64 p) := (World.cell?_of_block (a := ⟨B, 0, none⟩) (hk3 B (by simp))).trans hcr
            have hf3 : W3.frozen? ⟨B, 0, none⟩ = false := (World.frozen?_of_block (a := ⟨B, 0, none⟩) (hk3 B (by simp))).trans hfr
            have hd3 : W3.cell? ⟨C, 0, none⟩ = some (.int .i64 e) := (World.cell?_of_block (a := ⟨C, 0, none⟩) (hk3 C (by simp))).trans hdr
            clear hq hk3
            gi_wp2
            go_roundw
            case rel =>
              refine ⟨j + 1, by omega, hJ _ _ _ hJ3 (grown_setCell W3 B 0 _), ?_, (World.frozen?_setCell ..).trans hf3, ?_⟩
              · rw [Et.out]
                rw [show (((k : Int) + 1) * 64) = ((t : Nat) : Int) by have := Ht.out; omega]
                exact World.cell?_setCell_same' _ _ _ (by rw [hc3]; rfl)
              · rw [cell_other W3 (show C ≠ B from fun h => hBC h.symm)]; exact hd3
            case measure =>
              have m1 : cellN wr B = p := by simp [cellN, hcr]
              have m2 : ∀ v : Nat, cellN (W3.setCell ⟨B, 0, none⟩ (.int .i64 v)) B = v := fun v => by
                have : (W3.setCell ⟨B, 0, none⟩ (.int .i64 v)).cell? ⟨B, 0, none⟩ = some (.int .i64 v) := World.cell?_setCell_same' _ _ _ (by rw [hc3]; rfl)
                simp [cellN, this]
              rw [show (((k : Int) + 1) * 64) = ((t : Nat) : Int) by have := Ht.out; omega]
              rw [m1, m2]; have := Ht.out; omega
          · gi_wp2
            refine bodyPost_ret (results_none rfl _ _ _) rfl ?_
            exact ⟨⟨_, rfl⟩, .inr ⟨j, by rw [wordsL_length]; exact hlt, hJx3⟩⟩
    · obtain rfl : j = wordsN a e := by omega
      have hge : ¬ ((posN a e (wordsN a e) : Nat) : Int) < e := by
        have := hpl.1; omega
      have HJ := Lib.hid hJj
      clear hpl hJj
      gi_wp2
      go_end0
      exact ⟨⟨_, rfl⟩, .inl (by rw [wordsL_length]; exact HJ.out)⟩
end Go.Proofs.YtjgadfeplaiclaaDoor
