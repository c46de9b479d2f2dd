/-
  The document's parts: its contract.
-/
import Derived.Test.YtkdigojjeiidmaaDoorNumber
import Derived.Test.YtkdigojjeiidmaaDoorRead
namespace Go.Proofs.YtkdigojjeiidmaaDoor
open Go Go.RowKit Go.Shelf

theorem info9 : (Tryd.prog.info? 9).map (fun i => (i.zero, i.size, i.bytes)) = some (some (.string ⟨#[]⟩), 1, 16) := by kernel_rfl
def PartsIn (l : List UInt8) (base : Nat) (k f : Nat) (v : Value) (W wr : World) : Prop := ∃ out : List (List UInt8), PartsAt l k f out ∧ out.length ≤ k ∧ wr.ownsRow base 9 1 v out.length (out.map sV) ∧ Below base W wr

set_option maxRecDepth 8000 in
set_option maxHeartbeats 1600000 in
theorem parts_any (l : List UInt8) (hl : l.length ≤ 2097152) (w : World) :
    Calls Tryd.prog 41 #[.string ⟨l.toArray⟩] w fun e w' => ∃ v, e = .returned v ∧ w'.ownsRow w.heap.size 9 1 v (splitL l).length ((splitL l).map sV) ∧ Below w.heap.size w w' := by
  obtain ⟨i0, hi0, hz0, hz1, hz2⟩ := info_parts' info9
  have hS := strIs l
  generalize (⟨l.toArray⟩ : ByteArray) = s at *
  obtain ⟨hsz, hget, hext⟩ := hS
  obtain ⟨n, hn⟩ : ∃ n, l.length = n := ⟨_, rfl⟩
  have Hext := Lib.hid hext
  rw [hn] at hsz hl
  have Hn := Lib.hid hn
  clear hn hext
  go_enter Tryd.func41, Tryd.ntmps41
  go_wp2_with fail
  go_loopw [3, 4, 5] (fun v f i wr => ∃ kk ff : Nat, kk ≤ n + 1 ∧ (kk ≤ n → ff ≤ kk) ∧ f = .int .i64 ff ∧ i = .int .i64 kk ∧ PartsIn l w.heap.size kk ff v w wr) (fun _ _ i _ => n + 1 - (intOf i).toNat)
  case atStart => exact ⟨0, 0, by omega, by omega, rfl, rfl, [], parts_start l, Nat.le_refl _, World.ownsRow_nil _ _ _ _, Below.refl _ _⟩
  case round =>
    obtain ⟨k, f, hk, hf, rfl, rfl, out, hP, ho, hown, hb⟩ := hrel
    obtain ⟨Wo, hWo⟩ : ∃ Wo, Wo = wr := ⟨_, rfl⟩
    subst hWo
    obtain ⟨la, lc, rfl⟩ := own_slice hown
    obtain ⟨m, em⟩ : ∃ m, out.length = m := ⟨_, rfl⟩
    rw [em] at ho hown ⊢
    have HO := Lib.hid hown
    have HB := Lib.hid hb
    have HP := Lib.hid hP
    have Em := Lib.hid em
    clear hown hb hP em
    by_cases hlt : k < n
    · have hki : (k : Int) < n := by omega
      have hkl : k < l.length := by rw [Hn.out]; exact hlt
      have hfk := hf (by omega)
      have hle : (k : Int) ≤ n := by omega
      have hne : ((k : Int) == (n : Int)) = false := by
        rw [beq_eq_false_iff_ne]; omega
      have hb := bN_get hkl
      by_cases hsp : l[k] = 32
      · have t1 : (bN l k == 32) = true := by rw [hb, hsp]; rfl
        clear hb
        have HG := Lib.hid (parts_cut HP.out hkl hsp)
        have Hex := Lib.hid (Hext.out f k (by rw [Hn.out]; omega))
        have Hnews := Lib.hid (World.news_of_block (World.alloc_heap_new Wo (.cells #[.string (s.extract f k)] 9)))
        have Hone := Lib.hid (show ∀ v ∈ [Value.string (s.extract f k)], v.oneCell' = true by simp [Value.oneCell'])
        have Hl2 := Lib.hid (HO.out.alloc (.cells #[.string (s.extract f k)] 9))
        have hsz3 := HB.out.size
        go_wp2_with (at_builtin; refine wpList_append_lies _ rfl _ _ 69 rfl w.heap.size 9 i0 (.string ⟨#[]⟩) 1 16 Tryd.underlying69 hi0 hz0 hz1 hz2 rfl (by decide) _ _ _ rfl Hl2.out _ 1 1 _ rfl rfl Hnews.out Hone.out (by omega) (by unfold maxLen; omega) (by omega) (by simp; omega) _ rfl ?_; intro g' cap' w4 hown' hgrow _ _)
        have HB4 := Lib.hid ((HB.out.alloc hsz3 (.cells #[.string (s.extract f k)] 9)).grown hgrow (by simp; omega) (fun j e => by have := own_later HO.out j e; omega))
        go_roundw
        case rel =>
          refine ⟨k + 1, k + 1, by omega, by omega, by go_num, by go_num, out ++ [(l.take k).drop f], HG.out, by rw [List.length_append, Em.out, List.length_singleton]; omega, ?_, HB4.out⟩
          rw [List.length_append, Em.out, List.map_append]
          rw [Hex.out] at hown'
          exact hown'
        case measure => simp [intOf]; omega
      · have t1 : (bN l k == 32) = false := by
          rw [beq_eq_false_iff_ne, hb]
          intro e
          exact hsp (UInt8.toNat_inj.1 (show l[k].toNat = 32 by omega))
        have HG := Lib.hid (parts_on HP.out hkl hsp)
        clear hb hsp
        go_wp2_with fail
        go_roundw
        case rel => exact ⟨k + 1, f, by omega, by omega, rfl, by go_num, out, HG.out, by rw [Em.out]; omega, by rw [Em.out]; exact HO.out, HB.out⟩
        case measure => simp [intOf]; omega
    · by_cases hkn : k = n
      · subst hkn
        have hfk := hf (Nat.le_refl _)
        have hle : (k : Int) ≤ k := by omega
        have hne : ((k : Int) == (k : Int)) = true := by simp
        have HG := Lib.hid (show PartsAt l (k + 1) (k + 1) (out ++ [(l.take k).drop f]) from by have h := HP.out; have e := Hn.out; subst e; exact parts_last h (l.length + 1))
        have Hex := Lib.hid (Hext.out f k (by rw [Hn.out]; omega))
        have Hnews := Lib.hid (World.news_of_block (World.alloc_heap_new Wo (.cells #[.string (s.extract f k)] 9)))
        have Hone := Lib.hid (show ∀ v ∈ [Value.string (s.extract f k)], v.oneCell' = true by simp [Value.oneCell'])
        have Hl2 := Lib.hid (HO.out.alloc (.cells #[.string (s.extract f k)] 9))
        have hsz3 := HB.out.size
        go_wp2_with (at_builtin; refine wpList_append_lies _ rfl _ _ 69 rfl w.heap.size 9 i0 (.string ⟨#[]⟩) 1 16 Tryd.underlying69 hi0 hz0 hz1 hz2 rfl (by decide) _ _ _ rfl Hl2.out _ 1 1 _ rfl rfl Hnews.out Hone.out (by omega) (by unfold maxLen; omega) (by omega) (by simp; omega) _ rfl ?_; intro g' cap' w4 hown' hgrow _ _)
        have HB4 := Lib.hid ((HB.out.alloc hsz3 (.cells #[.string (s.extract f k)] 9)).grown hgrow (by simp; omega) (fun j e => by have := own_later HO.out j e; omega))
        go_roundw
        case rel =>
          refine ⟨k + 1, k + 1, by omega, by omega, by go_num, by go_num, out ++ [(l.take k).drop f], HG.out, by rw [List.length_append, Em.out, List.length_singleton]; omega, ?_, HB4.out⟩
          rw [List.length_append, Em.out, List.map_append]
          rw [Hex.out] at hown'
          exact hown'
        case measure => simp [intOf]
      · obtain rfl : k = n + 1 := by omega
        have hgt : ¬ ((n + 1 : Nat) : Int) ≤ n := by omega
        have HE := Lib.hid (parts_end (by have h := HP.out; rw [← Hn.out] at h; exact h) : out = splitL l)
        go_wp2_with fail
        go_ret
        refine ⟨_, rfl, ?_, HB.out⟩
        rw [← HE.out, Em.out]
        exact HO.out
end Go.Proofs.YtkdigojjeiidmaaDoor
