/-
  ScriptBack's open arguments: 16-bit numbers.
-/
import Derived.Test.YtkdigojjeiidmaaDoorBackCall
import Derived.Test.YtkdigojjeiidmaaDoorArgs
import Derived.Test.YtkdigojjeiidmaaDoorScriptBack
namespace Go.Proofs.YtkdigojjeiidmaaDoor
open Go Go.RowKit Go.Shelf Go.ChangeShapes Go.WideShapes Go.Deep

variable {H : Type} {enc : TypeId × Value → H} {W : World}
theorem ar_shorts_of {fuel : Nat} {cs : List Value} {x : DataW H × List MemPlace} (h : DataW.trod enc Tryd.prog W 0 (fun _ => true) true fuel 48 cs = some x) :
    ∃ v ns, cs = [v] ∧ ShortsAt W v ns ∧ (∀ a ∈ ns, a ≤ 65535) ∧ ns.length ≤ 9223372036854775807 := by
  rcases open_ints Tryd.underlying48 Tryd.underlying80 (by kernel_rfl) h with ⟨rfl, _⟩ | ⟨a, len, cap, zs, rfl, _, hl, hm, hz, _, hcell, hwz⟩
  · exact ⟨_, [], rfl, ⟨none, 0, rfl, .inl rfl⟩, (fun a h => by cases h), by simp⟩
  · have hz : zs.length = cap := by simpa using hz
    have hb : ∀ z ∈ zs, 0 ≤ z ∧ z ≤ 65535 := fun z hz' => bounds_u16 (hwz z hz')
    refine ⟨_, (zs.take len).map Int.toNat, rfl, ⟨some a, cap, by rw [List.length_map, List.length_take, Nat.min_eq_left (by omega)], ?_⟩, fun y hy => ?_, by rw [List.length_map, List.length_take]; unfold maxLen at hm; omega⟩
    · rcases Nat.eq_zero_or_pos len with rfl | hpos
      · exact .inl (by simp)
      · have h0 := hcell 0 (by omega)
        obtain ⟨g, c, s⟩ := a
        obtain rfl : s = none := ar_spot_none h0
        refine .inr ⟨g, c, rfl, ar_cell_lt h0, fun j y hj => ?_⟩
        have hjl := (List.getElem?_eq_some_iff.1 hj).1
        rw [List.length_map, List.length_take] at hjl
        have := hcell j (by omega)
        rw [add_plain] at this
        rw [this]
        rw [List.getElem?_map, List.getElem?_take_of_lt (by omega), List.getElem?_eq_getElem (by omega)] at hj
        obtain rfl := Option.some.inj hj
        have hbj := hb _ (List.getElem_mem (show j < zs.length by omega))
        rw [List.getD_eq_getElem?_getD, List.getElem?_eq_getElem (by omega)]
        show some (Value.int .u16 zs[j]) = some (.int .u16 ((zs[j].toNat : Nat) : Int))
        rw [Int.toNat_of_nonneg hbj.1]
    · obtain ⟨z, hz', rfl⟩ := List.mem_map.1 hy
      have := hb z (List.mem_of_mem_take hz')
      omega
theorem scriptBack_walk (k a n : Int) (sd : Option Addr) (sl sc : Nat) (ls : List Nat) (p : Int) (w : World) (hk0 : 0 ≤ k) (hk : k ≤ 255) (ha0 : 0 ≤ a) (ha : a ≤ 255) (hn0 : 0 ≤ n) (hn : n ≤ 18446744073709551615)
    (hs : ShortsAt w (.slice sd sl sc) ls) (h65 : ∀ x ∈ ls, x ≤ 65535) (hmax : ls.length ≤ 9223372036854775807) (hp0 : 0 ≤ p) (hp : p ≤ 255) (hv : Vars w) :
    Calls Tryd.prog 8 #[.int .u8 k, .int .u8 a, .int .u64 n, .slice sd sl sc, .int .u8 p] w fun e w' => e = .returned (.bool true) ∧ Below w.heap.size w w' := by
  have h := scriptBack_any k.toNat a.toNat n.toNat (by omega) (by omega) (by omega) _ ls p.toNat (by omega) w hs h65 hmax hv
  rw [Int.toNat_of_nonneg hk0, Int.toNat_of_nonneg ha0, Int.toNat_of_nonneg hn0, Int.toNat_of_nonneg hp0] at h
  exact h
end Go.Proofs.YtkdigojjeiidmaaDoor
