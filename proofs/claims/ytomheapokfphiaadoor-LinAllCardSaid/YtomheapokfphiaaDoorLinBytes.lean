/-
  A slice of bytes that came in, as a list.
-/
import Derived.Test.YtomheapokfphiaaDoorLinOps
namespace Go.Proofs.YtomheapokfphiaaDoor
open Go Go.RowKit Go.Shelf

theorem bytes_nil (W : World) (a : Option Addr) : BytesAt W a [] := ⟨by decide, (fun n hn => by cases hn), .inl rfl⟩
theorem bytes_of {W : World} {x : Addr} {l c : Nat} {zs : List Int} (hl : l ≤ c) (hm : c ≤ maxLen) (hz : zs.length = c) (hcell : ∀ i, i < zs.length → W.cell? (x.add i) = some (.int .u8 (zs.getD i 0))) (hwz : ∀ n ∈ zs, 0 ≤ n ∧ n ≤ 255) :
    ∃ ns : List Nat, BytesAt W (some x) ns ∧ ns.length = l := by
  rcases Nat.eq_zero_or_pos l with rfl | hpos
  · exact ⟨[], bytes_nil _ _, rfl⟩
  have hlen : ((zs.take l).map Int.toNat).length = l := by simp; omega
  refine ⟨(zs.take l).map Int.toNat, ⟨by rw [hlen]; omega, fun n hn => ?_, .inr ?_⟩, hlen⟩
  · obtain ⟨z, hz', rfl⟩ := List.mem_map.1 hn
    have := hwz z (List.mem_of_mem_take hz')
    omega
  · have h0 := hcell 0 (by omega)
    obtain ⟨xb, xo, xs⟩ := x
    have hs : xs = none := by
      cases xs with
      | none => rfl
      | some s =>
        unfold Addr.add World.cell? at h0
        simp at h0
        split at h0 <;> simp at h0
    subst hs
    refine ⟨xb, xo, rfl, ?_, fun j n hj => ?_⟩
    · have : (⟨xb, xo, none⟩ : Addr).add 0 = ⟨xb, xo, none⟩ := rfl
      rw [this] at h0
      rcases Nat.lt_or_ge xb W.heap.size with h | h
      · exact h
      · simp [World.cell?, Array.getElem?_eq_none h] at h0
    · have hjl := (List.getElem?_eq_some_iff.1 hj).1
      rw [hlen] at hjl
      have := hcell j (by omega)
      have e : (⟨xb, xo, none⟩ : Addr).add j = ⟨xb, xo + j, none⟩ := by
        unfold Addr.add
        split
        · simp [*]
        · rfl
      rw [e] at this
      rw [this]
      rw [List.getElem?_map, List.getElem?_take_of_lt hjl, List.getElem?_eq_getElem (by omega)] at hj
      simp at hj
      subst hj
      have hb := hwz zs[j] (List.getElem_mem (by omega))
      rw [List.getD_eq_getElem?_getD, List.getElem?_eq_getElem (by omega), Option.getD_some, Int.toNat_of_nonneg hb.1]
end Go.Proofs.YtomheapokfphiaaDoor
