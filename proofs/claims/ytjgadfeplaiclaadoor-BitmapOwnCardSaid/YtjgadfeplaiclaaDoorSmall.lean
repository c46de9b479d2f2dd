/-
  A list of words that came in; the contract of small.
-/
import Derived.Test.YtjgadfeplaiclaaDoorAwake3
namespace Go.Proofs.YtjgadfeplaiclaaDoor
open Go Go.RowKit Go.Shelf

/-- A slice of words that came in, with all its room. -/
def InRow (W : World) (a : Option Addr) (len cap : Nat) (zs : List Int) : Prop :=
  (a = none ∧ len = 0 ∧ cap = 0 ∧ zs = []) ∨
  ∃ x : Addr, a = some x ∧ len ≤ cap ∧ cap ≤ maxLen ∧ zs.length = cap ∧ (∀ i, i < zs.length → W.cell? (x.add i) = some (.int .u64 (zs.getD i 0))) ∧ ∀ n ∈ zs, 0 ≤ n ∧ n < 18446744073709551616
theorem info22 : (Tryd.prog.info? 22).map (fun i => (i.zero, i.size, i.bytes)) = some (some (.int .u64 0), 1, 8) := by kernel_rfl

def wordV (x : Nat) : Value := .int .u64 x
theorem words_of_owns {w : World} {base : Nat} {v : Value} {L : List Nat} (h : w.ownsRow base 22 1 v L.length (L.map wordV)) : WordsAt w v L := by
  rcases h.2 with ⟨rfl, h0⟩ | ⟨g, cap, cur, rfl, hg, hh, _⟩
  · exact ⟨none, 0, by rw [h0], .inl (List.length_eq_zero_iff.1 h0)⟩
  · refine ⟨_, _, rfl, .inr ⟨g, rfl, (Array.getElem?_eq_some_iff.1 hh).1, fun j x hx => ?_⟩⟩
    rw [World.ownsRow.cellAt h j (by have := (List.getElem?_eq_some_iff.1 hx).1; omega), List.getElem?_map, hx]
    rfl

theorem own0 (w : World) : (w.alloc (.cells #[] 22)).ownsRow w.heap.size 22 1 (.slice (some ⟨w.heap.size, 0, none⟩) 0 0) 0 [] :=
  ⟨rfl, .inr ⟨w.heap.size, 0, #[], rfl, Nat.le_refl _, World.alloc_heap_new w _, Nat.le_refl _, by simp [maxLen], rfl, rfl⟩⟩

set_option maxHeartbeats 1600000 in
theorem small_any (a : Option Addr) (len cap : Nat) (zs : List Int) (w : World) (h : InRow w a len cap zs) :
    ∃ L : List Nat, L.length ≤ 20 ∧ Words64 L ∧ Calls Tryd.prog 27 #[.slice a len cap] w fun e w' => (∃ v, e = .returned v ∧ w'.ownsRow w.heap.size 22 1 v L.length (L.map wordV)) ∧ Below w.heap.size w w' := by
  obtain ⟨i0, hi, hz0, hz1, hz2⟩ := info_parts info22
  rcases h with ⟨rfl, rfl, rfl, rfl⟩ | ⟨x, rfl, hlc, hcm, hzl, hcell, hwf⟩
  · refine ⟨[], by simp, fun x h => by simp at h, ?_⟩
    go_enter Tryd.func27, Tryd.ntmps27
    go_wp2
    go_ret
    exact ⟨⟨_, rfl, own0 w⟩, (Below.refl _ w).alloc (Nat.le_refl _) _⟩
  · obtain ⟨m, em⟩ : ∃ m, min len 20 = m := ⟨_, rfl⟩
    have hm : m ≤ len ∧ m ≤ 20 := by omega
    refine ⟨(zs.take m).map Int.toNat, by simp; omega, fun y hy => ?_, ?_⟩
    · obtain ⟨z, hz, rfl⟩ := List.mem_map.1 hy
      have := hwf z (List.mem_of_mem_take hz)
      omega
    have hl : ((zs.take m).map Int.toNat).length = m := by simp; omega
    have hlen64 : len ≤ 9223372036854775807 := by unfold maxLen at hcm; omega
    have hnews : ∀ j u, (((zs.take m).map Int.toNat).map wordV)[j]? = some u → (w.alloc (.cells #[] 22)).cell? (x.add j) = some u := fun j u hu => by
      have hj : j < m := by have := (List.getElem?_eq_some_iff.1 hu).1; simp at this; omega
      have hc := hcell j (by omega)
      have hlt : (x.add j).block < w.heap.size := World.block_lt_of_cell? _ _ hc
      rw [(((Below.refl w.heap.size w).alloc (Nat.le_refl _) (.cells #[] 22))).cell (p := x.add j) hlt, hc]
      rw [List.getElem?_map, List.getElem?_map, List.getElem?_take_of_lt hj] at hu
      have hg : zs[j]? = some (zs.getD j 0) := by rw [List.getD_eq_getElem?_getD, List.getElem?_eq_getElem (by omega)]; rfl
      rw [hg] at hu
      have h0 := hwf (zs.getD j 0) (List.mem_of_getElem? hg)
      simp only [Option.map_some, Option.some.injEq, wordV] at hu
      rw [← hu, Int.toNat_of_nonneg h0.1]
    have hone : ∀ u ∈ ((zs.take m).map Int.toNat).map wordV, u.oneCell' = true := fun u hu => by
      obtain ⟨y, _, rfl⟩ := List.mem_map.1 hu
      rfl
    obtain ⟨L, eL⟩ : ∃ L, (zs.take m).map Int.toNat = L := ⟨_, rfl⟩
    rw [eL] at hl hnews hone ⊢
    have Hnews := Lib.hid hnews
    have Hone := Lib.hid hone
    clear hnews hone eL hcell hwf
    by_cases h20 : len ≤ 20
    · obtain rfl : m = len := by omega
      have h20' : ¬ (20 : Int) < m := by omega
      clear em
      go_enter Tryd.func27, Tryd.ntmps27
      go_wp2_with (at_builtin; refine wpList_append_own_at _ rfl _ _ 44 rfl w.heap.size 22 i0 (.int .u64 0) 1 8 Tryd.underlying44 hi hz0 hz1 hz2 rfl (by decide) _ 0 [] rfl (own0 w) x _ _ (L.map wordV) rfl (by simp [hl]) Hnews.out Hone.out (by unfold maxLen; omega) (by omega) (by simp) ?_; intro v' w1 hown' hgrow _ hat)
      go_ret
      exact ⟨⟨_, rfl, by simpa [hl] using hown'⟩, ((Below.refl _ w).alloc (Nat.le_refl _) _).grown hgrow (by simp) (fun k e => by have e' : some w.heap.size = some k := e; injection e' with e'; omega)⟩
    · obtain rfl : m = 20 := by omega
      have h20' : (20 : Int) < len := by omega
      clear em
      go_enter Tryd.func27, Tryd.ntmps27
      go_wp2_with (at_builtin; refine wpList_append_own_at _ rfl _ _ 44 rfl w.heap.size 22 i0 (.int .u64 0) 1 8 Tryd.underlying44 hi hz0 hz1 hz2 rfl (by decide) _ 0 [] rfl (own0 w) x _ _ (L.map wordV) rfl (by simp [hl]) Hnews.out Hone.out (by unfold maxLen; omega) (by omega) (by simp) ?_; intro v' w1 hown' hgrow _ hat)
      go_ret
      exact ⟨⟨_, rfl, by simpa [hl] using hown'⟩, ((Below.refl _ w).alloc (Nat.le_refl _) _).grown hgrow (by simp) (fun k e => by have e' : some w.heap.size = some k := e; injection e' with e'; omega)⟩
end Go.Proofs.YtjgadfeplaiclaaDoor
