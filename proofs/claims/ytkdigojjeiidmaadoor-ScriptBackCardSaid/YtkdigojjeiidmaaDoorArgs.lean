/-
  Arguments: numbers, calls, lists of calls, a setup, that came in, as they lie.
-/
import Derived.Test.YtkdigojjeiidmaaDoorAt
import Derived.Test.YtkdigojjeiidmaaDoorBytes
import Derived.Deep.Slices
namespace Go.Proofs.YtkdigojjeiidmaaDoor
open Go Go.RowKit Go.Shelf Go.ChangeShapes Go.WideShapes Go.Deep

theorem ar_spot_none {W : World} {b o : Nat} {s : Option Nat} {v : Value} (h : W.cell? ((⟨b, o, s⟩ : Addr).add 0) = some v) : s = none := by
  cases s with
  | none => rfl
  | some s =>
    unfold Addr.add World.cell? at h
    simp at h
    split at h <;> simp at h
theorem ar_cell_lt {W : World} {a : Addr} {v : Value} (h : W.cell? a = some v) : a.block < W.heap.size := by
  rcases Nat.lt_or_ge a.block W.heap.size with k | k
  · exact k
  · simp [World.cell?, Array.getElem?_eq_none k] at h
theorem ar_wf64 {n : Int} (h : (Lit.int .i64 n).wf = true) : i64ok n := bounds_i64 h

variable {H : Type} {enc : TypeId × Value → H} {W : World}
theorem ar_ints_of {fuel : Nat} {cs : List Value} {x : DataW H × List MemPlace} (h : DataW.trod enc Tryd.prog W 0 (fun _ => true) true fuel 27 cs = some x) :
    ∃ v L, cs = [v] ∧ IntsAt W v L ∧ L.length ≤ 9223372036854775807 ∧ ∀ a ∈ L, i64ok a := by
  rcases open_ints Tryd.underlying27 Tryd.underlying3 (by kernel_rfl) h with ⟨rfl, _⟩ | ⟨a, len, cap, zs, rfl, _, hl, hm, hz, _, hcell, hwz⟩
  · exact ⟨_, [], rfl, intsAt_nil W, by simp, fun a h => by cases h⟩
  · have hz : zs.length = cap := by simpa using hz
    refine ⟨_, zs.take len, rfl, ⟨some a, cap, by rw [List.length_take, Nat.min_eq_left (by omega)], ?_⟩, by rw [List.length_take]; unfold maxLen at hm; omega, fun a ha => ar_wf64 (hwz a (List.mem_of_mem_take ha))⟩
    rcases Nat.eq_zero_or_pos len with rfl | hpos
    · exact .inl (by simp)
    · have h0 := hcell 0 (by omega)
      obtain ⟨g, c, s⟩ := a
      obtain rfl : s = none := ar_spot_none h0
      refine .inr ⟨g, c, rfl, ar_cell_lt h0, fun j y hj => ?_, by rw [List.length_take]; omega⟩
      have hjl := (List.getElem?_eq_some_iff.1 hj).1
      rw [List.length_take] at hjl
      have := hcell j (by omega)
      rw [add_plain] at this
      rw [this]
      rw [List.getElem?_take_of_lt (by omega)] at hj
      rw [List.getD_eq_getElem?_getD, hj]
      rfl

theorem ar_one_int {n : Nat} {c : List Value} {y : Option (DataW H × List MemPlace)} (h : DataW.trod enc Tryd.prog W 0 (fun _ => true) true n 3 c = y) (hy : y.isSome) : ∃ z, c = [.int .i64 z] ∧ i64ok z := by
  obtain ⟨y', rfl⟩ := Option.isSome_iff_exists.1 hy
  obtain ⟨z, e, _, hz⟩ := DataW.trod_int Tryd.underlying3 h
  exact ⟨z, e, ar_wf64 hz⟩

theorem cells3' : Tryd.prog.cellsOf 3 = 1 := by kernel_rfl
theorem cells27 : Tryd.prog.cellsOf 27 = 1 := by kernel_rfl
theorem cells34 : Tryd.prog.cellsOf 34 = 1 := by kernel_rfl
theorem cells36 : Tryd.prog.cellsOf 36 = 3 := by kernel_rfl
theorem cells23 : Tryd.prog.cellsOf 23 = 1 := by kernel_rfl
/-- What is asked of a call's numbers. -/
def CallOk (o : CallP) : Prop := i64ok o.a ∧ o.L.length ≤ 9223372036854775807 ∧ ∀ n ∈ o.L, i64ok n
set_option maxRecDepth 100000 in
theorem ar_call_of {fuel : Nat} {cs : List Value} {x : DataW H × List MemPlace} (h : DataW.trod enc Tryd.prog W 0 (fun _ => true) true fuel 36 cs = some x) :
    ∃ (o : CallP) (lv : Value), cs = [.int .i64 o.kind, .int .i64 o.a, lv] ∧ IntsAt W lv o.L ∧ CallOk o := by
  obtain ⟨xs, n, _, _, hl, hxl, hf⟩ := DataW.trod_struct Tryd.underlying36 h
  have hl : cs.length = 3 := hl.trans (by kernel_rfl)
  have hxl : xs.length = 3 := hxl
  match cs, hl with
  | [v0, v1, v2], _ =>
    have g0 := hf 0 _ rfl
    have g1 := hf 1 _ rfl
    have g2 := hf 2 _ rfl
    have sm : ∀ i, i < 3 → xs[i]?.isSome := fun i hi => by rw [List.getElem?_eq_getElem (by omega)]; rfl
    obtain ⟨z0, e0, w0⟩ := ar_one_int g0 (sm 0 (by omega))
    obtain ⟨z1, e1, w1⟩ := ar_one_int g1 (sm 1 (by omega))
    obtain ⟨y2, s2⟩ := Option.isSome_iff_exists.1 (sm 2 (by omega))
    rw [s2] at g2
    obtain ⟨lv, L, e2, h2, hl2, w2⟩ := ar_ints_of g2
    simp [cells3', cells27] at e0 e1 e2
    subst e0 e1 e2
    exact ⟨⟨z0, z1, L⟩, _, rfl, h2, w1, hl2, w2⟩

instance : Inhabited CallP := ⟨⟨0, 0, []⟩⟩
theorem ar_calls_of {fuel : Nat} {cs : List Value} {x : DataW H × List MemPlace} (h : DataW.trod enc Tryd.prog W 0 (fun _ => true) true fuel 34 cs = some x) :
    ∃ v l, cs = [v] ∧ CallsAt W v l ∧ CallsLen l := by
  rcases open_slice Tryd.underlying34 h with ⟨rfl, _⟩ | ⟨a, len, cap, m, n, D, Pl, rfl, _, hl, hm, hmm, _, hx⟩
  · exact ⟨_, [], rfl, ⟨none, 0, rfl, .inl rfl⟩, by simp, fun o ho => by cases ho⟩
  · have hlm : len ≤ m := by rw [hmm]; simp; exact hl
    rw [cells36] at hx
    obtain ⟨os, hos⟩ := choose_lt (α := CallP) (p := fun i o => ∃ lv, W.cells? 0 (a.add (i * 3)) 3 = some [.int .i64 o.kind, .int .i64 o.a, lv] ∧ IntsAt W lv o.L ∧ CallOk o) (fun i hi => by
      obtain ⟨cs', h1, h2⟩ := hx i hi
      obtain ⟨o, lv, rfl, h3, h4⟩ := ar_call_of h2
      exact ⟨o, lv, h1, h3, h4⟩)
    have hlen : ((List.range len).map os).length = len := by simp
    refine ⟨_, (List.range len).map os, rfl, ⟨some a, cap, by rw [hlen], ?_⟩, by rw [hlen]; unfold maxLen at hm; omega, fun o ho => by
      obtain ⟨i, hi, rfl⟩ := List.mem_map.1 ho
      obtain ⟨_, _, _, h⟩ := hos i (by have := List.mem_range.1 hi; omega)
      exact h.2.1⟩
    rcases Nat.eq_zero_or_pos len with rfl | hpos
    · exact .inl (by simp)
    · obtain ⟨_, h0, _, _⟩ := hos 0 (by omega)
      obtain ⟨_, _, k0⟩ := World.cells?_some h0
      have k0 := k0 0 (by omega)
      rw [Nat.zero_mul] at k0
      obtain ⟨g, c, s⟩ := a
      have k0' : W.cell? ((⟨g, c, s⟩ : Addr).add 0) = some (.int .i64 (os 0).kind) := by simpa [add_add] using k0
      obtain rfl : s = none := ar_spot_none k0'
      refine .inr ⟨g, c, rfl, ar_cell_lt k0', fun j o hj => ?_⟩
      have hjl := (List.getElem?_eq_some_iff.1 hj).1
      rw [hlen] at hjl
      rw [List.getElem?_map, List.getElem?_range hjl] at hj
      obtain rfl := Option.some.inj hj
      obtain ⟨lv, h1, h2, _⟩ := hos j (by omega)
      obtain ⟨_, _, kc⟩ := World.cells?_some h1
      have kk : ∀ i v, i < 3 → [Value.int .i64 (os j).kind, .int .i64 (os j).a, lv][i]? = some v → W.cell? ⟨g, c + j * 3 + i, none⟩ = some v := fun i v hi hv => by
        have := kc i hi
        rw [add_add, add_plain] at this
        rw [Nat.add_assoc, this]
        exact hv
      exact ⟨lv, kk 0 _ (by omega) rfl, kk 1 _ (by omega) rfl, kk 2 _ (by omega) rfl, h2⟩
theorem ar_lists_of {fuel : Nat} {cs : List Value} {x : DataW H × List MemPlace} (h : DataW.trod enc Tryd.prog W 0 (fun _ => true) true fuel 26 cs = some x) :
    ∃ v l, cs = [v] ∧ ListsAt W v l ∧ ListsLen l := by
  rcases open_slice Tryd.underlying26 h with ⟨rfl, _⟩ | ⟨a, len, cap, m, n, D, Pl, rfl, _, hl, hm, hmm, _, hx⟩
  · exact ⟨_, [], rfl, ⟨none, 0, rfl, .inl rfl⟩, by simp, fun o ho => by cases ho⟩
  · have hlm : len ≤ m := by rw [hmm]; simp; exact hl
    rw [cells34] at hx
    obtain ⟨os, hos⟩ := choose_lt (α := List CallP) (p := fun i cl => ∃ cv, W.cells? 0 (a.add (i * 1)) 1 = some [cv] ∧ CallsAt W cv cl ∧ CallsLen cl) (fun i hi => by
      obtain ⟨cs', h1, h2⟩ := hx i hi
      obtain ⟨v, cl, rfl, h3, h4⟩ := ar_calls_of h2
      exact ⟨cl, v, h1, h3, h4⟩)
    have hlen : ((List.range len).map os).length = len := by simp
    refine ⟨_, (List.range len).map os, rfl, ⟨some a, cap, by rw [hlen], ?_⟩, by rw [hlen]; unfold maxLen at hm; omega, fun o ho => by
      obtain ⟨i, hi, rfl⟩ := List.mem_map.1 ho
      obtain ⟨_, _, _, h⟩ := hos i (by have := List.mem_range.1 hi; omega)
      exact h⟩
    rcases Nat.eq_zero_or_pos len with rfl | hpos
    · exact .inl (by simp)
    · obtain ⟨cv0, h0, _, _⟩ := hos 0 (by omega)
      obtain ⟨_, _, k0⟩ := World.cells?_some h0
      have k0 := k0 0 (by omega)
      rw [Nat.zero_mul] at k0
      obtain ⟨g, c, s⟩ := a
      have k0' : W.cell? ((⟨g, c, s⟩ : Addr).add 0) = some cv0 := by simpa [add_add] using k0
      obtain rfl : s = none := ar_spot_none k0'
      refine .inr ⟨g, c, rfl, ar_cell_lt k0', fun j o hj => ?_⟩
      have hjl := (List.getElem?_eq_some_iff.1 hj).1
      rw [hlen] at hjl
      rw [List.getElem?_map, List.getElem?_range hjl] at hj
      obtain rfl := Option.some.inj hj
      obtain ⟨cv, h1, h2, _⟩ := hos j (by omega)
      obtain ⟨_, _, kc⟩ := World.cells?_some h1
      have := kc 0 (by omega)
      rw [add_add, add_plain] at this
      exact ⟨cv, by simpa using this, h2⟩
set_option maxRecDepth 100000 in
theorem ar_setup_of {fuel : Nat} {cs : List Value} {x : DataW H × List MemPlace} (h : DataW.trod enc Tryd.prog W 0 (fun _ => true) true fuel 25 cs = some x) :
    ∃ (p t : Int) (ad : Option Addr) (n c : Nat), cs = [.int .i64 p, .int .i64 t, .slice ad n c] := by
  obtain ⟨xs, n, _, _, hl, hxl, hf⟩ := DataW.trod_struct Tryd.underlying25 h
  have hl : cs.length = 3 := hl.trans (by kernel_rfl)
  have hxl : xs.length = 3 := hxl
  match cs, hl with
  | [v0, v1, v2], _ =>
    have g0 := hf 0 _ rfl
    have g1 := hf 1 _ rfl
    have g2 := hf 2 _ rfl
    have sm : ∀ i, i < 3 → xs[i]?.isSome := fun i hi => by rw [List.getElem?_eq_getElem (by omega)]; rfl
    obtain ⟨z0, e0, _⟩ := ar_one_int g0 (sm 0 (by omega))
    obtain ⟨z1, e1, _⟩ := ar_one_int g1 (sm 1 (by omega))
    obtain ⟨y2, s2⟩ := Option.isSome_iff_exists.1 (sm 2 (by omega))
    rw [s2] at g2
    simp [cells3'] at e0 e1
    subst e0 e1
    rcases open_slice Tryd.underlying23 g2 with ⟨e2, _⟩ | ⟨a, len, cap, m, n, D, Pl, e2, _⟩
    · simp [cells23] at e2
      exact ⟨z0, z1, none, 0, 0, by rw [e2]⟩
    · simp [cells23] at e2
      exact ⟨z0, z1, some a, len, cap, by rw [e2]⟩
end Go.Proofs.YtkdigojjeiidmaaDoor
