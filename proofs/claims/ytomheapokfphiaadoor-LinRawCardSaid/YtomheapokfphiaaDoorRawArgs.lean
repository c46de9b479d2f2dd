/-
  Arguments: a list of numbers, and a list of calls, that came in, as they lie.
-/
import Derived.Test.YtomheapokfphiaaDoorRawMem
import Derived.Test.YtomheapokfphiaaDoorFrame
import Derived.Deep.Slices
namespace Go.Proofs.YtomheapokfphiaaDoor
open Go Go.RowKit Go.Shelf Go.ChangeShapes Go.WideShapes Go.Deep

theorem ar_spot_none {W : World} {b o : Nat} {s : Option Nat} {v : Value} (h : W.cell? ((⟨b, o, s⟩ : Addr).add 0) = some v) : s = none := by
  cases s with
  | none => rfl
  | some s =>
    unfold Addr.add World.cell? at h
    simp at h
    split at h <;> simp at h
theorem ar_cell_lt {W : World} {a : Addr} {v : Value} (h : W.cell? a = some v) : a.block < W.heap.size := by
  rcases Nat.lt_or_ge a.block W.heap.size with k | k
  · exact k
  · simp [World.cell?, Array.getElem?_eq_none k] at h
theorem ar_wf64 {n : Int} (h : (Lit.int .i64 n).wf = true) : in64 n := bounds_i64 h

variable {H : Type} {enc : TypeId × Value → H} {W : World}
theorem ar_ints_of {fuel : Nat} {cs : List Value} {x : DataW H × List MemPlace} (h : DataW.trod enc Tryd.prog W 0 (fun _ => true) true fuel 41 cs = some x) :
    ∃ v L, cs = [v] ∧ IntsAt W v L ∧ ∀ a ∈ L, in64 a := by
  rcases open_ints Tryd.underlying41 Tryd.underlying3 (by kernel_rfl) h with ⟨rfl, _⟩ | ⟨a, len, cap, zs, rfl, _, hl, hm, hz, _, hcell, hwz⟩
  · exact ⟨_, [], rfl, intsAt_nil W, fun a h => by cases h⟩
  · have hz : zs.length = cap := by simpa using hz
    refine ⟨_, zs.take len, rfl, ⟨some a, cap, by rw [List.length_take, Nat.min_eq_left (by omega)], ?_⟩, fun a ha => ar_wf64 (hwz a (List.mem_of_mem_take ha))⟩
    rcases Nat.eq_zero_or_pos len with rfl | hpos
    · exact .inl (by simp)
    · have h0 := hcell 0 (by omega)
      obtain ⟨g, c, s⟩ := a
      obtain rfl : s = none := ar_spot_none h0
      refine .inr ⟨g, c, rfl, ar_cell_lt h0, fun j y hj => ?_, by rw [List.length_take]; omega⟩
      have hjl := (List.getElem?_eq_some_iff.1 hj).1
      rw [List.length_take] at hjl
      have := hcell j (by omega)
      rw [add_plain] at this
      rw [this]
      rw [List.getElem?_take_of_lt (by omega)] at hj
      rw [List.getD_eq_getElem?_getD, hj]
      rfl

theorem ar_one_int {n : Nat} {c : List Value} {y : Option (DataW H × List MemPlace)} (h : DataW.trod enc Tryd.prog W 0 (fun _ => true) true n 3 c = y) (hy : y.isSome) : ∃ z, c = [.int .i64 z] ∧ in64 z := by
  obtain ⟨y', rfl⟩ := Option.isSome_iff_exists.1 hy
  obtain ⟨z, e, _, hz⟩ := DataW.trod_int Tryd.underlying3 h
  exact ⟨z, e, ar_wf64 hz⟩
theorem ar_one_code {n : Nat} {c : List Value} {y : Option (DataW H × List MemPlace)} (h : DataW.trod enc Tryd.prog W 0 (fun _ => true) true n 48 c = y) (hy : y.isSome) : ∃ z, c = [.int .i64 z] ∧ in64 z := by
  obtain ⟨y', rfl⟩ := Option.isSome_iff_exists.1 hy
  obtain ⟨z, e, _, hz⟩ := DataW.trod_int Tryd.underlying48 h
  exact ⟨z, e, ar_wf64 hz⟩

theorem ar_op_of {fuel : Nat} {cs : List Value} {x : DataW H × List MemPlace} (h : DataW.trod enc Tryd.prog W 0 (fun _ => true) true fuel 50 cs = some x) :
    ∃ (o : OpP) (lv : Value), cs = [.int .i64 o.kind, .int .i64 o.size, .int .i64 o.at_, .int .i64 o.code, lv, .int .i64 o.b, .int .i64 o.e] ∧ IntsAt W lv o.L ∧ o.fits := by
  obtain ⟨xs, n, _, _, hl, hxl, hf⟩ := DataW.trod_struct Tryd.underlying50 h
  have hl : cs.length = 7 := hl.trans (by kernel_rfl)
  have hxl : xs.length = 7 := hxl
  match cs, hl with
  | [v0, v1, v2, v3, v4, v5, v6], _ =>
    have g0 := hf 0 _ rfl
    have g1 := hf 1 _ rfl
    have g2 := hf 2 _ rfl
    have g3 := hf 3 _ rfl
    have g4 := hf 4 _ rfl
    have g5 := hf 5 _ rfl
    have g6 := hf 6 _ rfl
    have sm : ∀ i, i < 7 → xs[i]?.isSome := fun i hi => by rw [List.getElem?_eq_getElem (by omega)]; rfl
    obtain ⟨z0, e0, w0⟩ := ar_one_int g0 (sm 0 (by omega))
    obtain ⟨z1, e1, w1⟩ := ar_one_int g1 (sm 1 (by omega))
    obtain ⟨z2, e2, w2⟩ := ar_one_int g2 (sm 2 (by omega))
    obtain ⟨z3, e3, w3⟩ := ar_one_code g3 (sm 3 (by omega))
    obtain ⟨z5, e5, w5⟩ := ar_one_int g5 (sm 5 (by omega))
    obtain ⟨z6, e6, w6⟩ := ar_one_int g6 (sm 6 (by omega))
    obtain ⟨y4, s4⟩ := Option.isSome_iff_exists.1 (sm 4 (by omega))
    rw [s4] at g4
    obtain ⟨lv, L, e4, h4, w4⟩ := ar_ints_of g4
    have c3 : Tryd.prog.cellsOf 3 = 1 := cells3
    have c48 : Tryd.prog.cellsOf 48 = 1 := by kernel_rfl
    have c41 : Tryd.prog.cellsOf 41 = 1 := by kernel_rfl
    simp [c3, c48, c41] at e0 e1 e2 e3 e4 e5 e6
    subst e0 e1 e2 e3 e4 e5 e6
    exact ⟨⟨z0, z1, z2, z3, L, z5, z6⟩, _, rfl, h4, w0, w1, w2, w3, w4, w5, w6⟩

instance : Inhabited OpP := ⟨⟨0, 0, 0, 0, [], 0, 0⟩⟩
theorem ar_ops_of {fuel : Nat} {cs : List Value} {x : DataW H × List MemPlace} (h : DataW.trod enc Tryd.prog W 0 (fun _ => true) true fuel 39 cs = some x) :
    ∃ v l, cs = [v] ∧ OpsAt W v l ∧ ∀ i, i < l.length → (opAt l i).fits := by
  have c50 : Tryd.prog.cellsOf 50 = 7 := by kernel_rfl
  rcases open_slice Tryd.underlying39 h with ⟨rfl, _⟩ | ⟨a, len, cap, m, n, D, Pl, rfl, _, hl, hm, hmm, _, hx⟩
  · exact ⟨_, [], rfl, ⟨none, 0, rfl, .inl rfl⟩, fun i hi => by simp at hi⟩
  · have hlm : len ≤ m := by rw [hmm]; simp; exact hl
    rw [c50] at hx
    obtain ⟨os, hos⟩ := choose_lt (α := OpP) (p := fun i o => ∃ lv, W.cells? 0 (a.add (i * 7)) 7 = some [.int .i64 o.kind, .int .i64 o.size, .int .i64 o.at_, .int .i64 o.code, lv, .int .i64 o.b, .int .i64 o.e] ∧ IntsAt W lv o.L ∧ o.fits) (fun i hi => by
      obtain ⟨cs', h1, h2⟩ := hx i hi
      obtain ⟨o, lv, rfl, h3, h4⟩ := ar_op_of h2
      exact ⟨o, lv, h1, h3, h4⟩)
    have hlen : ((List.range len).map os).length = len := by simp
    have hget : ∀ i, i < len → opAt ((List.range len).map os) i = os i := fun i hi => by
      unfold opAt
      rw [List.getD_eq_getElem?_getD, List.getElem?_map, List.getElem?_range hi]
      rfl
    refine ⟨_, (List.range len).map os, rfl, ⟨some a, cap, by rw [hlen], ?_⟩, fun i hi => by
      rw [hlen] at hi
      rw [hget i hi]
      obtain ⟨_, _, _, h⟩ := hos i (by omega)
      exact h⟩
    rcases Nat.eq_zero_or_pos len with rfl | hpos
    · exact .inl (by simp)
    · obtain ⟨_, h0, _, _⟩ := hos 0 (by omega)
      obtain ⟨_, _, k0⟩ := World.cells?_some h0
      have k0 := k0 0 (by omega)
      rw [Nat.zero_mul] at k0
      obtain ⟨g, c, s⟩ := a
      have k0' : W.cell? ((⟨g, c, s⟩ : Addr).add 0) = some (.int .i64 (os 0).kind) := by simpa [add_add] using k0
      obtain rfl : s = none := ar_spot_none k0'
      refine .inr ⟨g, c, rfl, ar_cell_lt k0', fun j o hj => ?_⟩
      have hjl := (List.getElem?_eq_some_iff.1 hj).1
      rw [hlen] at hjl
      rw [List.getElem?_map, List.getElem?_range hjl] at hj
      obtain rfl := Option.some.inj hj
      obtain ⟨lv, h1, h2, _⟩ := hos j (by omega)
      obtain ⟨_, _, kc⟩ := World.cells?_some h1
      have kk : ∀ i v, i < 7 → [Value.int .i64 (os j).kind, .int .i64 (os j).size, .int .i64 (os j).at_, .int .i64 (os j).code, lv, .int .i64 (os j).b, .int .i64 (os j).e][i]? = some v → W.cell? ⟨g, c + j * 7 + i, none⟩ = some v := fun i v hi hv => by
        have := kc i hi
        rw [add_add, add_plain] at this
        rw [Nat.add_assoc, this]
        exact hv
      exact ⟨lv, h2, kk 0 _ (by omega) rfl, kk 1 _ (by omega) rfl, kk 2 _ (by omega) rfl, kk 3 _ (by omega) rfl, kk 4 _ (by omega) rfl, kk 5 _ (by omega) rfl, kk 6 _ (by omega) rfl⟩
end Go.Proofs.YtomheapokfphiaaDoor
