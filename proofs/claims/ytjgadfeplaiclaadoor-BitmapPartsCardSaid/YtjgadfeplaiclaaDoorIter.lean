/-
  The iterator word.set: its contract: it hands out the places of the set bits, one by one.
-/
import Derived.Test.YtjgadfeplaiclaaDoorWord
import Derived.Test.YtjgadfeplaiclaaDoorRange
import Derived.RangeFuncNested
import Derived.Shelf.RegionOpen
import Derived.OwnWalkIn
import Derived.TacticsInMore
import Derived.LoopNIn
import Derived.LoopIn
import Derived.Outline
namespace Go.Proofs.YtjgadfeplaiclaaDoor
open Go Go.RowKit Go.Shelf
attribute [local go_sem] Oper.semAt_some

/-- The table of math/bits lies in block 0. -/
structure TabB (w : World) : Prop where
  cell : ∀ j : Nat, j < 64 → w.cell? ⟨0, j, none⟩ = some (.int .u8 (Lib.deBruijn64tab.getD j 0 : Nat))
theorem TabB.kept {w w' : World} (h : TabB w) (hk : w'.heap[0]? = w.heap[0]?) : TabB w' := ⟨fun j hj => (World.cell?_of_block (a := ⟨0, j, none⟩) hk).trans (h.cell j hj)⟩

theorem tz_key (x a : Nat) (hx : x < 18446744073709551616) (hx0 : x ≠ 0) (hlow : x &&& (18446744073709551616 - x) = a) :
    IntKind.u64.wrap (bits .and .u64 (x : Int) (IntKind.u64.wrap (-(x : Int))) * 285870213051353865) / 288230376151711744 = ((a * 285870213051353865 % 18446744073709551616 / 288230376151711744 : Nat) : Int) := by
  have e1 : IntKind.u64.wrap (-(x : Int)) = ((18446744073709551616 - x : Nat) : Int) := by rw [IntKind.wrap_u64]; omega
  rw [e1, u64_and_nat x _ hx (by omega), hlow, IntKind.wrap_u64]
  omega

set_option maxHeartbeats 400000 in
theorem tz_core (x k idx : Nat) (w : World) (hx0 : ((x : Int) == 0) = false)
    (key : IntKind.u64.wrap (bits .and .u64 (x : Int) (IntKind.u64.wrap (-(x : Int))) * 285870213051353865) / 288230376151711744 = (idx : Int))
    (hi : idx < 64) (hk : k < 64) (hcell : w.cell? ⟨0, idx, none⟩ = some (.int .u8 k)) :
    Calls Tryd.prog 44 #[.int .u64 x] w fun e w' => e = .returned (.int .i64 k) ∧ w = w' := by
  go_enter Tryd.func44, Tryd.ntmps44
  go_wp2_with (simp only [key])
  go_ret
  exact ⟨rfl, rfl⟩

theorem tz_any (x : Nat) (hx : x < 18446744073709551616) (hx0 : x ≠ 0) (w : World) (hT : TabB w) : Calls Tryd.prog 44 #[.int .u64 x] w fun e w' => e = .returned (.int .i64 (Lib.ctz 64 x)) ∧ w = w' := by
  obtain ⟨hlow, hk⟩ := Lib.lowest_bit 64 x hx0 hx
  obtain ⟨hi, htab⟩ := Lib.deBruijn64_at _ hk
  have hcell := hT.cell _ hi
  rw [htab] at hcell
  exact tz_core x _ _ w (by simp; omega) (tz_key x _ hx hx0 hlow) hi hk hcell

/-- What a word's cell holds. -/
def cellN (w : World) (B : Nat) : Nat := match w.cell? ⟨B, 0, none⟩ with
  | some (.int _ v) => v.toNat
  | _ => 0

theorem grown_setCell (W : World) (B o : Nat) (v : Value) : W.grownBy (W.setCell ⟨B, o, none⟩ v) (some B) :=
  ⟨rfl, rfl, rfl, by show W.heap.size ≤ (W.heap.modify _ _).size; rw [Array.size_modify]; exact Nat.le_refl _, fun i _ hne => Below.heap_setCell W _ v i (fun e => hne (by rw [e]))⟩

set_option maxHeartbeats 1000000 in
theorem set_gives (n : Nat) (x : Nat) (hx : x < 18446744073709551616) (w : World) (B : Nat) (hB : B ≠ 0) (hT : TabB w) (hc : w.cell? ⟨B, 0, none⟩ = some (.int .u64 x)) (hf : w.frozen? ⟨B, 0, none⟩ = false) :
    Gives Tryd.prog n 43 #[.pointer (some ⟨B, 0, none⟩)] (fun p : Nat => #[.int .i64 p]) B [0, B] (places x) w := by
  intro l J Jx W hW hsz hJ hJx hY h0
  refine callsIn_of_wp Tryd.func43 rfl trivial ?_ rfl
  simp only [Tryd.ntmps43, List.size_toArray, List.length_cons, List.length_nil, Nat.reduceAdd, Nat.reduceSub, Array.replicate_succ, Array.replicate_zero, List.push_toArray, List.append_toArray, List.nil_append, List.cons_append]
  gi_wp2
  have hTW := hT.kept (hW 0 (by simp))
  have hcW : W.cell? ⟨B, 0, none⟩ = some (.int .u64 x) := (World.cell?_of_block (a := ⟨B, 0, none⟩) (hW B (by simp))).trans hc
  have hfW : W.frozen? ⟨B, 0, none⟩ = false := (World.frozen?_of_block (a := ⟨B, 0, none⟩) (hW B (by simp))).trans hf
  clear hc hf hT hW
  gi_loopw [] (fun wr => ∃ k, k ≤ (places x).length ∧ J k wr ∧ TabB wr ∧ wr.cell? ⟨B, 0, none⟩ = some (.int .u64 (clr k x)) ∧ wr.frozen? ⟨B, 0, none⟩ = false) (fun wr => (places (cellN wr B)).length)
  case atStart => exact ⟨0, Nat.zero_le _, h0, hTW, hcW, hfW⟩
  case round =>
    obtain ⟨k, hk, hj, hTr, hcr, hfr⟩ := hrel
    have hlv := clr_lt hx k
    obtain ⟨hz, hhd⟩ := clr_head hx k
    have hcl : low0 (clr k x) = clr (k + 1) x := rfl
    have hpl := places_clr hx k
    obtain ⟨v, hv⟩ : ∃ v, clr k x = v := ⟨_, rfl⟩
    rw [hv] at hcr hlv hz hhd hcl hpl
    by_cases hlt : k < (places x).length
    · obtain ⟨hne, hp⟩ := hhd hlt
      obtain ⟨fn, tmps, assign, body, hy, hR⟩ := hY k (Lib.ctz 64 v) wr (by rw [List.getElem?_eq_getElem hlt, hp]) hj
      have hnb : ((v : Int) != 0) = true := by simp; omega
      have h1 : IntKind.u64.wrap ((v : Int) - 1) = ((v - 1 : Nat) : Int) := by rw [IntKind.wrap_u64]; omega
      have h2 : bits .and .u64 (v : Int) ((v - 1 : Nat) : Int) = (low0 v : Int) := u64_and_nat v (v - 1) hlv (by omega)
      have Hcl := Lib.hid hcl
      have Hpl := Lib.hid hpl
      have Hz := Lib.hid hz
      clear hp hcl hz hhd hv hpl
      gi_wp2_with fail
      refine ⟨trivial, (fun h => by cases h), ?_⟩
      refine (callsIn_wide.2 (tz_any v hlv hne _ hTr)).mono ?_
      rintro e w' ⟨rfl, rfl⟩
      gi_wp2
      refine ⟨(fun h => by cases h), ?_⟩
      refine hR.mono ?_
      rintro e W3 (⟨rfl, hJ3, hk3⟩ | ⟨rfl, hJx3⟩)
      · have hT3 := hTr.kept (hk3 0 (by simp))
        have hc3 : W3.cell? ⟨B, 0, none⟩ = some (.int .u64 v) := (World.cell?_of_block (a := ⟨B, 0, none⟩) (hk3 B (by simp))).trans hcr
        have hf3 : W3.frozen? ⟨B, 0, none⟩ = false := (World.frozen?_of_block (a := ⟨B, 0, none⟩) (hk3 B (by simp))).trans hfr
        gi_wp2
        go_roundw
        case rel =>
          refine ⟨k + 1, by omega, hJ _ _ _ hJ3 (grown_setCell W3 B 0 _), hT3.kept (Below.heap_setCell W3 _ _ 0 (fun e => hB e.symm)), ?_, (World.frozen?_setCell ..).trans hf3⟩
          rw [← Hcl.out]
          exact World.cell?_setCell_same' _ _ _ (by rw [hc3]; rfl)
        case measure =>
          have m1 : cellN wr B = v := by simp [cellN, hcr]
          have m2 : cellN (W3.setCell ⟨B, 0, none⟩ (.int .u64 (low0 v))) B = low0 v := by
            have : (W3.setCell ⟨B, 0, none⟩ (.int .u64 (low0 v))).cell? ⟨B, 0, none⟩ = some (.int .u64 (low0 v)) := World.cell?_setCell_same' _ _ _ (by rw [hc3]; rfl)
            simp [cellN, this]
          rw [m1, m2, Hpl.out, Hcl.out, places_clr hx (k + 1)]
          simp only [List.length_drop]
          omega
      · gi_wp2
        go_end0
        exact ⟨⟨_, rfl⟩, .inr ⟨k, hlt, hJx3⟩⟩
    · have hv0 : v = 0 := hz.2 (by omega)
      subst hv0
      have hcr0 : wr.cell? ⟨B, 0, none⟩ = some (.int .u64 0) := hcr
      have hlen : (places x).length = k := by omega
      have Hl := Lib.hid hlen
      clear hcr hz hhd hcl hpl hlv hv hlt hk hlen
      gi_wp2
      refine ⟨trivial, ?_⟩
      gi_wp2
      refine ⟨fun _ h => (by cases h), ?_⟩
      gi_wp2
      go_end0
      exact ⟨⟨_, rfl⟩, .inl (by rwa [Hl.out])⟩
end Go.Proofs.YtjgadfeplaiclaaDoor
