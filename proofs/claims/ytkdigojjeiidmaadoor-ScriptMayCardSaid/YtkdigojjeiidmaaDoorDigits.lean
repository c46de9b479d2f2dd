/-
  The contract of the document's Digits.
-/
import Derived.Test.YtkdigojjeiidmaaDoorText
import Derived.Laws.BytesArg
namespace Go.Proofs.YtkdigojjeiidmaaDoor
open Go Go.RowKit Go.Shelf

theorem digit_wrap : ∀ k : Nat, k < 10 → IntKind.u8.wrap (48 + (k : Int)) = ((48 + k : Nat) : Int) := by decide +kernel
theorem dig_long {n : Nat} (h : ¬ n < 10) : Lib.decDigits n = Lib.decDigits (n / 10) ++ [UInt8.ofNat (48 + n % 10)] := by rw [Lib.decDigits, dif_neg h]
theorem dig_short {n : Nat} (h : n < 10) : Lib.decDigits n = [UInt8.ofNat (48 + n)] := by rw [Lib.decDigits, dif_pos h]
def str (l : List UInt8) : ByteArray := ⟨l.toArray⟩
theorem str_digit (w : World) (k : Nat) : Sem.run Tryd.prog (convert 22 9 (.slice (some ⟨w.heap.size, 0, none⟩) 1 1)) (w.alloc (.cells #[.int .u8 (48 + (k : Int))] 5)) = .ok (.string ⟨#[UInt8.ofNat (48 + k)]⟩) (w.alloc (.cells #[.int .u8 (48 + (k : Int))] 5)) := by
  have h := blk_cell (World.alloc_heap_new w (.cells #[.int .u8 (48 + (k : Int))] 5)) 0
  simp at h
  have := run_convert_bytes_arg (P := Tryd.prog) (w.alloc (.cells #[.int .u8 (48 + (k : Int))] 5)) 22 5 Tryd.underlying22 Tryd.underlying5 w.heap.size 0 1 1 [48 + (k : Int)] rfl (fun i hi => by
    obtain rfl : i = 0 := by omega
    simp) 9 Tryd.underlying9
  rw [this]
  have e : ((48 : Int) + (k : Int)).toNat = 48 + k := by omega
  simp [strOfNums, e]
theorem add_str (b : UInt8) (l : List UInt8) : (ByteArray.mk #[b] ++ ByteArray.mk l.toArray) = ByteArray.mk (b :: l).toArray := by
  rw [show (#[b] : Array UInt8) = [b].toArray from rfl, str_add]
  rfl
set_option maxRecDepth 8000 in
set_option maxHeartbeats 1600000 in
theorem digits_any (n0 : Nat) (h0 : n0 ≤ 9223372036854775807) (w : World) :
    Calls Tryd.prog 31 #[.int .i64 (n0 : Nat)] w fun e w' => e = .returned (.string ⟨(Lib.itoa (n0 : Nat)).toArray⟩) ∧ Below w.heap.size w w' := by
  rw [Lib.itoa_nonneg]
  have hz := Lib.itoa_length_le (n0 : Int) (by omega) (by omega)
  rw [Lib.itoa_nonneg] at hz
  obtain ⟨res, er⟩ : ∃ res, Lib.decDigits n0 = res := ⟨_, rfl⟩
  have Er := Lib.hid er
  rw [er] at hz ⊢
  clear er
  go_enter Tryd.func31, Tryd.ntmps31
  go_wp2_with fail
  go_loopw [0, 3] (fun i s wr => ∃ (n : Nat) (l : List UInt8), n ≤ n0 ∧ i = .int .i64 (n : Nat) ∧ s = .string ⟨l.toArray⟩ ∧ Hid (Lib.decDigits n ++ l = res) ∧ Below w.heap.size w wr) (fun i _ _ => (intOf i).toNat)
  case atStart => exact ⟨n0, [], Nat.le_refl _, rfl, rfl, by rw [List.append_nil]; exact Er.out, Below.refl _ _⟩
  case round =>
    obtain ⟨n, l, hn, rfl, rfl, hl, hb⟩ := hrel
    obtain ⟨Wo, hWo⟩ : ∃ Wo, Wo = wr := ⟨_, rfl⟩
    subst hWo
    have HB := Lib.hid hb
    have hlen : l.length ≤ 21 := by have := congrArg List.length hl.out; rw [List.length_append] at this; omega
    clear hb
    by_cases h9 : 9 < n
    · have d9 : decide ((9 : Int) < (n : Int)) = true := decide_eq_true (by omega)
      have hk : n % 10 < 10 := Nat.mod_lt _ (by decide)
      have hw := digit_wrap (n % 10) hk
      have hm : (n : Int).tmod 10 = ((n % 10 : Nat) : Int) := tmod_nat n 10
      have hq : (n : Int).tdiv 10 = ((n / 10 : Nat) : Int) := by rw [Int.tdiv_eq_ediv_of_nonneg (by omega)]; rfl
      have hq9 : n / 10 ≤ 922337203685477580 := by omega
      have hlt : n / 10 < n := by omega
      have hnew := hl.out
      rw [dig_long (by omega), List.append_assoc] at hnew
      have Hnew := Lib.hid hnew
      clear hnew hl
      generalize n % 10 = k at *
      generalize n / 10 = q at *
      have hcv := str_digit Wo k
      have Hb := Lib.hid (rfl : UInt8.ofNat (48 + k) = UInt8.ofNat (48 + k))
      have hnew := Hnew.out
      clear Hb Hnew
      generalize UInt8.ofNat (48 + k) = b at *
      have Hnew := Lib.hid hnew
      clear hnew
      have HB2 := Lib.hid (HB.out.alloc HB.out.size (.cells #[.int .u8 (48 + (k : Int))] 5))
      go_wp2_with fail
      go_roundw
      case rel => exact ⟨q, b :: l, by omega, rfl, by rw [add_str], Hnew.out, HB2.out⟩
      case measure => simp [intOf]; omega
    · have d9 : decide ((9 : Int) < (n : Int)) = false := decide_eq_false (by omega)
      have hw := digit_wrap n (by omega)
      have hcv := str_digit Wo n
      have HB2 := Lib.hid (HB.out.alloc HB.out.size (.cells #[.int .u8 (48 + (n : Int))] 5))
      have hres := hl.out
      rw [dig_short (by omega)] at hres
      generalize UInt8.ofNat (48 + n) = b at *
      subst hres
      clear hl Er
      go_wp2
      go_ret
      exact ⟨ret_str (add_str _ _), HB2.out⟩
end Go.Proofs.YtkdigojjeiidmaaDoor
