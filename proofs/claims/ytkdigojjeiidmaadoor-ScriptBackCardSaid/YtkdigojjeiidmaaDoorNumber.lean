/-
  The document's number: its contract.
-/
import Derived.Test.YtkdigojjeiidmaaDoorRefReadPlain
import Derived.Laws.DeepStrings4
namespace Go.Proofs.YtkdigojjeiidmaaDoor
open Go Go.RowKit Go.Shelf

/-- A byte as a number. -/
def bN (l : List UInt8) (k : Nat) : Int := ((l.getD k 0).toNat : Int)
theorem bN_get {l : List UInt8} {k : Nat} (h : k < l.length) : bN l k = (l[k].toNat : Int) := by
  unfold bN
  rw [List.getD_eq_getElem?_getD, List.getElem?_eq_getElem h]
  rfl
/-- What a walk needs of a string. -/
structure StrIs (s : ByteArray) (l : List UInt8) : Prop where
  size : s.size = l.length
  get : ∀ (n : Nat) (h : n < s.size), ((s[n]'h).toNat : Int) = bN l n
  ext : ∀ a b, b ≤ l.length → s.extract a b = ⟨((l.take b).drop a).toArray⟩
theorem strIs (l : List UInt8) : StrIs ⟨l.toArray⟩ l where
  size := size_of_list l
  get n h := by
    have hl : n < l.length := by rwa [size_of_list] at h
    rw [bN_get hl]
    rfl
  ext a b hb := by
    rw [ByteArray.extract_mk]
    congr 1
    simp [List.drop_take]
theorem u64_wrap_of (n : Nat) (h : n < 18446744073709551616) : IntKind.u64.wrap (n : Int) = n := by
  rw [IntKind.wrap_u64]; omega
theorem i64_wrap_of (n : Nat) (h : n < 9223372036854775808) : IntKind.i64.wrap (n : Int) = n := by
  rw [IntKind.wrap_i64]; omega
theorem u8_wrap_of (n : Nat) (h : n < 256) : IntKind.u8.wrap (n : Int) = n := by
  rw [IntKind.wrap_u8]; omega

/-- What the first test tells. -/
def NumFirst (l : List UInt8) (n : Nat) (bad : Bool) : Prop := if bad = true then ¬ NumOk l else (1 ≤ n ∧ n ≤ 19) ∧ (1 < l.length → l.head? ≠ some 48)
set_option maxRecDepth 8000 in
set_option maxHeartbeats 1600000 in
theorem number_any (l : List UInt8) (hl : l.length ≤ 2097152) (w : World) :
    Calls Tryd.prog 42 #[.string ⟨l.toArray⟩] w fun e w' => (∃ n ok, e = .returned (.tuple #[.int .i64 n, .bool ok]) ∧ NumEnds l n ok) ∧ w = w' := by
  have hS := strIs l
  generalize (⟨l.toArray⟩ : ByteArray) = s at *
  obtain ⟨hsz, hget, _⟩ := hS
  obtain ⟨n, hn⟩ : ∃ n, l.length = n := ⟨_, rfl⟩
  rw [hn] at hsz hl
  have Hn := Lib.hid hn
  clear hn
  go_enter Tryd.func42, Tryd.ntmps42
  go_upto_region 1 with (fail)
  go_cut [23] (fun s23 wx => wx = w ∧ ∃ bad, s23 = .bool bad ∧ NumFirst l n bad)
  case first =>
    by_cases h0 : n = 0
    · subst h0
      have e : NumFirst l 0 true := show ¬ NumOk l from fun h => by have := h.1; rw [Hn.out] at this; omega
      go_wp2
      go_meet
      exact ⟨rfl, true, rfl, e⟩
    · have d1 : decide ((n : Int) < 1) = false := decide_eq_false (by omega)
      by_cases h19 : 19 < n
      · have d19 : decide ((19 : Int) < (n : Int)) = true := decide_eq_true (by omega)
        have e : NumFirst l n true := show ¬ NumOk l from fun h => by have := h.2.1; rw [Hn.out] at this; omega
        go_wp2
        go_meet
        exact ⟨rfl, true, rfl, e⟩
      · have d19 : decide ((19 : Int) < (n : Int)) = false := decide_eq_false (by omega)
        by_cases h1 : n = 1
        · subst h1
          have e : NumFirst l 1 false := show (1 ≤ 1 ∧ 1 ≤ 19) ∧ (1 < l.length → l.head? ≠ some 48) from ⟨⟨by omega, by omega⟩, fun h => by rw [Hn.out] at h; omega⟩
          go_wp2
          go_meet
          exact ⟨rfl, false, rfl, e⟩
        · have d2 : decide ((1 : Int) < (n : Int)) = true := decide_eq_true (by omega)
          have hpos : 0 < n := by omega
          have hhd : l.head? = some 48 ↔ bN l 0 = 48 := by
            have hlen := Hn.out
            cases l with
            | nil => simp at hlen; omega
            | cons b r =>
              simp only [List.head?_cons, bN, List.getD_cons_zero, Option.some.injEq]
              constructor
              · rintro rfl; rfl
              · intro h
                apply UInt8.toNat_inj.1
                show b.toNat = 48
                omega
          by_cases hb : bN l 0 = 48
          · have e : NumFirst l n true := show ¬ NumOk l from fun h => h.2.2.1 (by rw [Hn.out]; omega) (hhd.2 hb)
            clear hhd
            go_wp2
            go_meet
            exact ⟨rfl, true, rfl, e⟩
          · have tb : (bN l 0 == 48) = false := by simpa using hb
            have e : NumFirst l n false := show (1 ≤ n ∧ n ≤ 19) ∧ (1 < l.length → l.head? ≠ some 48) from ⟨⟨by omega, by omega⟩, fun _ h => hb (hhd.1 h)⟩
            clear hhd hb
            go_wp2
            go_meet
            exact ⟨rfl, false, rfl, e⟩
  case rest =>
    obtain ⟨rfl, bad, rfl, hbad⟩ := hcut
    cases bad with
    | true =>
      have hno : ¬ NumOk l := hbad
      have He := Lib.hid (numEnds_no hno 0)
      clear hbad hno
      go_wp2
      refine bodyPost_ret (by simp [results, Tryd.results42, go_sem]) rfl ⟨⟨0, false, rfl, He.out⟩, rfl⟩
    | false =>
      obtain ⟨⟨hn1, hn2⟩, hhd⟩ : (1 ≤ n ∧ n ≤ 19) ∧ (1 < l.length → l.head? ≠ some 48) := hbad
      have Hhd := Lib.hid hhd
      clear hhd
      go_wp2_with fail
      go_loopw [4, 5] (fun v i wr => ∃ k : Nat, k ≤ n ∧ i = .int .i64 k ∧ v = .int .u64 (valD (l.take k) : Nat) ∧ Hid (AllDig (l.take k)) ∧ wr = wc) (fun _ i _ => n - (intOf i).toNat)
      case atStart => exact ⟨0, by omega, rfl, rfl, Lib.hid (by rw [List.take_zero]; intro b hb; cases hb), rfl⟩
      case round =>
        obtain ⟨k, hk, rfl, rfl, hdig, rfl⟩ := hrel
        by_cases hlt : k < n
        · have hki : (k : Int) < n := by omega
          have hkl : k < l.length := by rw [Hn.out]; exact hlt
          have hb := bN_get hkl
          have hsn := List.take_succ_eq_append_getElem hkl
          by_cases h48 : l[k].toNat < 48
          · have t1 : decide (bN l k < 48) = true := decide_eq_true (by omega)
            have hno : ¬ NumOk l := fun h => by have := (h.2.2.2 l[k] (List.getElem_mem hkl)).1; omega
            have He := Lib.hid (numEnds_no hno 0)
            clear hno hb hsn h48
            go_wp2
            refine bodyPost_ret (by simp [results, Tryd.results42, go_sem]) rfl ⟨⟨0, false, rfl, He.out⟩, rfl⟩
          · have t1 : decide (bN l k < 48) = false := decide_eq_false (by omega)
            by_cases h57 : 57 < l[k].toNat
            · have t2 : decide (57 < bN l k) = true := decide_eq_true (by omega)
              have hno : ¬ NumOk l := fun h => by have := (h.2.2.2 l[k] (List.getElem_mem hkl)).2; omega
              have He := Lib.hid (numEnds_no hno 0)
              clear hno hb hsn h48
              go_wp2
              refine bodyPost_ret (by simp [results, Tryd.results42, go_sem]) rfl ⟨⟨0, false, rfl, He.out⟩, rfl⟩
            · have t2 : decide (57 < bN l k) = false := decide_eq_false (by omega)
              have hnd : AllDig (l.take (k + 1)) := by
                rw [hsn]
                intro b hbm
                rcases List.mem_append.1 hbm with h | h
                · exact hdig.out b h
                · obtain rfl := List.mem_singleton.1 h
                  omega
              have hval := val_snoc (l.take k) l[k]
              obtain ⟨u, hu⟩ : ∃ u, valD (l.take (k + 1)) = u := ⟨_, rfl⟩
              have Hu := Lib.hid hu
              rw [← hsn, hu] at hval
              have hbig := val_small (w := l.take (k + 1)) (by rw [List.length_take]; omega) hnd
              have Hnd := Lib.hid hnd
              rw [hu] at hbig
              clear hu
              generalize valD (l.take k) = v at *
              obtain ⟨d, hd⟩ : ∃ d, l[k].toNat - 48 = d := ⟨_, rfl⟩
              obtain ⟨t, ht⟩ : ∃ t : Nat, 10 * v = t := ⟨_, rfl⟩
              have w1 : IntKind.u8.wrap (bN l k - 48) = (d : Int) := by
                rw [show bN l k - 48 = (d : Int) by omega]
                exact u8_wrap_of d (by omega)
              have w2 : IntKind.u64.wrap (10 * (v : Int)) = (t : Int) := by
                rw [show 10 * (v : Int) = (t : Int) by omega]
                exact u64_wrap_of t (by omega)
              have w3 : IntKind.u64.wrap ((t : Int) + (d : Int)) = (u : Int) := by
                rw [show (t : Int) + (d : Int) = (u : Int) by omega]
                exact u64_wrap_of u (by omega)
              have w4 : IntKind.u64.wrap (d : Int) = (d : Int) := u64_wrap_of d (by omega)
              clear hb hsn h48 h57 hnd hval hd ht hdig
              go_wp2_with fail
              go_roundw
              case rel => exact ⟨k + 1, by omega, by go_num, by rw [Hu.out], Hnd.out, trivial⟩
              case measure => simp [intOf]; omega
        · obtain rfl : k = n := by omega
          have hall : l.take k = l := List.take_of_length_le (by rw [Hn.out]; exact Nat.le_refl _)
          rw [hall] at hdig ⊢
          have hnum : NumOk l := ⟨by rw [Hn.out]; exact hn1, by rw [Hn.out]; exact hn2, Hhd.out, hdig.out⟩
          have Hyes := Lib.hid (fun h => numEnds_yes hnum h)
          have Hbig := Lib.hid (fun h => numEnds_big (w := l) h)
          have hlim := val_small (by rw [Hn.out]; exact hn2) hdig.out
          clear hall hdig hnum
          generalize valD l = v at *
          by_cases hv : v < 9223372036854775808
          · have d1 : decide ((v : Int) < 9223372036854775808) = true := decide_eq_true (by omega)
            have w1 : IntKind.i64.wrap (v : Int) = v := i64_wrap_of v hv
            have He := Lib.hid (Hyes.out hv)
            clear hlim
            go_wp2
            refine bodyPost_ret (by simp [results, Tryd.results42, go_sem]) rfl ⟨⟨_, true, rfl, He.out⟩, rfl⟩
          · have d1 : decide ((v : Int) < 9223372036854775808) = false := decide_eq_false (by omega)
            have He := Lib.hid (Hbig.out (by omega))
            clear hlim
            go_wp2
            refine bodyPost_ret (by simp [results, Tryd.results42, go_sem]) rfl ⟨⟨wrap64 (v : Int), false, rfl, He.out _⟩, rfl⟩
end Go.Proofs.YtkdigojjeiidmaaDoor
