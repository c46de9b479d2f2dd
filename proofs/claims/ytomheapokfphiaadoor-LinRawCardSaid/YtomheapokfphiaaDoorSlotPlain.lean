/-
  The plain law of package slot: where slots are. No program in sight.
-/
import Derived.Test.YtomheapokfphiaaDoorPlain
namespace Go.Proofs.YtomheapokfphiaaDoor

/-- Of any number: bytes, pages, slots of the class. -/
def slR : List Int := slT ++ [1]
def szI (c : Int) : Int := if 0 ≤ c then sz c.toNat else 0
def pgI (c : Int) : Int := if 0 ≤ c then pg c.toNat else 0
def slI (c : Int) : Int := if 0 ≤ c then slR.getD c.toNat 0 else 0
theorem szI_nat (c : Nat) : szI c = sz c := by simp [szI]
theorem pgI_nat (c : Nat) : pgI c = pg c := by simp [pgI]
theorem slI_nat (c : Nat) (h : c < 14) : slI c = sl c := by
  have : slR.getD c 0 = sl c := all14 (p := fun c => slR.getD c 0 = sl c) (by decide) c h
  simp only [slI, Int.natCast_nonneg, if_true, Int.toNat_natCast]
  exact this
theorem getD_out (l : List Int) (n : Nat) (h : l.length ≤ n) : l.getD n 0 = 0 := by
  rw [List.getD_eq_getElem?_getD, List.getElem?_eq_none h]; rfl
theorem szI_out (c : Int) (h : c < 0 ∨ 14 ≤ c) : szI c = 0 := by
  unfold szI; split
  · exact getD_out _ _ (by show 14 ≤ _; omega)
  · rfl
theorem pgI_out (c : Int) (h : c < 0 ∨ 14 ≤ c) : pgI c = 0 := by
  unfold pgI; split
  · exact getD_out _ _ (by show 14 ≤ _; omega)
  · rfl
theorem slI_out (c : Int) (h : c < 0 ∨ 15 ≤ c) : slI c = 0 := by
  unfold slI; split
  · exact getD_out _ _ (by show 15 ≤ _; omega)
  · rfl
theorem slI_large : slI 14 = 1 := by decide
theorem in_or_out (c : Int) (n : Nat) : (∃ k : Nat, c = k ∧ k < n) ∨ (c < 0 ∨ (n : Int) ≤ c) := by
  by_cases h : 0 ≤ c ∧ c < n
  · exact .inl ⟨c.toNat, by omega, by omega⟩
  · exact .inr (by omega)
theorem szI_bd (c : Int) : 0 ≤ szI c ∧ szI c ≤ 12288 := by
  rcases in_or_out c 14 with ⟨k, rfl, h⟩ | h
  · rw [szI_nat]; have := sz_bd k h; omega
  · rw [szI_out c h]; omega
theorem slI_bd (c : Int) : 0 ≤ slI c ∧ slI c ≤ 64 := by
  rcases in_or_out c 14 with ⟨k, rfl, h⟩ | h
  · rw [slI_nat k h]; have := sl_bd k h; omega
  · by_cases e : c = 14
    · subst e; decide
    · rw [slI_out c (by omega)]; omega
theorem pgI_bd (c : Int) : 0 ≤ pgI c ∧ pgI c ≤ 3 := by
  rcases in_or_out c 14 with ⟨k, rfl, h⟩ | h
  · rw [pgI_nat]; have := pg_bd k h; omega
  · rw [pgI_out c h]; omega
theorem szI_in (c : Int) (h0 : 0 ≤ c) (h1 : c < 14) : 128 ≤ szI c ∧ 1 ≤ pgI c ∧ 2 ≤ slI c ∧ slI c * szI c ≤ pgI c * 8192 := by
  obtain ⟨k, rfl⟩ := Int.eq_ofNat_of_zero_le h0
  have h : k < 14 := by omega
  rw [szI_nat, pgI_nat, slI_nat k h]
  exact ⟨(sz_bd k h).1, (pg_bd k h).1, (sl_bd k h).1, sl_in k h⟩
theorem slI_pos (c : Int) (h0 : 0 ≤ c) (h1 : c ≤ 14) : 1 ≤ slI c := by
  by_cases e : c = 14
  · subst e; decide
  · have := szI_in c h0 (by omega); omega
/-- A slot's beginning behind its span's: bounds. -/
theorem mul_bd (c i : Int) (h0 : 0 ≤ i) (h1 : i < slI c) : 0 ≤ i * szI c ∧ i * szI c ≤ 786432 := by
  have hz := szI_bd c
  have hl := slI_bd c
  refine ⟨Int.mul_nonneg h0 hz.1, ?_⟩
  have : i * szI c ≤ 64 * szI c := Int.mul_le_mul_of_nonneg_right (by omega) hz.1
  omega

/-- Where a slot begins. -/
structure Begins (p c i : Int) : Prop where
  p0 : 0 ≤ p
  p1 : p < 4096
  c0 : 0 ≤ c
  c1 : c ≤ 14
  i0 : 0 ≤ i
  i1 : i < slI c
theorem begins_or (p c i : Int) : Begins p c i ∨ (p < 0 ∨ 4096 ≤ p ∨ c < 0 ∨ 14 < c) ∨ ((0 ≤ p ∧ p < 4096 ∧ 0 ≤ c ∧ c ≤ 14) ∧ (i < 0 ∨ (0 ≤ i ∧ slI c ≤ i))) := by
  by_cases h : p < 0 ∨ 4096 ≤ p ∨ c < 0 ∨ 14 < c
  · exact .inr (.inl h)
  · by_cases h2 : i < 0 ∨ slI c ≤ i
    · exact .inr (.inr ⟨by omega, by omega⟩)
    · exact .inl ⟨by omega, by omega, by omega, by omega, by omega, by omega⟩
/-- What Begin tells. -/
def BegV (p c i : Int) (r : Int × Bool) : Prop := (Begins p c i ∧ r = (p * 8192 + i * szI c, true)) ∨ (¬ Begins p c i ∧ r = (0, false))
theorem beg_ex (p c i : Int) : ∃ r, BegV p c i r := by
  by_cases h : Begins p c i
  · exact ⟨_, .inl ⟨h, rfl⟩⟩
  · exact ⟨_, .inr ⟨h, rfl⟩⟩

/-- The slot k begins at the address a. -/
def At (p c a : Int) (k : Nat) : Prop := Begins p c k ∧ p * 8192 + k * szI c = a
/-- What Of tells. -/
def OfV (p c a : Int) (r : Int × Bool) : Prop :=
  (∃ k : Nat, At p c a k ∧ r = ((k : Int), true)) ∨ ((∀ k : Nat, ¬ At p c a k) ∧ r = (0, false))
theorem ofV_ex (p c a : Int) : ∃ r, OfV p c a r := by
  by_cases h : ∃ k, At p c a k
  · obtain ⟨k, h⟩ := h; exact ⟨_, .inl ⟨k, h, rfl⟩⟩
  · exact ⟨_, .inr ⟨fun k hk => h ⟨k, hk⟩, rfl⟩⟩
theorem at_one {p c a : Int} {j k : Nat} (hj : At p c a j) (hk : At p c a k) : j = k := by
  obtain ⟨bj, ej⟩ := hj
  obtain ⟨bk, ek⟩ := hk
  by_cases e : c = 14
  · subst e
    have h1 := bj.i1; have h2 := bk.i1
    rw [slI_large] at h1 h2
    omega
  · have hz := (szI_in c bj.c0 (by have := bj.c1; omega)).1
    have h : (j : Int) * szI c = k * szI c := by omega
    have := Int.eq_of_mul_eq_mul_right (by omega : szI c ≠ 0) h
    omega

/-- Slot's own way to it: in the table's classes by a division. -/
theorem at_div (p c a : Int) (hp : 0 ≤ p ∧ p < 4096) (hc : 0 ≤ c ∧ c < 14) (ha : p * 8192 ≤ a) (h1 : (a - p * 8192) % szI c = 0) (h2 : (a - p * 8192) / szI c < slI c) :
    At p c a ((a - p * 8192) / szI c).toNat := by
  have hz := (szI_in c hc.1 hc.2).1
  have h0 : 0 ≤ (a - p * 8192) / szI c := Int.ediv_nonneg (by omega) (by omega)
  have hm := Int.mul_ediv_add_emod (a - p * 8192) (szI c)
  have hcomm := Int.mul_comm (szI c) ((a - p * 8192) / szI c)
  refine ⟨⟨by omega, by omega, by omega, by omega, by omega, by omega⟩, ?_⟩
  rw [Int.toNat_of_nonneg h0]
  omega
theorem at_imp (p c a : Int) (k : Nat) (hc : c < 14) (h : At p c a k) : p * 8192 ≤ a ∧ (a - p * 8192) % szI c = 0 ∧ (a - p * 8192) / szI c = k := by
  obtain ⟨b, e⟩ := h
  have hz := (szI_in c b.c0 hc).1
  have hd : a - p * 8192 = k * szI c := by omega
  have hn : 0 ≤ (k : Int) * szI c := Int.mul_nonneg (by omega) (by omega)
  refine ⟨by omega, ?_, ?_⟩
  · rw [hd]; exact Int.mul_emod_left _ _
  · rw [hd]; exact Int.mul_ediv_cancel _ (by omega)
theorem at_large (p a : Int) (k : Nat) : At p 14 a k ↔ (0 ≤ p ∧ p < 4096) ∧ k = 0 ∧ a = p * 8192 := by
  have hz : szI 14 = 0 := by decide
  constructor
  · rintro ⟨b, e⟩
    have h1 := b.i1
    rw [slI_large] at h1
    rw [hz] at e
    exact ⟨⟨b.p0, b.p1⟩, by omega, by omega⟩
  · rintro ⟨hp, rfl, rfl⟩
    refine ⟨⟨hp.1, hp.2, by decide, by decide, by decide, by decide⟩, ?_⟩
    rw [hz]; omega

/-- Bytes are held apart. -/
def ApP (a n t m : Int) : Prop := ((0 ≤ a ∧ a ≤ 1099511627776) ∧ (0 ≤ n ∧ n ≤ 1099511627776) ∧ (0 ≤ t ∧ t ≤ 1099511627776) ∧ (0 ≤ m ∧ m ≤ 1099511627776)) ∧ (n = 0 ∨ m = 0 ∨ a + n ≤ t ∨ t + m ≤ a)
instance (a n t m : Int) : Decidable (ApP a n t m) := by unfold ApP; exact inferInstance
def apB (a n t m : Int) : Bool := decide (ApP a n t m)
/-- Bytes of a slot, or of so many pages. -/
def byI (c n : Int) : Int := if c = 14 then (if 1 ≤ n ∧ n ≤ 4096 then n * 8192 else 0) else szI c
end Go.Proofs.YtomheapokfphiaaDoor
