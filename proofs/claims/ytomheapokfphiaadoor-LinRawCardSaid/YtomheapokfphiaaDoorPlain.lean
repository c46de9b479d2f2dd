/-
  The plain law of package class: what the table holds, which class so many bytes have. No program in sight.
-/
namespace Go.Proofs.YtomheapokfphiaaDoor

/-- Bytes of a class's slot, pages of its span. -/
def szT : List Int := [128, 192, 256, 384, 512, 768, 1024, 1536, 2048, 3072, 4096, 6144, 8192, 12288]
def pgT : List Int := [1, 1, 1, 1, 1, 1, 1, 3, 1, 3, 1, 3, 2, 3]
def slT : List Int := [64, 42, 32, 21, 16, 10, 8, 16, 4, 8, 2, 4, 2, 2]
def sz (c : Nat) : Int := szT.getD c 0
def pg (c : Nat) : Int := pgT.getD c 0
def sl (c : Nat) : Int := slT.getD c 0

theorem all14 {p : Nat → Prop} (h : p 0 ∧ p 1 ∧ p 2 ∧ p 3 ∧ p 4 ∧ p 5 ∧ p 6 ∧ p 7 ∧ p 8 ∧ p 9 ∧ p 10 ∧ p 11 ∧ p 12 ∧ p 13) (c : Nat) (hc : c < 14) : p c := by
  obtain ⟨h0, h1, h2, h3, h4, h5, h6, h7, h8, h9, h10, h11, h12, h13⟩ := h
  match c, hc with
  | 0, _ => exact h0
  | 1, _ => exact h1
  | 2, _ => exact h2
  | 3, _ => exact h3
  | 4, _ => exact h4
  | 5, _ => exact h5
  | 6, _ => exact h6
  | 7, _ => exact h7
  | 8, _ => exact h8
  | 9, _ => exact h9
  | 10, _ => exact h10
  | 11, _ => exact h11
  | 12, _ => exact h12
  | 13, _ => exact h13

theorem sz_bd (c : Nat) (hc : c < 14) : 128 ≤ sz c ∧ sz c ≤ 12288 := all14 (p := fun c => 128 ≤ sz c ∧ sz c ≤ 12288) (by decide) c hc
theorem pg_bd (c : Nat) (hc : c < 14) : 1 ≤ pg c ∧ pg c ≤ 3 := all14 (p := fun c => 1 ≤ pg c ∧ pg c ≤ 3) (by decide) c hc
theorem sl_bd (c : Nat) (hc : c < 14) : 2 ≤ sl c ∧ sl c ≤ 64 := all14 (p := fun c => 2 ≤ sl c ∧ sl c ≤ 64) (by decide) c hc
theorem sl_eq (c : Nat) (hc : c < 14) : pg c * 8192 / sz c = sl c := all14 (p := fun c => pg c * 8192 / sz c = sl c) (by decide) c hc
theorem sl_in (c : Nat) (hc : c < 14) : sl c * sz c ≤ pg c * 8192 := all14 (p := fun c => sl c * sz c ≤ pg c * 8192) (by decide) c hc
theorem sl_most (c : Nat) (hc : c < 14) : sl c < 64 → pg c * 8192 < (sl c + 1) * sz c := all14 (p := fun c => sl c < 64 → pg c * 8192 < (sl c + 1) * sz c) (by decide) c hc
theorem sz_lt (c : Nat) (hc : c + 1 < 14) : sz c < sz (c + 1) := by
  match c, hc with
  | 0, _ => decide
  | 1, _ => decide
  | 2, _ => decide
  | 3, _ => decide
  | 4, _ => decide
  | 5, _ => decide
  | 6, _ => decide
  | 7, _ => decide
  | 8, _ => decide
  | 9, _ => decide
  | 10, _ => decide
  | 11, _ => decide
  | 12, _ => decide
theorem sz_mono : ∀ (d c : Nat), c + d < 14 → sz c ≤ sz (c + d)
  | 0, _, _ => Int.le_refl _
  | d + 1, c, h => Int.le_trans (sz_mono d c (by omega)) (Int.le_of_lt (sz_lt (c + d) (by omega)))
theorem sz_le {c k : Nat} (h : c ≤ k) (hk : k < 14) : sz c ≤ sz k := by
  have := sz_mono (k - c) c (by omega)
  rwa [show c + (k - c) = k by omega] at this

/-- So many bytes are of this class of the table. -/
structure InClass (s : Int) (c : Nat) : Prop where
  lt : c < 14
  fits : s ≤ sz c
  least : ∀ k, k < c → sz k < s
  nat : 0 ≤ s

theorem three (s : Int) : s < 0 ∨ (∃ c, InClass s c) ∨ 12288 < s := by
  by_cases h0 : s < 0
  · exact .inl h0
  by_cases h1 : 12288 < s
  · exact .inr (.inr h1)
  refine .inr (.inl ?_)
  have h13 : s ≤ sz 13 := by show s ≤ 12288; omega
  have go : ∀ n : Nat, n < 14 → (∀ k, k < 13 - n → sz k < s) ∨ ∃ c, InClass s c := by
    intro n
    induction n with
    | zero =>
      intro _
      have : ∀ m : Nat, m ≤ 13 → (∀ k, k < m → sz k < s) ∨ ∃ c, InClass s c := by
        intro m
        induction m with
        | zero => intro _; exact .inl (fun k hk => by omega)
        | succ m ih =>
          intro hm
          rcases ih (by omega) with h | h
          · by_cases hs : s ≤ sz m
            · exact .inr ⟨m, by omega, hs, h, by omega⟩
            · refine .inl (fun k hk => ?_)
              by_cases e : k = m
              · subst e; omega
              · exact h k (by omega)
          · exact .inr h
      exact this 13 (by omega)
    | succ n ih => intro hn; rcases ih (by omega) with h | h; exact .inl (fun k hk => h k (by omega)); exact .inr h
  rcases go 0 (by omega) with h | h
  · exact ⟨13, by omega, h13, h, by omega⟩
  · exact h

end Go.Proofs.YtomheapokfphiaaDoor
