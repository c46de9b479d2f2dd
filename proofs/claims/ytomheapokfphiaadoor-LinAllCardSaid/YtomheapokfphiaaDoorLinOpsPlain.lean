/-
  Calls by numbers, six for each. No program in sight.
-/
import Derived.Test.YtomheapokfphiaaDoorLinPlain
namespace Go.Proofs.YtomheapokfphiaaDoor

def sizes26 : List Int := [0, 1, 100, 128, 129, 192, 256, 300, 384, 500, 512, 700, 1000, 1024, 1500, 2048, 3000, 4096, 5000, 6144, 8192, 9000, 12288, 12289, 20000, 30000]
def sizeOf26 (k : Nat) : Int := sizes26.getD (k % 26) 0
theorem sizeOf26_bd (k : Nat) : 0 ≤ sizeOf26 k ∧ sizeOf26 k ≤ 30000 := by
  have h : k % 26 < 26 := Nat.mod_lt _ (by decide)
  unfold sizeOf26
  generalize k % 26 = m at *
  have : ∀ m, m < 26 → 0 ≤ sizes26.getD m 0 ∧ sizes26.getD m 0 ≤ 30000 := by decide
  exact this m h
/-- The addresses that are kept, of the first n bits. -/
def pickL (d f : Nat) : Nat → List Int
  | 0 => []
  | n + 1 => pickL d f n ++ if f >>> n % 2 = 1 then [128 * ((d % 9 * n + n : Nat) : Int)] else []
theorem pickL_bd (d f : Nat) : ∀ n, n ≤ 4 → ∀ a ∈ pickL d f n, 0 ≤ a ∧ a ≤ 4608
  | 0, _, a, h => by cases h
  | n + 1, hn, a, h => by
    rcases List.mem_append.1 h with h | h
    · exact pickL_bd d f n (by omega) a h
    · split at h
      · have := List.mem_singleton.1 h
        have h9 : d % 9 < 9 := Nat.mod_lt _ (by decide)
        have : d % 9 * n ≤ 8 * 3 := Nat.mul_le_mul (by omega) (by omega)
        omega
      · cases h
theorem pickL_len (d f : Nat) : ∀ n, (pickL d f n).length ≤ n
  | 0 => Nat.le_refl _
  | n + 1 => by
    have := pickL_len d f n
    rw [pickL, List.length_append]
    split <;> simp <;> omega
def endOf (c e : Nat) : Int := if 235 < e then -1 else ((c % 20 + e % 9 : Nat) : Int)
def placeOf (d : Nat) : Int := if 200 < d then 8192 * ((d % 4 : Nat) : Int) else 128 * ((d % 70 : Nat) : Int)
def opOf (a b c d e f : Nat) : OpP :=
  if a % 8 = 5 ∨ a % 8 = 6 then ⟨2, 0, 0, if 220 < a then 7 else 0, if 220 < a then [] else pickL d f 4, ((c % 20 : Nat) : Int), endOf c e⟩
  else if a % 8 = 7 then ⟨1, sizeOf26 b, 0, 3, [], ((c % 20 : Nat) : Int), endOf c e⟩
  else ⟨1, sizeOf26 b, placeOf d, 0, [], ((c % 20 : Nat) : Int), endOf c e⟩
def opN (ns : List Nat) (k : Nat) : OpP := opOf (ns.getD (6 * k) 0) (ns.getD (6 * k + 1) 0) (ns.getD (6 * k + 2) 0) (ns.getD (6 * k + 3) 0) (ns.getD (6 * k + 4) 0) (ns.getD (6 * k + 5) 0)
def opsM (ns : List Nat) (most : Nat) : List OpP := (List.range (min (ns.length / 6) most)).map (opN ns)
theorem opsM_len (ns : List Nat) (most : Nat) : (opsM ns most).length = min (ns.length / 6) most := by simp [opsM]

/-- Of so little size. -/
def OpP.small (o : OpP) : Prop := 0 ≤ o.kind ∧ o.kind ≤ 2 ∧ 0 ≤ o.size ∧ o.size ≤ 30000 ∧ 0 ≤ o.at_ ∧ o.at_ ≤ 30000 ∧ 0 ≤ o.code ∧ o.code ≤ 7 ∧ (∀ a ∈ o.L, 0 ≤ a ∧ a ≤ 4608) ∧ o.L.length ≤ 4 ∧ 0 ≤ o.b ∧ o.b ≤ 19 ∧ -1 ≤ o.e ∧ o.e ≤ 27
theorem endOf_bd (c e : Nat) : -1 ≤ endOf c e ∧ endOf c e ≤ 27 := by
  unfold endOf
  split <;> omega
theorem placeOf_bd (d : Nat) : 0 ≤ placeOf d ∧ placeOf d ≤ 30000 := by
  unfold placeOf
  split <;> omega
theorem opOf_small (a b c d e f : Nat) : (opOf a b c d e f).small := by
  have h1 := sizeOf26_bd b
  have h2 := endOf_bd c e
  have h3 := placeOf_bd d
  have h4 := pickL_bd d f 4 (Nat.le_refl _)
  have h5 := pickL_len d f 4
  have h6 : c % 20 < 20 := Nat.mod_lt _ (by decide)
  unfold opOf
  split
  · refine ⟨?_, ?_, ?_, ?_, ?_, ?_, ?_, ?_, ?_, ?_, ?_, ?_, h2.1, h2.2⟩ <;> dsimp only
    all_goals first
      | omega
      | (split <;> omega)
      | (split
         · intro x hx; cases hx
         · exact h4)
      | (split
         · simp
         · exact h5)
  · split
    · refine ⟨?_, ?_, ?_, ?_, ?_, ?_, ?_, ?_, (fun x hx => by cases hx), by simp, ?_, ?_, h2.1, h2.2⟩ <;> dsimp only <;> omega
    · refine ⟨?_, ?_, ?_, ?_, ?_, ?_, ?_, ?_, (fun x hx => by cases hx), by simp, ?_, ?_, h2.1, h2.2⟩ <;> dsimp only <;> omega
theorem opsM_small {ns : List Nat} {most : Nat} : ∀ o ∈ opsM ns most, o.small := by
  intro o ho
  obtain ⟨k, _, rfl⟩ := List.mem_map.1 ho
  exact opOf_small _ _ _ _ _ _
theorem small_fits {o : OpP} (h : o.small) : o.fits ∧ o.L.length ≤ 65000 := by
  obtain ⟨h1, h2, h3, h4, h5, h6, h7, h8, h9, h10, h11, h12, h13, h14⟩ := h
  refine ⟨⟨⟨?_, ?_⟩, ⟨?_, ?_⟩, ⟨?_, ?_⟩, ⟨?_, ?_⟩, fun a ha => ⟨?_, ?_⟩, ⟨?_, ?_⟩, ⟨?_, ?_⟩⟩, ?_⟩ <;> (first | omega | (have := h9 a ha; omega))
theorem opsM_fits {ns : List Nat} {most : Nat} : ∀ i, i < (opsM ns most).length → (opAt (opsM ns most) i).fits ∧ (opAt (opsM ns most) i).L.length ≤ 65000 := by
  intro i hi
  refine small_fits (opsM_small (ns := ns) (most := most) _ ?_)
  unfold opAt
  rw [List.getD_eq_getElem?_getD, List.getElem?_eq_getElem hi]
  exact List.getElem_mem hi
end Go.Proofs.YtomheapokfphiaaDoor
