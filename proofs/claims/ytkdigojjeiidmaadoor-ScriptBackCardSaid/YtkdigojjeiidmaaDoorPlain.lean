/-
  Scripts, in plain lists: a call of three bytes, a script of bytes. No program in sight.
-/
import Derived.Test.YtkdigojjeiidmaaDoorKit
namespace Go.Proofs.YtkdigojjeiidmaaDoor

structure CallP where
  kind : Int
  a : Int
  L : List Int
structure ScriptP where
  pages : Int
  threads : Int
  draws : List Int
  calls : List (List CallP)
  picks : List Int

/-- A byte; past the end 0. -/
def bt (ns : List Nat) (i : Nat) : Nat := ns.getD i 0
theorem bt_out {ns : List Nat} {i : Nat} (h : ns.length ≤ i) : bt ns i = 0 := by simp [bt, h]
theorem bt_le {ns : List Nat} (h : ∀ n ∈ ns, n ≤ 255) (i : Nat) : bt ns i ≤ 255 := by
  unfold bt
  rw [List.getD_eq_getElem?_getD]
  rcases Nat.lt_or_ge i ns.length with hi | hi
  · rw [List.getElem?_eq_getElem hi]; exact h _ (List.getElem_mem hi)
  · rw [List.getElem?_eq_none hi]; simp

/-- The places of the set bits below place n. -/
def bitsM (z : Nat) : Nat → List Int
  | 0 => []
  | n + 1 => bitsM z n ++ if z / 2 ^ n % 2 = 1 then [(n : Int)] else []
theorem bitsM_len (z : Nat) : ∀ n, (bitsM z n).length ≤ n
  | 0 => Nat.le_refl _
  | n + 1 => by
    have := bitsM_len z n
    simp only [bitsM, List.length_append]
    split <;> simp <;> omega
theorem bitsM_lt (z : Nat) : ∀ n, ∀ x ∈ bitsM z n, 0 ≤ x ∧ x < n
  | 0, x, h => by simp [bitsM] at h
  | n + 1, x, h => by
    simp only [bitsM, List.mem_append] at h
    rcases h with h | h
    · have := bitsM_lt z n x h; omega
    · split at h
      · simp at h; omega
      · simp at h

/-- A call of three bytes. -/
def callM (x y z : Nat) : CallP :=
  if x % 8 = 4 then ⟨2, 0, []⟩
  else if x % 8 = 5 then ⟨3, ((1 + y % 16 : Nat) : Int), []⟩
  else if x % 8 = 6 then ⟨4, ((y % 2 : Nat) : Int), bitsM z 8⟩
  else if x % 8 = 7 then ⟨5, ((1 + y % 16 : Nat) : Int), []⟩
  else ⟨1, ((y % 32 * 2 ^ (z % 11) : Nat) : Int), []⟩
def callsM (ns : List Nat) (k : Nat) : Nat → List CallP
  | 0 => []
  | i + 1 => callsM ns k i ++ [callM (bt ns (k + 3 * i)) (bt ns (k + 3 * i + 1)) (bt ns (k + 3 * i + 2))]
theorem callsM_len (ns : List Nat) (k : Nat) : ∀ n, (callsM ns k n).length = n
  | 0 => rfl
  | n + 1 => by simp [callsM, callsM_len ns k n]
/-- Where thread t's calls begin. -/
def posM (ns : List Nat) : Nat → Nat
  | 0 => 10
  | t + 1 => posM ns t + 1 + 3 * (bt ns (posM ns t) % 12)
def listM (ns : List Nat) (t : Nat) : List CallP := callsM ns (posM ns t + 1) (bt ns (posM ns t) % 12)
theorem listM_len (ns : List Nat) (t : Nat) : (listM ns t).length = bt ns (posM ns t) % 12 := callsM_len _ _ _
def listsM (ns : List Nat) : Nat → List (List CallP)
  | 0 => []
  | t + 1 => listsM ns t ++ [listM ns t]
theorem listsM_len (ns : List Nat) : ∀ n, (listsM ns n).length = n
  | 0 => rfl
  | n + 1 => by simp [listsM, listsM_len ns n]
def drawsM (ns : List Nat) : Nat → List Int
  | 0 => []
  | i + 1 => drawsM ns i ++ [((bt ns (2 + i) : Nat) : Int)]
theorem drawsM_len (ns : List Nat) : ∀ n, (drawsM ns n).length = n
  | 0 => rfl
  | n + 1 => by simp [drawsM, drawsM_len ns n]
/-- So many picks, from place k on. -/
def picksM (ns : List Nat) (T k : Nat) : Nat → List Int
  | 0 => []
  | i + 1 => picksM ns T k i ++ [((bt ns (k + i) % T : Nat) : Int)]
theorem picksM_len (ns : List Nat) (T k : Nat) : ∀ n, (picksM ns T k n).length = n
  | 0 => rfl
  | n + 1 => by simp [picksM, picksM_len ns T k n]
def pagesOf (ns : List Nat) : Nat := 1 + bt ns 0 % 96
def threadsOf (ns : List Nat) : Nat := 1 + bt ns 1 % 6
theorem threads_ge (ns : List Nat) : 1 ≤ threadsOf ns ∧ threadsOf ns ≤ 6 := by unfold threadsOf; omega
theorem pages_ge (ns : List Nat) : 1 ≤ pagesOf ns ∧ pagesOf ns ≤ 96 := by unfold pagesOf; omega
def endOf (ns : List Nat) : Nat := posM ns (threadsOf ns)
def decodeM (ns : List Nat) : ScriptP := ⟨pagesOf ns, threadsOf ns, drawsM ns 8, listsM ns (threadsOf ns), picksM ns (threadsOf ns) (endOf ns) (ns.length - endOf ns)⟩
theorem posM_step (ns : List Nat) (t : Nat) : posM ns t + 1 ≤ posM ns (t + 1) ∧ posM ns (t + 1) ≤ posM ns t + 34 := by
  have := Nat.mod_lt (bt ns (posM ns t)) (show 12 > 0 by decide)
  simp only [posM]; omega
theorem posM_ge (ns : List Nat) : ∀ t, 10 + t ≤ posM ns t ∧ posM ns t ≤ 10 + 34 * t
  | 0 => by simp [posM]
  | t + 1 => by have := posM_ge ns t; have := posM_step ns t; omega
theorem end_le (ns : List Nat) : 10 ≤ endOf ns ∧ endOf ns ≤ 214 := by
  have h := posM_ge ns (threadsOf ns)
  have := threads_ge ns
  unfold endOf
  omega
end Go.Proofs.YtkdigojjeiidmaaDoor
