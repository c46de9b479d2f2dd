/-
  Histories of calls, and what lives behind each: the plain law. No program in sight.
-/
import Derived.Test.YtomheapokfphiaaDoorApart
import Derived.Test.YtomheapokfphiaaDoorSlotOf
namespace Go.Proofs.YtomheapokfphiaaDoor

/-- A call. -/
structure OpP where
  kind : Int
  size : Int
  at_ : Int
  code : Int
  L : List Int
  b : Int
  e : Int
/-- All numbers of a call are of 64 bits. -/
def in64 (x : Int) : Prop := -9223372036854775808 ≤ x ∧ x ≤ 9223372036854775807
def OpP.fits (o : OpP) : Prop := in64 o.kind ∧ in64 o.size ∧ in64 o.at_ ∧ in64 o.code ∧ (∀ a ∈ o.L, in64 a) ∧ in64 o.b ∧ in64 o.e

/-- It may not be. -/
def badOp (o : OpP) : Bool := decide (o.b < 0) || decide (2147483648 < o.b) || (decide (o.e ≠ -1) && (decide (o.e < o.b) || decide (2147483648 < o.e)))
def mayL (l : List OpP) : Bool := !(l.any badOp)

/-- The bytes of the slot of so many bytes; 0: there is none. -/
def bytesOf (s : Int) : Int :=
  if s < 0 then 0 else if s ≤ 128 then 128 else if s ≤ 192 then 192 else if s ≤ 256 then 256 else if s ≤ 384 then 384 else if s ≤ 512 then 512 else if s ≤ 768 then 768
  else if s ≤ 1024 then 1024 else if s ≤ 1536 then 1536 else if s ≤ 2048 then 2048 else if s ≤ 3072 then 3072 else if s ≤ 4096 then 4096 else if s ≤ 6144 then 6144 else if s ≤ 8192 then 8192
  else if s ≤ 12288 then 12288 else if (s - 1) / 8192 + 1 ≤ 4096 then ((s - 1) / 8192 + 1) * 8192 else 0
theorem bytesOf_small {s : Int} {c : Nat} (h : InClass s c) : byI (c : Int) (pg c) = bytesOf s := by
  obtain ⟨h1, h2, h3, h4⟩ := h
  have e1 : byI (c : Int) (pg c) = sz c := by
    unfold byI szI
    rw [if_neg (by omega), if_pos (by omega)]
    rfl
  rw [e1]
  unfold bytesOf
  match c, h1, h2, h3 with
  | 0, _, h2, h3 => have h2 : s ≤ 128 := h2; simp only [show sz 0 = 128 from rfl]; repeat (first | rw [if_pos (by omega)] | rw [if_neg (by omega)])
  | 1, _, h2, h3 => have h2 : s ≤ 192 := h2; have h3 : 128 < s := h3 0 (by omega); simp only [show sz 1 = 192 from rfl]; repeat (first | rw [if_pos (by omega)] | rw [if_neg (by omega)])
  | 2, _, h2, h3 => have h2 : s ≤ 256 := h2; have h3 : 192 < s := h3 1 (by omega); simp only [show sz 2 = 256 from rfl]; repeat (first | rw [if_pos (by omega)] | rw [if_neg (by omega)])
  | 3, _, h2, h3 => have h2 : s ≤ 384 := h2; have h3 : 256 < s := h3 2 (by omega); simp only [show sz 3 = 384 from rfl]; repeat (first | rw [if_pos (by omega)] | rw [if_neg (by omega)])
  | 4, _, h2, h3 => have h2 : s ≤ 512 := h2; have h3 : 384 < s := h3 3 (by omega); simp only [show sz 4 = 512 from rfl]; repeat (first | rw [if_pos (by omega)] | rw [if_neg (by omega)])
  | 5, _, h2, h3 => have h2 : s ≤ 768 := h2; have h3 : 512 < s := h3 4 (by omega); simp only [show sz 5 = 768 from rfl]; repeat (first | rw [if_pos (by omega)] | rw [if_neg (by omega)])
  | 6, _, h2, h3 => have h2 : s ≤ 1024 := h2; have h3 : 768 < s := h3 5 (by omega); simp only [show sz 6 = 1024 from rfl]; repeat (first | rw [if_pos (by omega)] | rw [if_neg (by omega)])
  | 7, _, h2, h3 => have h2 : s ≤ 1536 := h2; have h3 : 1024 < s := h3 6 (by omega); simp only [show sz 7 = 1536 from rfl]; repeat (first | rw [if_pos (by omega)] | rw [if_neg (by omega)])
  | 8, _, h2, h3 => have h2 : s ≤ 2048 := h2; have h3 : 1536 < s := h3 7 (by omega); simp only [show sz 8 = 2048 from rfl]; repeat (first | rw [if_pos (by omega)] | rw [if_neg (by omega)])
  | 9, _, h2, h3 => have h2 : s ≤ 3072 := h2; have h3 : 2048 < s := h3 8 (by omega); simp only [show sz 9 = 3072 from rfl]; repeat (first | rw [if_pos (by omega)] | rw [if_neg (by omega)])
  | 10, _, h2, h3 => have h2 : s ≤ 4096 := h2; have h3 : 3072 < s := h3 9 (by omega); simp only [show sz 10 = 4096 from rfl]; repeat (first | rw [if_pos (by omega)] | rw [if_neg (by omega)])
  | 11, _, h2, h3 => have h2 : s ≤ 6144 := h2; have h3 : 4096 < s := h3 10 (by omega); simp only [show sz 11 = 6144 from rfl]; repeat (first | rw [if_pos (by omega)] | rw [if_neg (by omega)])
  | 12, _, h2, h3 => have h2 : s ≤ 8192 := h2; have h3 : 6144 < s := h3 11 (by omega); simp only [show sz 12 = 8192 from rfl]; repeat (first | rw [if_pos (by omega)] | rw [if_neg (by omega)])
  | 13, _, h2, h3 => have h2 : s ≤ 12288 := h2; have h3 : 8192 < s := h3 12 (by omega); simp only [show sz 13 = 12288 from rfl]; repeat (first | rw [if_pos (by omega)] | rw [if_neg (by omega)])
theorem bytesOf_cls {s : Int} {r : Int × Int × Bool} (h : clsV s r) : (r.2.2 = true ∧ byI r.1 r.2.1 = bytesOf s ∧ 0 ≤ s) ∨ (r.2.2 = false ∧ bytesOf s = 0) := by
  rcases h with ⟨h, rfl⟩ | ⟨c, hc, rfl⟩ | ⟨h, rfl⟩
  · exact .inr ⟨rfl, by unfold bytesOf; rw [if_pos h]⟩
  · exact .inl ⟨rfl, bytesOf_small hc, hc.nat⟩
  · refine .inl ⟨rfl, ?_, by omega⟩
    unfold bytesOf byI
    simp only [if_true]
    rw [if_neg (show ¬ s < 0 by omega), if_neg (show ¬ s ≤ 128 by omega), if_neg (show ¬ s ≤ 192 by omega), if_neg (show ¬ s ≤ 256 by omega), if_neg (show ¬ s ≤ 384 by omega), if_neg (show ¬ s ≤ 512 by omega), if_neg (show ¬ s ≤ 768 by omega),
      if_neg (show ¬ s ≤ 1024 by omega), if_neg (show ¬ s ≤ 1536 by omega), if_neg (show ¬ s ≤ 2048 by omega), if_neg (show ¬ s ≤ 3072 by omega), if_neg (show ¬ s ≤ 4096 by omega), if_neg (show ¬ s ≤ 6144 by omega), if_neg (show ¬ s ≤ 8192 by omega), if_neg (show ¬ s ≤ 12288 by omega)]
    by_cases h1 : (s - 1) / 8192 + 1 ≤ 4096
    · rw [if_pos h1, if_pos ⟨by omega, h1⟩]
    · rw [if_neg h1, if_neg (by omega)]
theorem bytesOf_bd (s : Int) : 0 ≤ bytesOf s ∧ bytesOf s ≤ 33554432 := by
  obtain ⟨r, hr⟩ := cls_ex s
  rcases bytesOf_cls hr with ⟨_, h, _⟩ | ⟨_, h⟩
  · rw [← h]
    rcases hr with ⟨h, rfl⟩ | ⟨c, hc, rfl⟩ | ⟨h, rfl⟩
    · decide
    · have hz := sz_bd c hc.lt
      have hlt := hc.lt
      unfold byI szI
      simp only []
      rw [if_neg (by omega), if_pos (by omega)]
      show 0 ≤ sz c ∧ sz c ≤ 33554432
      omega
    · unfold byI
      simp only [if_true]
      split
      · constructor <;> omega
      · constructor <;> omega
  · rw [h]; constructor <;> omega

/-- What lives: addresses, and bytes at each. -/
abbrev LiveP := List (Int × Int)
def noneOp (pages : Int) (o : OpP) : Bool := decide (bytesOf o.size < 1) || decide (o.at_ < 0) || decide (pages * 8192 < bytesOf o.size) || decide (pages * 8192 - bytesOf o.size < o.at_)
def allocM (pages : Int) (s : LiveP) (o : OpP) : Option LiveP :=
  if noneOp pages o then none else if s.all (fun q => apB o.at_ (bytesOf o.size) q.1 q.2) then some (s ++ [(o.at_, bytesOf o.size)]) else none
/-- How many bytes are at an address. -/
def nOf (s : LiveP) (a : Int) : Int := ((s.find? fun q => q.1 == a).map (·.2)).getD 0
def okAt (s : LiveP) (L : List Int) (j : Nat) : Bool := s.any (fun q => q.1 == L.getD j 0) && (decide (j = 0) || decide (L.getD (j - 1) 0 < L.getD j 0))
def cycleM (s : LiveP) (L : List Int) : Option LiveP := if (List.range L.length).all (okAt s L) then some (L.map fun a => (a, nOf s a)) else none
def doesM (pages : Int) (s : LiveP) (o : OpP) : Option LiveP :=
  if o.kind = 1 ∧ o.code = 0 then allocM pages s o else if o.kind = 2 ∧ o.code = 0 then cycleM s o.L
  else if (o.kind = 1 ∧ o.code = 3) ∨ (o.kind = 2 ∧ o.code = 7) then some s else none

def noOp : OpP := ⟨0, 0, 0, 0, [], 0, 0⟩
def opAt (l : List OpP) (i : Nat) : OpP := l.getD i noOp
/-- It ended ahead of the beginning of one of these. -/
def aheadM (l : List OpP) (order : List Int) (i : Nat) : Bool := decide ((opAt l i).e ≠ -1) && order.any fun k => decide ((opAt l i).e < (opAt l k.toNat).b)
/-- All that ended are there. -/
def wholeM (l : List OpP) (order : List Int) : Bool := (List.range l.length).all fun i => decide ((opAt l i).e = -1) || order.contains (i : Int)
/-- How the calls go, in this order, from what lives on. -/
def goM (pages : Int) (l : List OpP) : List Int → LiveP → List Int → Option LiveP
  | _, s, [] => some s
  | pre, s, i :: rest =>
    if i < 0 ∨ (l.length : Int) ≤ i ∨ pre.contains i = true ∨ aheadM l pre i.toNat = true then none
    else match doesM pages s (opAt l i.toNat) with
      | none => none
      | some s' => goM pages l (pre ++ [i]) s' rest
def fitsM (pages : Int) (l : List OpP) (order : List Int) : Bool :=
  decide (1 ≤ pages ∧ pages ≤ 4096) && mayL l && (goM pages l [] [] order).isSome && wholeM l order
end Go.Proofs.YtomheapokfphiaaDoor
