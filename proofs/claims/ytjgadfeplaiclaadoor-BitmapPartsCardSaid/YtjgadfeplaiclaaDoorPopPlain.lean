/-
  The plain law of counting a word's bits, as math/bits has it: in parallel sums. No program in sight.
-/
import Derived.Test.YtjgadfeplaiclaaDoorWordPlain
namespace Go.Proofs.YtjgadfeplaiclaaDoor

def popc : Nat → Nat → Nat
  | 0, _ => 0
  | k + 1, x => x % 2 + popc k (x / 2)
theorem length_popc : ∀ (k x : Nat), ((List.range k).filter fun i => x.testBit i).length = popc k x
  | 0, _ => rfl
  | k + 1, x => by
    have ih := length_popc k (x / 2)
    rw [List.range_succ_eq_map, List.filter_cons, List.filter_map, popc, ← ih]
    have hf : ((fun i => x.testBit i) ∘ Nat.succ) = fun i => (x / 2).testBit i := by
      funext i; simp [Nat.testBit_succ]
    rw [hf]
    have h0 : x.testBit 0 = decide (x % 2 = 1) := by simp [Nat.testBit_zero]
    rw [h0]
    by_cases h : x % 2 = 1
    · simp [h]; omega
    · have : x % 2 = 0 := by omega
      simp [this]
theorem popc8 (k a b : Nat) (ha : a < 256) : popc (8 + k) (256 * b + a) = popc 8 a + popc k b := by
  have e : ∀ m c : Nat, popc (m + 1) c = c % 2 + popc m (c / 2) := fun _ _ => rfl
  have h8 : (256 * b + a) / 2 / 2 / 2 / 2 / 2 / 2 / 2 / 2 = b := by omega
  have h9 : popc 0 (a / 2 / 2 / 2 / 2 / 2 / 2 / 2 / 2) = 0 := rfl
  rw [show 8 + k = k + 1 + 1 + 1 + 1 + 1 + 1 + 1 + 1 by omega]
  simp only [e]
  rw [h8]
  rw [h9]
  omega

theorem and_byte (a b m M : Nat) (ha : a < 256) (hm : m < 256) : (256 * b + a) &&& (256 * M + m) = 256 * (b &&& M) + (a &&& m) := by
  have ham : a &&& m < 256 := Nat.lt_of_le_of_lt Nat.and_le_left ha
  apply Nat.eq_of_testBit_eq
  intro i
  have e : (256 : Nat) = 2 ^ 8 := rfl
  rw [Nat.testBit_and, e, Nat.testBit_two_pow_mul_add b (e ▸ ha), Nat.testBit_two_pow_mul_add M (e ▸ hm), Nat.testBit_two_pow_mul_add (b &&& M) (e ▸ ham)]
  by_cases h : i < 8
  · simp [h]
  · simp [h]

/-- The mask of k bytes m. -/
def mask (m : Nat) : Nat → Nat
  | 0 => 0
  | k + 1 => 256 * mask m k + m
def st1 (M x : Nat) : Nat := (x / 2 &&& M) + (x &&& M)
def st2 (M x : Nat) : Nat := (x / 4 &&& M) + (x &&& M)
def st3 (M x : Nat) : Nat := (x / 16 + x) &&& M

theorem b1 : ∀ a, a < 256 → (a / 2 + 128) &&& 85 = (a / 2) &&& 85 := by decide +kernel
theorem b2 : ∀ a, a < 256 → ((a / 4 + 64) &&& 51 = (a / 4) &&& 51) ∧ ((a / 4 + 128) &&& 51 = (a / 4) &&& 51) ∧ ((a / 4 + 192) &&& 51 = (a / 4) &&& 51) := by decide +kernel
theorem c1 : ∀ a, a < 256 → st1 85 a < 256 ∧ st2 51 (st1 85 a) ≤ 68 ∧ st2 51 (st1 85 a) % 16 ≤ 4 ∧ st3 15 (st2 51 (st1 85 a)) = popc 8 a ∧ popc 8 a ≤ 8 := by decide +kernel

theorem st1_byte (a b M : Nat) (ha : a < 256) : st1 (256 * M + 85) (256 * b + a) = 256 * st1 M b + st1 85 a := by
  have hd : (256 * b + a) / 2 = 256 * (b / 2) + (a / 2 + 128 * (b % 2)) := by omega
  unfold st1
  rw [hd, and_byte _ _ _ _ (by omega) (by decide), and_byte _ _ _ _ ha (by decide)]
  have : (a / 2 + 128 * (b % 2)) &&& 85 = (a / 2) &&& 85 := by
    rcases Nat.mod_two_eq_zero_or_one b with h | h
    · rw [h]; rfl
    · rw [h]; exact b1 a ha
  rw [this]; omega
theorem st2_byte (a b M : Nat) (ha : a < 256) : st2 (256 * M + 51) (256 * b + a) = 256 * st2 M b + st2 51 a := by
  have hd : (256 * b + a) / 4 = 256 * (b / 4) + (a / 4 + 64 * (b % 4)) := by omega
  unfold st2
  rw [hd, and_byte _ _ _ _ (by omega) (by decide), and_byte _ _ _ _ ha (by decide)]
  have : (a / 4 + 64 * (b % 4)) &&& 51 = (a / 4) &&& 51 := by
    have h4 : b % 4 = 0 ∨ b % 4 = 1 ∨ b % 4 = 2 ∨ b % 4 = 3 := by omega
    rcases h4 with h | h | h | h
    · rw [h]; rfl
    · rw [h]; exact (b2 a ha).1
    · rw [h]; exact (b2 a ha).2.1
    · rw [h]; exact (b2 a ha).2.2
  rw [this]; omega
theorem st3_byte (a b M : Nat) (ha : a ≤ 68) (hb : b % 16 ≤ 4) : st3 (256 * M + 15) (256 * b + a) = 256 * st3 M b + st3 15 a := by
  have hd : (256 * b + a) / 16 + (256 * b + a) = 256 * (b / 16 + b) + (a / 16 + 16 * (b % 16) + a) := by omega
  unfold st3
  rw [hd, and_byte _ _ _ _ (by omega) (by decide)]
  have e : ∀ x : Nat, x &&& 15 = x % 16 := fun x => Nat.and_two_pow_sub_one_eq_mod x 4
  rw [e, e]; omega

/-- The first three steps: of each byte its count. -/
def st (k x : Nat) : Nat := st3 (mask 15 k) (st2 (mask 51 k) (st1 (mask 85 k) x))
theorem st_byte (a b k : Nat) (ha : a < 256) (hb : st2 (mask 51 k) (st1 (mask 85 k) b) % 16 ≤ 4) : st (k + 1) (256 * b + a) = 256 * st k b + popc 8 a ∧ st2 (mask 51 (k + 1)) (st1 (mask 85 (k + 1)) (256 * b + a)) % 16 ≤ 4 := by
  obtain ⟨h1, h2, h3, h4, _⟩ := c1 a ha
  have e : st2 (mask 51 (k + 1)) (st1 (mask 85 (k + 1)) (256 * b + a)) = 256 * st2 (mask 51 k) (st1 (mask 85 k) b) + st2 51 (st1 85 a) := by
    show st2 (256 * mask 51 k + 51) (st1 (256 * mask 85 k + 85) (256 * b + a)) = _
    rw [st1_byte a b _ ha, st2_byte _ _ _ h1]
  refine ⟨?_, by rw [e]; omega⟩
  show st3 (256 * mask 15 k + 15) (st2 (mask 51 (k + 1)) (st1 (mask 85 (k + 1)) (256 * b + a))) = _
  rw [e, st3_byte _ _ _ h2 hb, h4]
  rfl

theorem pop_all (x : Nat) (h : x < 18446744073709551616) :
    ∃ p0 p1 p2 p3 p4 p5 p6 p7 : Nat, p0 ≤ 8 ∧ p1 ≤ 8 ∧ p2 ≤ 8 ∧ p3 ≤ 8 ∧ p4 ≤ 8 ∧ p5 ≤ 8 ∧ p6 ≤ 8 ∧ p7 ≤ 8 ∧
      st 8 x = 256 * (256 * (256 * (256 * (256 * (256 * (256 * p7 + p6) + p5) + p4) + p3) + p2) + p1) + p0 ∧ (places x).length = p0 + p1 + p2 + p3 + p4 + p5 + p6 + p7 := by
  have key : ∀ (y : Nat), y = 256 * (y / 256) + y % 256 := fun y => by omega
  obtain ⟨x1, e0⟩ : ∃ z, x / 256 = z := ⟨_, rfl⟩
  obtain ⟨x2, e1⟩ : ∃ z, x1 / 256 = z := ⟨_, rfl⟩
  obtain ⟨x3, e2⟩ : ∃ z, x2 / 256 = z := ⟨_, rfl⟩
  obtain ⟨x4, e3⟩ : ∃ z, x3 / 256 = z := ⟨_, rfl⟩
  obtain ⟨x5, e4⟩ : ∃ z, x4 / 256 = z := ⟨_, rfl⟩
  obtain ⟨x6, e5⟩ : ∃ z, x5 / 256 = z := ⟨_, rfl⟩
  obtain ⟨x7, e6⟩ : ∃ z, x6 / 256 = z := ⟨_, rfl⟩
  have h7 : x7 < 256 := by omega
  have k0 := key x; have k1 := key x1; have k2 := key x2; have k3 := key x3; have k4 := key x4; have k5 := key x5; have k6 := key x6
  rw [e0] at k0; rw [e1] at k1; rw [e2] at k2; rw [e3] at k3; rw [e4] at k4; rw [e5] at k5; rw [e6] at k6
  have s7 := st_byte x7 0 0 h7 (by decide)
  have s6 := st_byte (x6 % 256) x7 1 (by omega) (by have := s7.2; simpa using this)
  rw [← k6] at s6
  have s5 := st_byte (x5 % 256) x6 2 (by omega) s6.2
  rw [← k5] at s5
  have s4 := st_byte (x4 % 256) x5 3 (by omega) s5.2
  rw [← k4] at s4
  have s3 := st_byte (x3 % 256) x4 4 (by omega) s4.2
  rw [← k3] at s3
  have s2 := st_byte (x2 % 256) x3 5 (by omega) s3.2
  rw [← k2] at s2
  have s1 := st_byte (x1 % 256) x2 6 (by omega) s2.2
  rw [← k1] at s1
  have s0 := st_byte (x % 256) x1 7 (by omega) s1.2
  rw [← k0] at s0
  have z7 : st 1 x7 = popc 8 x7 := by have := s7.1; simpa [st, mask, st3, st2, st1] using this
  have hp : ∀ a, a < 256 → popc 8 a ≤ 8 := fun a ha => (c1 a ha).2.2.2.2
  have q : (places x).length = popc 64 x := length_popc 64 x
  have q0 := popc8 56 (x % 256) x1 (by omega); rw [← k0] at q0
  have q1 := popc8 48 (x1 % 256) x2 (by omega); rw [← k1] at q1
  have q2 := popc8 40 (x2 % 256) x3 (by omega); rw [← k2] at q2
  have q3 := popc8 32 (x3 % 256) x4 (by omega); rw [← k3] at q3
  have q4 := popc8 24 (x4 % 256) x5 (by omega); rw [← k4] at q4
  have q5 := popc8 16 (x5 % 256) x6 (by omega); rw [← k5] at q5
  have q6 := popc8 8 (x6 % 256) x7 (by omega); rw [← k6] at q6
  refine ⟨popc 8 (x % 256), popc 8 (x1 % 256), popc 8 (x2 % 256), popc 8 (x3 % 256), popc 8 (x4 % 256), popc 8 (x5 % 256), popc 8 (x6 % 256), popc 8 x7, hp _ (by omega), hp _ (by omega), hp _ (by omega), hp _ (by omega), hp _ (by omega), hp _ (by omega), hp _ (by omega), hp _ h7, ?_, ?_⟩
  · rw [s0.1, s1.1, s2.1, s3.1, s4.1, s5.1, s6.1, z7]
  · rw [q]
    show popc (8 + 56) x = _
    rw [q0]
    show _ + popc (8 + 48) x1 = _
    rw [q1]
    show _ + (_ + popc (8 + 40) x2) = _
    rw [q2]
    show _ + (_ + (_ + popc (8 + 32) x3)) = _
    rw [q3]
    show _ + (_ + (_ + (_ + popc (8 + 24) x4))) = _
    rw [q4]
    show _ + (_ + (_ + (_ + (_ + popc (8 + 16) x5)))) = _
    rw [q5]
    show _ + (_ + (_ + (_ + (_ + (_ + popc (8 + 8) x6))))) = _
    rw [q6]; omega

/-- The last steps: the bytes' counts are added up. -/
theorem sum_steps (A0 A1 A2 A3 A4 A5 A6 A7 p0 p1 p2 p3 p4 p5 p6 : Nat) (h0 : p0 ≤ 8) (h1 : p1 ≤ 8) (h2 : p2 ≤ 8) (h3 : p3 ≤ 8) (h4 : p4 ≤ 8) (h5 : p5 ≤ 8) (h6 : p6 ≤ 8) (h7 : A7 ≤ 8)
    (e0 : A0 = 256 * A1 + p0) (e1 : A1 = 256 * A2 + p1) (e2 : A2 = 256 * A3 + p2) (e3 : A3 = 256 * A4 + p3) (e4 : A4 = 256 * A5 + p4) (e5 : A5 = 256 * A6 + p5) (e6 : A6 = 256 * A7 + p6) :
    A0 ≤ 578721382704613384 ∧ A0 / 256 = A1 ∧ (A0 + A1) / 65536 = A2 + A3 ∧ (A0 + A1 + (A2 + A3)) / 4294967296 = A4 + A5 + A6 + A7 ∧
    A0 + A1 + (A2 + A3) + (A4 + A5 + A6 + A7) < 18446744073709551616 ∧ (A0 + A1 + (A2 + A3) + (A4 + A5 + A6 + A7)) % 128 = p0 + p1 + p2 + p3 + p4 + p5 + p6 + A7 := by
  have k6 : A6 ≤ 2056 := by omega
  have k5 : A5 ≤ 526344 := by omega
  have k4 : A4 ≤ 134744072 := by omega
  have k3 : A3 ≤ 34494482440 := by omega
  have k2 : A2 ≤ 8830587504648 := by omega
  have k1 : A1 ≤ 2260630401189896 := by omega
  have k0 : A0 ≤ 578721382704613384 := by omega
  refine ⟨k0, by omega, ?_, ?_, by omega, by omega⟩
  · have : A0 + A1 = 65536 * (A2 + A3) + (256 * (p1 + p2) + (p0 + p1)) := by omega
    omega
  · have z0 : A0 = 4294967296 * A4 + (16777216 * p3 + 65536 * p2 + 256 * p1 + p0) := by omega
    have z1 : A1 = 4294967296 * A5 + (16777216 * p4 + 65536 * p3 + 256 * p2 + p1) := by omega
    have z2 : A2 = 4294967296 * A6 + (16777216 * p5 + 65536 * p4 + 256 * p3 + p2) := by omega
    have z3 : A3 = 4294967296 * A7 + (16777216 * p6 + 65536 * p5 + 256 * p4 + p3) := by omega
    clear e0 e1 e2 e3 e4 e5 e6 k0 k1 k2 k3 k4 k5 k6
    omega
theorem pop_sum (x : Nat) (h : x < 18446744073709551616) : ∃ A1 B C : Nat, st 8 x ≤ 578721382704613384 ∧ st 8 x / 256 = A1 ∧ (st 8 x + A1) / 65536 = B ∧ (st 8 x + A1 + B) / 4294967296 = C ∧
    st 8 x + A1 + B + C < 18446744073709551616 ∧ (st 8 x + A1 + B + C) % 128 = (places x).length := by
  obtain ⟨p0, p1, p2, p3, p4, p5, p6, p7, h0, h1, h2, h3, h4, h5, h6, h7, e, q⟩ := pop_all x h
  obtain ⟨g1, g2, g3, g4, g5, g6⟩ := sum_steps (st 8 x) _ _ _ _ _ _ p7 p0 p1 p2 p3 p4 p5 p6 h0 h1 h2 h3 h4 h5 h6 h7 e rfl rfl rfl rfl rfl rfl
  exact ⟨_, _, _, g1, g2, g3, g4, g5, by rw [g6, q]⟩
end Go.Proofs.YtjgadfeplaiclaaDoor
