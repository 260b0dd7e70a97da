/- Words as rows of bits: how many are set, the least one, what a flip does. -/
import Derived.Test.YtkceclemfhbclaaDoorEvHeap
namespace Go.Proofs.YtkceclemfhbclaaDoor.Ev
set_option linter.unusedSimpArgs false
set_option linter.unusedVariables false
open Go

/-! ## How many bits are set -/

def popN : Nat → Nat → Nat
  | 0, _ => 0
  | n + 1, x => x % 2 + popN n (x / 2)

theorem and_split (a b c d : Nat) (hb : b < 256) (hd : d < 256) : (256 * a + b) &&& (256 * c + d) = 256 * (a &&& c) + (b &&& d) := by
  have hbd : b &&& d < 256 := Nat.lt_of_le_of_lt Nat.and_le_left hb
  apply Nat.eq_of_testBit_eq
  intro i
  have e1 := Nat.testBit_two_pow_mul_add (i := 8) a (b := b) hb i
  have e2 := Nat.testBit_two_pow_mul_add (i := 8) c (b := d) hd i
  have e3 := Nat.testBit_two_pow_mul_add (i := 8) (a &&& c) (b := b &&& d) hbd i
  rw [show (2 : Nat) ^ 8 = 256 from rfl] at e1 e2 e3
  rw [Nat.testBit_and, e1, e2, e3]
  split <;> simp

def S1 (m x : Nat) : Nat := ((x >>> 1) &&& m) + (x &&& m)
def S2 (m x : Nat) : Nat := ((x >>> 2) &&& m) + (x &&& m)
def S3 (m x : Nat) : Nat := ((x >>> 4) + x) &&& m

theorem low1 : ∀ t < 2, ∀ r < 256, (128 * t + r / 2) &&& 85 = (r / 2) &&& 85 := by decide +kernel
theorem low2 : ∀ t < 4, ∀ r < 256, (64 * t + r / 4) &&& 51 = (r / 4) &&& 51 := by decide +kernel
theorem S1_split (m q r : Nat) (hr : r < 256) : S1 (256 * m + 85) (256 * q + r) = 256 * S1 m q + S1 85 r := by
  have e : (256 * q + r) >>> 1 = 256 * (q >>> 1) + (128 * (q % 2) + r / 2) := by
    simp only [Nat.shiftRight_eq_div_pow]
    omega
  have l := low1 (q % 2) (by omega) r hr
  simp only [S1]
  rw [e, and_split _ _ _ _ (by omega) (by omega), and_split _ _ _ _ hr (by omega), l]
  rw [show r >>> 1 = r / 2 by simp [Nat.shiftRight_eq_div_pow]]
  omega
theorem S2_split (m q r : Nat) (hr : r < 256) : S2 (256 * m + 51) (256 * q + r) = 256 * S2 m q + S2 51 r := by
  have e : (256 * q + r) >>> 2 = 256 * (q >>> 2) + (64 * (q % 4) + r / 4) := by
    simp only [Nat.shiftRight_eq_div_pow]
    omega
  have l := low2 (q % 4) (by omega) r hr
  simp only [S2]
  rw [e, and_split _ _ _ _ (by omega) (by omega), and_split _ _ _ _ hr (by omega), l]
  rw [show r >>> 2 = r / 4 by simp [Nat.shiftRight_eq_div_pow]]
  omega
theorem S3_split (m q r : Nat) (hr : r / 16 ≤ 4) (hr2 : r % 16 ≤ 4) (hq : q % 16 ≤ 4) : S3 (256 * m + 15) (256 * q + r) = 256 * S3 m q + S3 15 r := by
  have e : (256 * q + r) >>> 4 + (256 * q + r) = 256 * (q >>> 4 + q) + (16 * (q % 16) + r / 16 + r) := by
    simp only [Nat.shiftRight_eq_div_pow]
    omega
  simp only [S3]
  rw [e, and_split _ _ _ _ (by omega) (by omega)]
  have h15 : ∀ x : Nat, x &&& 15 = x % 16 := fun x => Nat.and_two_pow_sub_one_eq_mod x 4
  rw [h15, h15, show r >>> 4 = r / 16 by simp [Nat.shiftRight_eq_div_pow]]
  omega

/-- A byte. -/
theorem byte_ok : ∀ r < 256, S3 15 (S2 51 (S1 85 r)) = popN 8 r ∧ S1 85 r < 256 ∧ S2 51 (S1 85 r) / 16 ≤ 4 ∧ S2 51 (S1 85 r) % 16 ≤ 4 ∧ popN 8 r ≤ 8 := by decide +kernel

def rep8 (d : Nat) : Nat → Nat
  | 0 => 0
  | n + 1 => 256 * rep8 d n + d

/-- The sums of the bytes. -/
def bytesN : Nat → Nat → Nat
  | 0, _ => 0
  | n + 1, x => 256 * bytesN n (x / 256) + popN 8 (x % 256)

theorem S_zero (x : Nat) : S1 0 x = 0 ∧ S2 0 x = 0 ∧ S3 0 x = 0 := by simp [S1, S2, S3]
theorem bytes_ok : ∀ n x, S3 (rep8 15 n) (S2 (rep8 51 n) (S1 (rep8 85 n) x)) = bytesN n x ∧ S2 (rep8 51 n) (S1 (rep8 85 n) x) % 16 ≤ 4
  | 0, x => by simp [rep8, S_zero, bytesN]
  | n + 1, x => by
    obtain ⟨h1, h2⟩ := bytes_ok n (x / 256)
    obtain ⟨b1, b2, b3, b4, b5⟩ := byte_ok (x % 256) (by omega)
    have e1 : S1 (rep8 85 (n + 1)) x = 256 * S1 (rep8 85 n) (x / 256) + S1 85 (x % 256) := by
      have := S1_split (rep8 85 n) (x / 256) (x % 256) (by omega)
      rw [show 256 * (x / 256) + x % 256 = x by omega] at this
      exact this
    have e2 := S2_split (rep8 51 n) (S1 (rep8 85 n) (x / 256)) (S1 85 (x % 256)) b2
    have e3 := S3_split (rep8 15 n) (S2 (rep8 51 n) (S1 (rep8 85 n) (x / 256))) (S2 51 (S1 85 (x % 256))) b3 b4 h2
    rw [e1, show rep8 51 (n + 1) = 256 * rep8 51 n + 51 from rfl, e2, show rep8 15 (n + 1) = 256 * rep8 15 n + 15 from rfl, e3, h1, b1]
    exact ⟨rfl, by omega⟩

theorem popN_byte (n x : Nat) : popN (n + 8) x = popN 8 (x % 256) + popN n (x / 256) := by
  have d : x / 2 / 2 / 2 / 2 / 2 / 2 / 2 / 2 = x / 256 := by omega
  have p : ∀ y, popN 8 y = y % 2 + (y / 2 % 2 + (y / 2 / 2 % 2 + (y / 2 / 2 / 2 % 2 + (y / 2 / 2 / 2 / 2 % 2 + (y / 2 / 2 / 2 / 2 / 2 % 2 + (y / 2 / 2 / 2 / 2 / 2 / 2 % 2 + (y / 2 / 2 / 2 / 2 / 2 / 2 / 2 % 2 + 0))))))) := fun y => rfl
  have q : popN (n + 8) x = x % 2 + (x / 2 % 2 + (x / 2 / 2 % 2 + (x / 2 / 2 / 2 % 2 + (x / 2 / 2 / 2 / 2 % 2 + (x / 2 / 2 / 2 / 2 / 2 % 2 + (x / 2 / 2 / 2 / 2 / 2 / 2 % 2 + (x / 2 / 2 / 2 / 2 / 2 / 2 / 2 % 2 + popN n (x / 2 / 2 / 2 / 2 / 2 / 2 / 2 / 2)))))))) := rfl
  have b0 : x % 256 % 2 = x % 2 := by omega
  have b1 : x % 256 / 2 % 2 = x / 2 % 2 := by omega
  have b2 : x % 256 / 2 / 2 % 2 = x / 2 / 2 % 2 := by omega
  have b3 : x % 256 / 2 / 2 / 2 % 2 = x / 2 / 2 / 2 % 2 := by omega
  have b4 : x % 256 / 2 / 2 / 2 / 2 % 2 = x / 2 / 2 / 2 / 2 % 2 := by omega
  have b5 : x % 256 / 2 / 2 / 2 / 2 / 2 % 2 = x / 2 / 2 / 2 / 2 / 2 % 2 := by omega
  have b6 : x % 256 / 2 / 2 / 2 / 2 / 2 / 2 % 2 = x / 2 / 2 / 2 / 2 / 2 / 2 % 2 := by omega
  have b7 : x % 256 / 2 / 2 / 2 / 2 / 2 / 2 / 2 % 2 = x / 2 / 2 / 2 / 2 / 2 / 2 / 2 % 2 := by omega
  rw [q, d, p, b0, b1, b2, b3, b4, b5, b6, b7]
  omega

/-- The whole: as the library has it. -/
def onesN (x : Nat) : Nat :=
  let y := bytesN 8 x
  let a := (y + y >>> 8) % 18446744073709551616
  let b := (a + a >>> 16) % 18446744073709551616
  let c := (b + b >>> 32) % 18446744073709551616
  c &&& 127

section
variable {c0 c1 c2 c3 c4 c5 c6 c7 y a b : Nat}
theorem sum_a (h0 : c0 ≤ 8) (h1 : c1 ≤ 8) (h2 : c2 ≤ 8) (h3 : c3 ≤ 8) (h4 : c4 ≤ 8) (h5 : c5 ≤ 8) (h6 : c6 ≤ 8) (h7 : c7 ≤ 8) (hy : y = 256 * (256 * (256 * (256 * (256 * (256 * (256 * (256 * 0 + c7) + c6) + c5) + c4) + c3) + c2) + c1) + c0) : (y + y / 256) % 18446744073709551616 = 256 * (256 * (256 * (256 * (256 * (256 * (256 * c7 + (c6 + c7)) + (c5 + c6)) + (c4 + c5)) + (c3 + c4)) + (c2 + c3)) + (c1 + c2)) + (c0 + c1) := by
  have e : y / 256 = 256 * (256 * (256 * (256 * (256 * (256 * c7 + c6) + c5) + c4) + c3) + c2) + c1 := by
    obtain ⟨t, ht⟩ : ∃ t, t = 256 * (256 * (256 * (256 * (256 * (256 * c7 + c6) + c5) + c4) + c3) + c2) + c1 := ⟨_, rfl⟩
    have hy2 : y = 256 * t + c0 := by rw [hy, ht, Nat.mul_zero, Nat.zero_add]
    rw [← ht]
    clear ht hy h1 h2 h3 h4 h5 h6 h7
    omega
  rw [hy] at e ⊢
  rw [e, Nat.mod_eq_of_lt (by omega)]
  omega
theorem sum_b {d0 d1 d2 d3 d4 d5 d6 d7 : Nat} (h0 : d0 ≤ 16) (h1 : d1 ≤ 16) (h2 : d2 ≤ 16) (h3 : d3 ≤ 16) (h4 : d4 ≤ 16) (h5 : d5 ≤ 16) (h6 : d6 ≤ 16) (h7 : d7 ≤ 16) (ha : a = 256 * (256 * (256 * (256 * (256 * (256 * (256 * d7 + d6) + d5) + d4) + d3) + d2) + d1) + d0) : (a + a / 65536) % 18446744073709551616 = 256 * (256 * (256 * (256 * (256 * (256 * (256 * d7 + d6) + (d5 + d7)) + (d4 + d6)) + (d3 + d5)) + (d2 + d4)) + (d1 + d3)) + (d0 + d2) := by
  have e : a / 65536 = 256 * (256 * (256 * (256 * (256 * d7 + d6) + d5) + d4) + d3) + d2 := by
    obtain ⟨t, ht⟩ : ∃ t, t = 256 * (256 * (256 * (256 * (256 * d7 + d6) + d5) + d4) + d3) + d2 := ⟨_, rfl⟩
    have hy2 : a = 256 * (256 * t + d1) + d0 := by rw [ha, ht]
    rw [← ht]
    clear ht ha h2 h3 h4 h5 h6 h7
    omega
  rw [ha] at e ⊢
  rw [e, Nat.mod_eq_of_lt (by omega)]
  omega
theorem sum_c {d0 d1 d2 d3 d4 d5 d6 d7 : Nat} (h0 : d0 ≤ 32) (h1 : d1 ≤ 32) (h2 : d2 ≤ 32) (h3 : d3 ≤ 32) (h4 : d4 ≤ 32) (h5 : d5 ≤ 32) (h6 : d6 ≤ 32) (h7 : d7 ≤ 32) (ha : a = 256 * (256 * (256 * (256 * (256 * (256 * (256 * d7 + d6) + d5) + d4) + d3) + d2) + d1) + d0) : (a + a / 4294967296) % 18446744073709551616 = 256 * (256 * (256 * (256 * (256 * (256 * (256 * d7 + d6) + d5) + d4) + (d3 + d7)) + (d2 + d6)) + (d1 + d5)) + (d0 + d4) := by
  have e : a / 4294967296 = 256 * (256 * (256 * d7 + d6) + d5) + d4 := by
    obtain ⟨t, ht⟩ : ∃ t, t = 256 * (256 * (256 * d7 + d6) + d5) + d4 := ⟨_, rfl⟩
    have hy2 : a = 256 * (256 * (256 * (256 * t + d3) + d2) + d1) + d0 := by rw [ha, ht]
    rw [← ht]
    clear ht ha h4 h5 h6 h7
    omega
  rw [ha] at e ⊢
  rw [e, Nat.mod_eq_of_lt (by omega)]
  omega
theorem ones_sum {x : Nat} (hy : bytesN 8 x = 256 * (256 * (256 * (256 * (256 * (256 * (256 * (256 * 0 + c7) + c6) + c5) + c4) + c3) + c2) + c1) + c0) (h0 : c0 ≤ 8) (h1 : c1 ≤ 8) (h2 : c2 ≤ 8) (h3 : c3 ≤ 8) (h4 : c4 ≤ 8) (h5 : c5 ≤ 8) (h6 : c6 ≤ 8) (h7 : c7 ≤ 8) : onesN x = c0 + (c1 + (c2 + (c3 + (c4 + (c5 + (c6 + (c7 + 0))))))) := by
  have h127 : ∀ x : Nat, x &&& 127 = x % 128 := fun x => Nat.and_two_pow_sub_one_eq_mod x 7
  have b16 : ∀ p q : Nat, p ≤ 8 → q ≤ 8 → p + q ≤ 16 := fun p q _ _ => by omega
  have b32 : ∀ p q : Nat, p ≤ 16 → q ≤ 16 → p + q ≤ 32 := fun p q _ _ => by omega
  have w : ∀ p : Nat, p ≤ 8 → p ≤ 16 := fun p _ => by omega
  have w2 : ∀ p : Nat, p ≤ 16 → p ≤ 32 := fun p _ => by omega
  have ea := sum_a h0 h1 h2 h3 h4 h5 h6 h7 hy
  have eb := sum_b (d0 := c0 + c1) (d1 := c1 + c2) (d2 := c2 + c3) (d3 := c3 + c4) (d4 := c4 + c5) (d5 := c5 + c6) (d6 := c6 + c7) (d7 := c7) (b16 _ _ h0 h1) (b16 _ _ h1 h2) (b16 _ _ h2 h3) (b16 _ _ h3 h4) (b16 _ _ h4 h5) (b16 _ _ h5 h6) (b16 _ _ h6 h7) (w _ h7) ea
  have ec := sum_c (d0 := c0 + c1 + (c2 + c3)) (d1 := c1 + c2 + (c3 + c4)) (d2 := c2 + c3 + (c4 + c5)) (d3 := c3 + c4 + (c5 + c6)) (d4 := c4 + c5 + (c6 + c7)) (d5 := c5 + c6 + c7) (d6 := c6 + c7) (d7 := c7) (b32 _ _ (b16 _ _ h0 h1) (b16 _ _ h2 h3)) (b32 _ _ (b16 _ _ h1 h2) (b16 _ _ h3 h4)) (b32 _ _ (b16 _ _ h2 h3) (b16 _ _ h4 h5)) (b32 _ _ (b16 _ _ h3 h4) (b16 _ _ h5 h6)) (b32 _ _ (b16 _ _ h4 h5) (b16 _ _ h6 h7)) (b32 _ _ (b16 _ _ h5 h6) (w _ h7)) (w2 _ (b16 _ _ h6 h7)) (w2 _ (w _ h7)) eb
  simp only [onesN, h127, Nat.shiftRight_eq_div_pow]
  rw [show (2 : Nat) ^ 8 = 256 from rfl, show (2 : Nat) ^ 16 = 65536 from rfl, show (2 : Nat) ^ 32 = 4294967296 from rfl, ec]
  clear ec eb ea hy
  have m : ∀ p q : Nat, q < 128 → (256 * p + q) % 128 = q := fun p q _ => by omega
  rw [m _ _ (by omega)]
  omega
end

theorem ones_ok (x : Nat) : onesN x = popN 64 x := by
  obtain ⟨c0, h0⟩ : ∃ c, c = popN 8 (x % 256) := ⟨_, rfl⟩
  obtain ⟨c1, h1⟩ : ∃ c, c = popN 8 (x / 256 % 256) := ⟨_, rfl⟩
  obtain ⟨c2, h2⟩ : ∃ c, c = popN 8 (x / 256 / 256 % 256) := ⟨_, rfl⟩
  obtain ⟨c3, h3⟩ : ∃ c, c = popN 8 (x / 256 / 256 / 256 % 256) := ⟨_, rfl⟩
  obtain ⟨c4, h4⟩ : ∃ c, c = popN 8 (x / 256 / 256 / 256 / 256 % 256) := ⟨_, rfl⟩
  obtain ⟨c5, h5⟩ : ∃ c, c = popN 8 (x / 256 / 256 / 256 / 256 / 256 % 256) := ⟨_, rfl⟩
  obtain ⟨c6, h6⟩ : ∃ c, c = popN 8 (x / 256 / 256 / 256 / 256 / 256 / 256 % 256) := ⟨_, rfl⟩
  obtain ⟨c7, h7⟩ : ∃ c, c = popN 8 (x / 256 / 256 / 256 / 256 / 256 / 256 / 256 % 256) := ⟨_, rfl⟩
  have e0 : popN 64 (x) = popN 8 (x % 256) + popN 56 (x / 256) := popN_byte 56 (x)
  have e1 : popN 56 (x / 256) = popN 8 (x / 256 % 256) + popN 48 (x / 256 / 256) := popN_byte 48 (x / 256)
  have e2 : popN 48 (x / 256 / 256) = popN 8 (x / 256 / 256 % 256) + popN 40 (x / 256 / 256 / 256) := popN_byte 40 (x / 256 / 256)
  have e3 : popN 40 (x / 256 / 256 / 256) = popN 8 (x / 256 / 256 / 256 % 256) + popN 32 (x / 256 / 256 / 256 / 256) := popN_byte 32 (x / 256 / 256 / 256)
  have e4 : popN 32 (x / 256 / 256 / 256 / 256) = popN 8 (x / 256 / 256 / 256 / 256 % 256) + popN 24 (x / 256 / 256 / 256 / 256 / 256) := popN_byte 24 (x / 256 / 256 / 256 / 256)
  have e5 : popN 24 (x / 256 / 256 / 256 / 256 / 256) = popN 8 (x / 256 / 256 / 256 / 256 / 256 % 256) + popN 16 (x / 256 / 256 / 256 / 256 / 256 / 256) := popN_byte 16 (x / 256 / 256 / 256 / 256 / 256)
  have e6 : popN 16 (x / 256 / 256 / 256 / 256 / 256 / 256) = popN 8 (x / 256 / 256 / 256 / 256 / 256 / 256 % 256) + popN 8 (x / 256 / 256 / 256 / 256 / 256 / 256 / 256) := popN_byte 8 (x / 256 / 256 / 256 / 256 / 256 / 256)
  have e7 : popN 8 (x / 256 / 256 / 256 / 256 / 256 / 256 / 256) = popN 8 (x / 256 / 256 / 256 / 256 / 256 / 256 / 256 % 256) + popN 0 (x / 256 / 256 / 256 / 256 / 256 / 256 / 256 / 256) := popN_byte 0 (x / 256 / 256 / 256 / 256 / 256 / 256 / 256)
  have e8 : popN 0 (x / 256 / 256 / 256 / 256 / 256 / 256 / 256 / 256) = 0 := rfl
  have hp : popN 64 x = c0 + (c1 + (c2 + (c3 + (c4 + (c5 + (c6 + (c7 + 0))))))) := by
    rw [e0, e1, e2, e3, e4, e5, e6, e7, e8, h0, h1, h2, h3, h4, h5, h6, h7]
  have f0 : bytesN 8 (x) = 256 * bytesN 7 (x / 256) + popN 8 (x % 256) := rfl
  have f1 : bytesN 7 (x / 256) = 256 * bytesN 6 (x / 256 / 256) + popN 8 (x / 256 % 256) := rfl
  have f2 : bytesN 6 (x / 256 / 256) = 256 * bytesN 5 (x / 256 / 256 / 256) + popN 8 (x / 256 / 256 % 256) := rfl
  have f3 : bytesN 5 (x / 256 / 256 / 256) = 256 * bytesN 4 (x / 256 / 256 / 256 / 256) + popN 8 (x / 256 / 256 / 256 % 256) := rfl
  have f4 : bytesN 4 (x / 256 / 256 / 256 / 256) = 256 * bytesN 3 (x / 256 / 256 / 256 / 256 / 256) + popN 8 (x / 256 / 256 / 256 / 256 % 256) := rfl
  have f5 : bytesN 3 (x / 256 / 256 / 256 / 256 / 256) = 256 * bytesN 2 (x / 256 / 256 / 256 / 256 / 256 / 256) + popN 8 (x / 256 / 256 / 256 / 256 / 256 % 256) := rfl
  have f6 : bytesN 2 (x / 256 / 256 / 256 / 256 / 256 / 256) = 256 * bytesN 1 (x / 256 / 256 / 256 / 256 / 256 / 256 / 256) + popN 8 (x / 256 / 256 / 256 / 256 / 256 / 256 % 256) := rfl
  have f7 : bytesN 1 (x / 256 / 256 / 256 / 256 / 256 / 256 / 256) = 256 * bytesN 0 (x / 256 / 256 / 256 / 256 / 256 / 256 / 256 / 256) + popN 8 (x / 256 / 256 / 256 / 256 / 256 / 256 / 256 % 256) := rfl
  have f8 : bytesN 0 (x / 256 / 256 / 256 / 256 / 256 / 256 / 256 / 256) = 0 := rfl
  have hb : bytesN 8 x = 256 * (256 * (256 * (256 * (256 * (256 * (256 * (256 * 0 + c7) + c6) + c5) + c4) + c3) + c2) + c1) + c0 := by
    rw [f0, f1, f2, f3, f4, f5, f6, f7, f8, h0, h1, h2, h3, h4, h5, h6, h7]
  have b0 : c0 ≤ 8 := by rw [h0]; exact (byte_ok _ (by omega)).2.2.2.2
  have b1 : c1 ≤ 8 := by rw [h1]; exact (byte_ok _ (by omega)).2.2.2.2
  have b2 : c2 ≤ 8 := by rw [h2]; exact (byte_ok _ (by omega)).2.2.2.2
  have b3 : c3 ≤ 8 := by rw [h3]; exact (byte_ok _ (by omega)).2.2.2.2
  have b4 : c4 ≤ 8 := by rw [h4]; exact (byte_ok _ (by omega)).2.2.2.2
  have b5 : c5 ≤ 8 := by rw [h5]; exact (byte_ok _ (by omega)).2.2.2.2
  have b6 : c6 ≤ 8 := by rw [h6]; exact (byte_ok _ (by omega)).2.2.2.2
  have b7 : c7 ≤ 8 := by rw [h7]; exact (byte_ok _ (by omega)).2.2.2.2
  rw [hp]
  exact ones_sum hb b0 b1 b2 b3 b4 b5 b6 b7

/-! ## The least bit -/

/-- The least bit that is set: so many are not ahead of it. -/
def IsLow (x t : Nat) : Prop := t < 64 ∧ x.testBit t = true ∧ ∀ j < t, x.testBit j = false
theorem low_ex {x : Nat} (h0 : x ≠ 0) (hx : x < 2 ^ 64) : ∃ t, IsLow x t := by
  have key : ∀ n, (∃ t, t < n ∧ x.testBit t = true ∧ ∀ j < t, x.testBit j = false) ∨ ∀ j < n, x.testBit j = false := by
    intro n
    induction n with
    | zero => exact Or.inr (by simp)
    | succ n ih =>
      rcases ih with ⟨t, h1, h2, h3⟩ | h
      · exact Or.inl ⟨t, by omega, h2, h3⟩
      · cases hb : x.testBit n with
        | true => exact Or.inl ⟨n, by omega, hb, h⟩
        | false =>
          refine Or.inr fun j hj => ?_
          rcases Nat.lt_succ_iff_lt_or_eq.1 hj with h4 | rfl
          · exact h j h4
          · exact hb
  rcases key 64 with ⟨t, h⟩ | h
  · exact ⟨t, h⟩
  · refine absurd (Nat.eq_of_testBit_eq fun j => ?_) h0
    rw [Nat.zero_testBit]
    rcases Nat.lt_or_ge j 64 with hj | hj
    · exact h j hj
    · exact Nat.testBit_lt_two_pow (Nat.lt_of_lt_of_le hx (Nat.pow_le_pow_right (by omega) hj))

/-- x & -x. -/
theorem low_and {x t : Nat} (h : IsLow x t) (hx : x < 2 ^ 64) : x &&& (2 ^ 64 - x) = 2 ^ t := by
  obtain ⟨ht, hb, hz⟩ := h
  have h0 : x ≠ 0 := fun e => by simp [e] at hb
  obtain ⟨q, hq⟩ : ∃ q, x = 2 ^ t * (2 * q + 1) := by
    have hd : x % 2 ^ t = 0 := by
      apply Nat.eq_of_testBit_eq
      intro j
      rw [Nat.testBit_mod_two_pow, Nat.zero_testBit]
      by_cases hj : j < t
      · simp [hz j hj]
      · simp [hj]
    have hodd : x / 2 ^ t % 2 = 1 := by
      have := hb
      rw [Nat.testBit_eq_decide_div_mod_eq] at this
      simpa using this
    refine ⟨x / 2 ^ t / 2, ?_⟩
    have := Nat.div_add_mod x (2 ^ t)
    rw [hd] at this
    have e2 : 2 * (x / 2 ^ t / 2) + 1 = x / 2 ^ t := by omega
    rw [e2]
    omega
  have hpred : x - 1 = 2 ^ t * (2 * q) + (2 ^ t - 1) := by
    have := Nat.two_pow_pos t
    rw [hq, Nat.mul_add]
    omega
  have hlt : 2 ^ t - 1 < 2 ^ t := by have := Nat.two_pow_pos t; omega
  apply Nat.eq_of_testBit_eq
  intro j
  have e1 : 2 ^ 64 - x = 2 ^ 64 - ((x - 1) + 1) := by omega
  rw [Nat.testBit_and, e1, Nat.testBit_two_pow_sub_succ (by omega), hpred, Nat.testBit_two_pow_mul_add _ hlt, Nat.testBit_two_pow]
  rcases Nat.lt_trichotomy j t with hj | rfl | hj
  · rw [hz j hj]
    have : ¬ t = j := by omega
    simp [this]
  · have : ¬ j < j := by omega
    simp [hb, ht, Nat.testBit_zero]
  · have h2 : x.testBit j = (2 * q).testBit (j - t) := by
      have : x = 2 ^ t * (2 * q + 1) + 0 := by omega
      rw [this, Nat.testBit_two_pow_mul_add _ (Nat.two_pow_pos t), if_neg (by omega)]
      obtain ⟨k, hk⟩ : ∃ k, j - t = k + 1 := ⟨j - t - 1, by omega⟩
      rw [hk, Nat.testBit_succ, Nat.testBit_succ]
      congr 1
      omega
    have h3 : ¬ j < t := by omega
    have h4 : ¬ t = j := by omega
    rw [h2]
    simp only [h3, if_false, h4, decide_false]
    cases (2 * q).testBit (j - t) <;> simp

end Go.Proofs.YtkceclemfhbclaaDoor.Ev
