/- Texts of the proof of one statement, part 9: each as it stood by itself. -/
import Derived.Test.YtblhcbmcbhoeiaaGreatDoorPkH

section
/- Words as rows of bits: how many are set, the least one, what a flip does. -/
namespace Go.Proofs.YtblhcbmcbhoeiaaGreatDoor.Ev
set_option linter.unusedSimpArgs false
set_option linter.unusedVariables false
open Go

/-! ## How many bits are set -/

def popN : Nat → Nat → Nat
  | 0, _ => 0
  | n + 1, x => x % 2 + popN n (x / 2)

theorem and_split (a b c d : Nat) (hb : b < 256) (hd : d < 256) : (256 * a + b) &&& (256 * c + d) = 256 * (a &&& c) + (b &&& d) := by
  have hbd : b &&& d < 256 := Nat.lt_of_le_of_lt Nat.and_le_left hb
  apply Nat.eq_of_testBit_eq
  intro i
  have e1 := Nat.testBit_two_pow_mul_add (i := 8) a (b := b) hb i
  have e2 := Nat.testBit_two_pow_mul_add (i := 8) c (b := d) hd i
  have e3 := Nat.testBit_two_pow_mul_add (i := 8) (a &&& c) (b := b &&& d) hbd i
  rw [show (2 : Nat) ^ 8 = 256 from rfl] at e1 e2 e3
  rw [Nat.testBit_and, e1, e2, e3]
  split <;> simp

def S1 (m x : Nat) : Nat := ((x >>> 1) &&& m) + (x &&& m)
def S2 (m x : Nat) : Nat := ((x >>> 2) &&& m) + (x &&& m)
def S3 (m x : Nat) : Nat := ((x >>> 4) + x) &&& m

theorem low1 : ∀ t < 2, ∀ r < 256, (128 * t + r / 2) &&& 85 = (r / 2) &&& 85 := by decide +kernel
theorem low2 : ∀ t < 4, ∀ r < 256, (64 * t + r / 4) &&& 51 = (r / 4) &&& 51 := by decide +kernel
theorem S1_split (m q r : Nat) (hr : r < 256) : S1 (256 * m + 85) (256 * q + r) = 256 * S1 m q + S1 85 r := by
  have e : (256 * q + r) >>> 1 = 256 * (q >>> 1) + (128 * (q % 2) + r / 2) := by
    simp only [Nat.shiftRight_eq_div_pow]
    omega
  have l := low1 (q % 2) (by omega) r hr
  simp only [S1]
  rw [e, and_split _ _ _ _ (by omega) (by omega), and_split _ _ _ _ hr (by omega), l]
  rw [show r >>> 1 = r / 2 by simp [Nat.shiftRight_eq_div_pow]]
  omega
theorem S2_split (m q r : Nat) (hr : r < 256) : S2 (256 * m + 51) (256 * q + r) = 256 * S2 m q + S2 51 r := by
  have e : (256 * q + r) >>> 2 = 256 * (q >>> 2) + (64 * (q % 4) + r / 4) := by
    simp only [Nat.shiftRight_eq_div_pow]
    omega
  have l := low2 (q % 4) (by omega) r hr
  simp only [S2]
  rw [e, and_split _ _ _ _ (by omega) (by omega), and_split _ _ _ _ hr (by omega), l]
  rw [show r >>> 2 = r / 4 by simp [Nat.shiftRight_eq_div_pow]]
  omega
theorem S3_split (m q r : Nat) (hr : r / 16 ≤ 4) (hr2 : r % 16 ≤ 4) (hq : q % 16 ≤ 4) : S3 (256 * m + 15) (256 * q + r) = 256 * S3 m q + S3 15 r := by
  have e : (256 * q + r) >>> 4 + (256 * q + r) = 256 * (q >>> 4 + q) + (16 * (q % 16) + r / 16 + r) := by
    simp only [Nat.shiftRight_eq_div_pow]
    omega
  simp only [S3]
  rw [e, and_split _ _ _ _ (by omega) (by omega)]
  have h15 : ∀ x : Nat, x &&& 15 = x % 16 := fun x => Nat.and_two_pow_sub_one_eq_mod x 4
  rw [h15, h15, show r >>> 4 = r / 16 by simp [Nat.shiftRight_eq_div_pow]]
  omega

/-- A byte. -/
theorem byte_ok : ∀ r < 256, S3 15 (S2 51 (S1 85 r)) = popN 8 r ∧ S1 85 r < 256 ∧ S2 51 (S1 85 r) / 16 ≤ 4 ∧ S2 51 (S1 85 r) % 16 ≤ 4 ∧ popN 8 r ≤ 8 := by decide +kernel

def rep8 (d : Nat) : Nat → Nat
  | 0 => 0
  | n + 1 => 256 * rep8 d n + d

/-- The sums of the bytes. -/
def bytesN : Nat → Nat → Nat
  | 0, _ => 0
  | n + 1, x => 256 * bytesN n (x / 256) + popN 8 (x % 256)

theorem S_zero (x : Nat) : S1 0 x = 0 ∧ S2 0 x = 0 ∧ S3 0 x = 0 := by simp [S1, S2, S3]
theorem bytes_ok : ∀ n x, S3 (rep8 15 n) (S2 (rep8 51 n) (S1 (rep8 85 n) x)) = bytesN n x ∧ S2 (rep8 51 n) (S1 (rep8 85 n) x) % 16 ≤ 4
  | 0, x => by simp [rep8, S_zero, bytesN]
  | n + 1, x => by
    obtain ⟨h1, h2⟩ := bytes_ok n (x / 256)
    obtain ⟨b1, b2, b3, b4, b5⟩ := byte_ok (x % 256) (by omega)
    have e1 : S1 (rep8 85 (n + 1)) x = 256 * S1 (rep8 85 n) (x / 256) + S1 85 (x % 256) := by
      have := S1_split (rep8 85 n) (x / 256) (x % 256) (by omega)
      rw [show 256 * (x / 256) + x % 256 = x by omega] at this
      exact this
    have e2 := S2_split (rep8 51 n) (S1 (rep8 85 n) (x / 256)) (S1 85 (x % 256)) b2
    have e3 := S3_split (rep8 15 n) (S2 (rep8 51 n) (S1 (rep8 85 n) (x / 256))) (S2 51 (S1 85 (x % 256))) b3 b4 h2
    rw [e1, show rep8 51 (n + 1) = 256 * rep8 51 n + 51 from rfl, e2, show rep8 15 (n + 1) = 256 * rep8 15 n + 15 from rfl, e3, h1, b1]
    exact ⟨rfl, by omega⟩

theorem popN_byte (n x : Nat) : popN (n + 8) x = popN 8 (x % 256) + popN n (x / 256) := by
  have d : x / 2 / 2 / 2 / 2 / 2 / 2 / 2 / 2 = x / 256 := by omega
  have p : ∀ y, popN 8 y = y % 2 + (y / 2 % 2 + (y / 2 / 2 % 2 + (y / 2 / 2 / 2 % 2 + (y / 2 / 2 / 2 / 2 % 2 + (y / 2 / 2 / 2 / 2 / 2 % 2 + (y / 2 / 2 / 2 / 2 / 2 / 2 % 2 + (y / 2 / 2 / 2 / 2 / 2 / 2 / 2 % 2 + 0))))))) := fun y => rfl
  have q : popN (n + 8) x = x % 2 + (x / 2 % 2 + (x / 2 / 2 % 2 + (x / 2 / 2 / 2 % 2 + (x / 2 / 2 / 2 / 2 % 2 + (x / 2 / 2 / 2 / 2 / 2 % 2 + (x / 2 / 2 / 2 / 2 / 2 / 2 % 2 + (x / 2 / 2 / 2 / 2 / 2 / 2 / 2 % 2 + popN n (x / 2 / 2 / 2 / 2 / 2 / 2 / 2 / 2)))))))) := rfl
  have b0 : x % 256 % 2 = x % 2 := by omega
  have b1 : x % 256 / 2 % 2 = x / 2 % 2 := by omega
  have b2 : x % 256 / 2 / 2 % 2 = x / 2 / 2 % 2 := by omega
  have b3 : x % 256 / 2 / 2 / 2 % 2 = x / 2 / 2 / 2 % 2 := by omega
  have b4 : x % 256 / 2 / 2 / 2 / 2 % 2 = x / 2 / 2 / 2 / 2 % 2 := by omega
  have b5 : x % 256 / 2 / 2 / 2 / 2 / 2 % 2 = x / 2 / 2 / 2 / 2 / 2 % 2 := by omega
  have b6 : x % 256 / 2 / 2 / 2 / 2 / 2 / 2 % 2 = x / 2 / 2 / 2 / 2 / 2 / 2 % 2 := by omega
  have b7 : x % 256 / 2 / 2 / 2 / 2 / 2 / 2 / 2 % 2 = x / 2 / 2 / 2 / 2 / 2 / 2 / 2 % 2 := by omega
  rw [q, d, p, b0, b1, b2, b3, b4, b5, b6, b7]
  omega

/-- The whole: as the library has it. -/
def onesN (x : Nat) : Nat :=
  let y := bytesN 8 x
  let a := (y + y >>> 8) % 18446744073709551616
  let b := (a + a >>> 16) % 18446744073709551616
  let c := (b + b >>> 32) % 18446744073709551616
  c &&& 127

section
variable {c0 c1 c2 c3 c4 c5 c6 c7 y a b : Nat}
theorem sum_a (h0 : c0 ≤ 8) (h1 : c1 ≤ 8) (h2 : c2 ≤ 8) (h3 : c3 ≤ 8) (h4 : c4 ≤ 8) (h5 : c5 ≤ 8) (h6 : c6 ≤ 8) (h7 : c7 ≤ 8) (hy : y = 256 * (256 * (256 * (256 * (256 * (256 * (256 * (256 * 0 + c7) + c6) + c5) + c4) + c3) + c2) + c1) + c0) : (y + y / 256) % 18446744073709551616 = 256 * (256 * (256 * (256 * (256 * (256 * (256 * c7 + (c6 + c7)) + (c5 + c6)) + (c4 + c5)) + (c3 + c4)) + (c2 + c3)) + (c1 + c2)) + (c0 + c1) := by
  have e : y / 256 = 256 * (256 * (256 * (256 * (256 * (256 * c7 + c6) + c5) + c4) + c3) + c2) + c1 := by
    obtain ⟨t, ht⟩ : ∃ t, t = 256 * (256 * (256 * (256 * (256 * (256 * c7 + c6) + c5) + c4) + c3) + c2) + c1 := ⟨_, rfl⟩
    have hy2 : y = 256 * t + c0 := by rw [hy, ht, Nat.mul_zero, Nat.zero_add]
    rw [← ht]
    clear ht hy h1 h2 h3 h4 h5 h6 h7
    omega
  rw [hy] at e ⊢
  rw [e, Nat.mod_eq_of_lt (by omega)]
  omega
theorem sum_b {d0 d1 d2 d3 d4 d5 d6 d7 : Nat} (h0 : d0 ≤ 16) (h1 : d1 ≤ 16) (h2 : d2 ≤ 16) (h3 : d3 ≤ 16) (h4 : d4 ≤ 16) (h5 : d5 ≤ 16) (h6 : d6 ≤ 16) (h7 : d7 ≤ 16) (ha : a = 256 * (256 * (256 * (256 * (256 * (256 * (256 * d7 + d6) + d5) + d4) + d3) + d2) + d1) + d0) : (a + a / 65536) % 18446744073709551616 = 256 * (256 * (256 * (256 * (256 * (256 * (256 * d7 + d6) + (d5 + d7)) + (d4 + d6)) + (d3 + d5)) + (d2 + d4)) + (d1 + d3)) + (d0 + d2) := by
  have e : a / 65536 = 256 * (256 * (256 * (256 * (256 * d7 + d6) + d5) + d4) + d3) + d2 := by
    obtain ⟨t, ht⟩ : ∃ t, t = 256 * (256 * (256 * (256 * (256 * d7 + d6) + d5) + d4) + d3) + d2 := ⟨_, rfl⟩
    have hy2 : a = 256 * (256 * t + d1) + d0 := by rw [ha, ht]
    rw [← ht]
    clear ht ha h2 h3 h4 h5 h6 h7
    omega
  rw [ha] at e ⊢
  rw [e, Nat.mod_eq_of_lt (by omega)]
  omega
theorem sum_c {d0 d1 d2 d3 d4 d5 d6 d7 : Nat} (h0 : d0 ≤ 32) (h1 : d1 ≤ 32) (h2 : d2 ≤ 32) (h3 : d3 ≤ 32) (h4 : d4 ≤ 32) (h5 : d5 ≤ 32) (h6 : d6 ≤ 32) (h7 : d7 ≤ 32) (ha : a = 256 * (256 * (256 * (256 * (256 * (256 * (256 * d7 + d6) + d5) + d4) + d3) + d2) + d1) + d0) : (a + a / 4294967296) % 18446744073709551616 = 256 * (256 * (256 * (256 * (256 * (256 * (256 * d7 + d6) + d5) + d4) + (d3 + d7)) + (d2 + d6)) + (d1 + d5)) + (d0 + d4) := by
  have e : a / 4294967296 = 256 * (256 * (256 * d7 + d6) + d5) + d4 := by
    obtain ⟨t, ht⟩ : ∃ t, t = 256 * (256 * (256 * d7 + d6) + d5) + d4 := ⟨_, rfl⟩
    have hy2 : a = 256 * (256 * (256 * (256 * t + d3) + d2) + d1) + d0 := by rw [ha, ht]
    rw [← ht]
    clear ht ha h4 h5 h6 h7
    omega
  rw [ha] at e ⊢
  rw [e, Nat.mod_eq_of_lt (by omega)]
  omega
theorem ones_sum {x : Nat} (hy : bytesN 8 x = 256 * (256 * (256 * (256 * (256 * (256 * (256 * (256 * 0 + c7) + c6) + c5) + c4) + c3) + c2) + c1) + c0) (h0 : c0 ≤ 8) (h1 : c1 ≤ 8) (h2 : c2 ≤ 8) (h3 : c3 ≤ 8) (h4 : c4 ≤ 8) (h5 : c5 ≤ 8) (h6 : c6 ≤ 8) (h7 : c7 ≤ 8) : onesN x = c0 + (c1 + (c2 + (c3 + (c4 + (c5 + (c6 + (c7 + 0))))))) := by
  have h127 : ∀ x : Nat, x &&& 127 = x % 128 := fun x => Nat.and_two_pow_sub_one_eq_mod x 7
  have b16 : ∀ p q : Nat, p ≤ 8 → q ≤ 8 → p + q ≤ 16 := fun p q _ _ => by omega
  have b32 : ∀ p q : Nat, p ≤ 16 → q ≤ 16 → p + q ≤ 32 := fun p q _ _ => by omega
  have w : ∀ p : Nat, p ≤ 8 → p ≤ 16 := fun p _ => by omega
  have w2 : ∀ p : Nat, p ≤ 16 → p ≤ 32 := fun p _ => by omega
  have ea := sum_a h0 h1 h2 h3 h4 h5 h6 h7 hy
  have eb := sum_b (d0 := c0 + c1) (d1 := c1 + c2) (d2 := c2 + c3) (d3 := c3 + c4) (d4 := c4 + c5) (d5 := c5 + c6) (d6 := c6 + c7) (d7 := c7) (b16 _ _ h0 h1) (b16 _ _ h1 h2) (b16 _ _ h2 h3) (b16 _ _ h3 h4) (b16 _ _ h4 h5) (b16 _ _ h5 h6) (b16 _ _ h6 h7) (w _ h7) ea
  have ec := sum_c (d0 := c0 + c1 + (c2 + c3)) (d1 := c1 + c2 + (c3 + c4)) (d2 := c2 + c3 + (c4 + c5)) (d3 := c3 + c4 + (c5 + c6)) (d4 := c4 + c5 + (c6 + c7)) (d5 := c5 + c6 + c7) (d6 := c6 + c7) (d7 := c7) (b32 _ _ (b16 _ _ h0 h1) (b16 _ _ h2 h3)) (b32 _ _ (b16 _ _ h1 h2) (b16 _ _ h3 h4)) (b32 _ _ (b16 _ _ h2 h3) (b16 _ _ h4 h5)) (b32 _ _ (b16 _ _ h3 h4) (b16 _ _ h5 h6)) (b32 _ _ (b16 _ _ h4 h5) (b16 _ _ h6 h7)) (b32 _ _ (b16 _ _ h5 h6) (w _ h7)) (w2 _ (b16 _ _ h6 h7)) (w2 _ (w _ h7)) eb
  simp only [onesN, h127, Nat.shiftRight_eq_div_pow]
  rw [show (2 : Nat) ^ 8 = 256 from rfl, show (2 : Nat) ^ 16 = 65536 from rfl, show (2 : Nat) ^ 32 = 4294967296 from rfl, ec]
  clear ec eb ea hy
  have m : ∀ p q : Nat, q < 128 → (256 * p + q) % 128 = q := fun p q _ => by omega
  rw [m _ _ (by omega)]
  omega
end

theorem ones_ok (x : Nat) : onesN x = popN 64 x := by
  obtain ⟨c0, h0⟩ : ∃ c, c = popN 8 (x % 256) := ⟨_, rfl⟩
  obtain ⟨c1, h1⟩ : ∃ c, c = popN 8 (x / 256 % 256) := ⟨_, rfl⟩
  obtain ⟨c2, h2⟩ : ∃ c, c = popN 8 (x / 256 / 256 % 256) := ⟨_, rfl⟩
  obtain ⟨c3, h3⟩ : ∃ c, c = popN 8 (x / 256 / 256 / 256 % 256) := ⟨_, rfl⟩
  obtain ⟨c4, h4⟩ : ∃ c, c = popN 8 (x / 256 / 256 / 256 / 256 % 256) := ⟨_, rfl⟩
  obtain ⟨c5, h5⟩ : ∃ c, c = popN 8 (x / 256 / 256 / 256 / 256 / 256 % 256) := ⟨_, rfl⟩
  obtain ⟨c6, h6⟩ : ∃ c, c = popN 8 (x / 256 / 256 / 256 / 256 / 256 / 256 % 256) := ⟨_, rfl⟩
  obtain ⟨c7, h7⟩ : ∃ c, c = popN 8 (x / 256 / 256 / 256 / 256 / 256 / 256 / 256 % 256) := ⟨_, rfl⟩
  have e0 : popN 64 (x) = popN 8 (x % 256) + popN 56 (x / 256) := popN_byte 56 (x)
  have e1 : popN 56 (x / 256) = popN 8 (x / 256 % 256) + popN 48 (x / 256 / 256) := popN_byte 48 (x / 256)
  have e2 : popN 48 (x / 256 / 256) = popN 8 (x / 256 / 256 % 256) + popN 40 (x / 256 / 256 / 256) := popN_byte 40 (x / 256 / 256)
  have e3 : popN 40 (x / 256 / 256 / 256) = popN 8 (x / 256 / 256 / 256 % 256) + popN 32 (x / 256 / 256 / 256 / 256) := popN_byte 32 (x / 256 / 256 / 256)
  have e4 : popN 32 (x / 256 / 256 / 256 / 256) = popN 8 (x / 256 / 256 / 256 / 256 % 256) + popN 24 (x / 256 / 256 / 256 / 256 / 256) := popN_byte 24 (x / 256 / 256 / 256 / 256)
  have e5 : popN 24 (x / 256 / 256 / 256 / 256 / 256) = popN 8 (x / 256 / 256 / 256 / 256 / 256 % 256) + popN 16 (x / 256 / 256 / 256 / 256 / 256 / 256) := popN_byte 16 (x / 256 / 256 / 256 / 256 / 256)
  have e6 : popN 16 (x / 256 / 256 / 256 / 256 / 256 / 256) = popN 8 (x / 256 / 256 / 256 / 256 / 256 / 256 % 256) + popN 8 (x / 256 / 256 / 256 / 256 / 256 / 256 / 256) := popN_byte 8 (x / 256 / 256 / 256 / 256 / 256 / 256)
  have e7 : popN 8 (x / 256 / 256 / 256 / 256 / 256 / 256 / 256) = popN 8 (x / 256 / 256 / 256 / 256 / 256 / 256 / 256 % 256) + popN 0 (x / 256 / 256 / 256 / 256 / 256 / 256 / 256 / 256) := popN_byte 0 (x / 256 / 256 / 256 / 256 / 256 / 256 / 256)
  have e8 : popN 0 (x / 256 / 256 / 256 / 256 / 256 / 256 / 256 / 256) = 0 := rfl
  have hp : popN 64 x = c0 + (c1 + (c2 + (c3 + (c4 + (c5 + (c6 + (c7 + 0))))))) := by
    rw [e0, e1, e2, e3, e4, e5, e6, e7, e8, h0, h1, h2, h3, h4, h5, h6, h7]
  have f0 : bytesN 8 (x) = 256 * bytesN 7 (x / 256) + popN 8 (x % 256) := rfl
  have f1 : bytesN 7 (x / 256) = 256 * bytesN 6 (x / 256 / 256) + popN 8 (x / 256 % 256) := rfl
  have f2 : bytesN 6 (x / 256 / 256) = 256 * bytesN 5 (x / 256 / 256 / 256) + popN 8 (x / 256 / 256 % 256) := rfl
  have f3 : bytesN 5 (x / 256 / 256 / 256) = 256 * bytesN 4 (x / 256 / 256 / 256 / 256) + popN 8 (x / 256 / 256 / 256 % 256) := rfl
  have f4 : bytesN 4 (x / 256 / 256 / 256 / 256) = 256 * bytesN 3 (x / 256 / 256 / 256 / 256 / 256) + popN 8 (x / 256 / 256 / 256 / 256 % 256) := rfl
  have f5 : bytesN 3 (x / 256 / 256 / 256 / 256 / 256) = 256 * bytesN 2 (x / 256 / 256 / 256 / 256 / 256 / 256) + popN 8 (x / 256 / 256 / 256 / 256 / 256 % 256) := rfl
  have f6 : bytesN 2 (x / 256 / 256 / 256 / 256 / 256 / 256) = 256 * bytesN 1 (x / 256 / 256 / 256 / 256 / 256 / 256 / 256) + popN 8 (x / 256 / 256 / 256 / 256 / 256 / 256 % 256) := rfl
  have f7 : bytesN 1 (x / 256 / 256 / 256 / 256 / 256 / 256 / 256) = 256 * bytesN 0 (x / 256 / 256 / 256 / 256 / 256 / 256 / 256 / 256) + popN 8 (x / 256 / 256 / 256 / 256 / 256 / 256 / 256 % 256) := rfl
  have f8 : bytesN 0 (x / 256 / 256 / 256 / 256 / 256 / 256 / 256 / 256) = 0 := rfl
  have hb : bytesN 8 x = 256 * (256 * (256 * (256 * (256 * (256 * (256 * (256 * 0 + c7) + c6) + c5) + c4) + c3) + c2) + c1) + c0 := by
    rw [f0, f1, f2, f3, f4, f5, f6, f7, f8, h0, h1, h2, h3, h4, h5, h6, h7]
  have b0 : c0 ≤ 8 := by rw [h0]; exact (byte_ok _ (by omega)).2.2.2.2
  have b1 : c1 ≤ 8 := by rw [h1]; exact (byte_ok _ (by omega)).2.2.2.2
  have b2 : c2 ≤ 8 := by rw [h2]; exact (byte_ok _ (by omega)).2.2.2.2
  have b3 : c3 ≤ 8 := by rw [h3]; exact (byte_ok _ (by omega)).2.2.2.2
  have b4 : c4 ≤ 8 := by rw [h4]; exact (byte_ok _ (by omega)).2.2.2.2
  have b5 : c5 ≤ 8 := by rw [h5]; exact (byte_ok _ (by omega)).2.2.2.2
  have b6 : c6 ≤ 8 := by rw [h6]; exact (byte_ok _ (by omega)).2.2.2.2
  have b7 : c7 ≤ 8 := by rw [h7]; exact (byte_ok _ (by omega)).2.2.2.2
  rw [hp]
  exact ones_sum hb b0 b1 b2 b3 b4 b5 b6 b7

/-! ## The least bit -/

/-- The least bit that is set: so many are not ahead of it. -/
def IsLow (x t : Nat) : Prop := t < 64 ∧ x.testBit t = true ∧ ∀ j < t, x.testBit j = false
theorem low_ex {x : Nat} (h0 : x ≠ 0) (hx : x < 2 ^ 64) : ∃ t, IsLow x t := by
  have key : ∀ n, (∃ t, t < n ∧ x.testBit t = true ∧ ∀ j < t, x.testBit j = false) ∨ ∀ j < n, x.testBit j = false := by
    intro n
    induction n with
    | zero => exact Or.inr (by simp)
    | succ n ih =>
      rcases ih with ⟨t, h1, h2, h3⟩ | h
      · exact Or.inl ⟨t, by omega, h2, h3⟩
      · cases hb : x.testBit n with
        | true => exact Or.inl ⟨n, by omega, hb, h⟩
        | false =>
          refine Or.inr fun j hj => ?_
          rcases Nat.lt_succ_iff_lt_or_eq.1 hj with h4 | rfl
          · exact h j h4
          · exact hb
  rcases key 64 with ⟨t, h⟩ | h
  · exact ⟨t, h⟩
  · refine absurd (Nat.eq_of_testBit_eq fun j => ?_) h0
    rw [Nat.zero_testBit]
    rcases Nat.lt_or_ge j 64 with hj | hj
    · exact h j hj
    · exact Nat.testBit_lt_two_pow (Nat.lt_of_lt_of_le hx (Nat.pow_le_pow_right (by omega) hj))

/-- x & -x. -/
theorem low_and {x t : Nat} (h : IsLow x t) (hx : x < 2 ^ 64) : x &&& (2 ^ 64 - x) = 2 ^ t := by
  obtain ⟨ht, hb, hz⟩ := h
  have h0 : x ≠ 0 := fun e => by simp [e] at hb
  obtain ⟨q, hq⟩ : ∃ q, x = 2 ^ t * (2 * q + 1) := by
    have hd : x % 2 ^ t = 0 := by
      apply Nat.eq_of_testBit_eq
      intro j
      rw [Nat.testBit_mod_two_pow, Nat.zero_testBit]
      by_cases hj : j < t
      · simp [hz j hj]
      · simp [hj]
    have hodd : x / 2 ^ t % 2 = 1 := by
      have := hb
      rw [Nat.testBit_eq_decide_div_mod_eq] at this
      simpa using this
    refine ⟨x / 2 ^ t / 2, ?_⟩
    have := Nat.div_add_mod x (2 ^ t)
    rw [hd] at this
    have e2 : 2 * (x / 2 ^ t / 2) + 1 = x / 2 ^ t := by omega
    rw [e2]
    omega
  have hpred : x - 1 = 2 ^ t * (2 * q) + (2 ^ t - 1) := by
    have := Nat.two_pow_pos t
    rw [hq, Nat.mul_add]
    omega
  have hlt : 2 ^ t - 1 < 2 ^ t := by have := Nat.two_pow_pos t; omega
  apply Nat.eq_of_testBit_eq
  intro j
  have e1 : 2 ^ 64 - x = 2 ^ 64 - ((x - 1) + 1) := by omega
  rw [Nat.testBit_and, e1, Nat.testBit_two_pow_sub_succ (by omega), hpred, Nat.testBit_two_pow_mul_add _ hlt, Nat.testBit_two_pow]
  rcases Nat.lt_trichotomy j t with hj | rfl | hj
  · rw [hz j hj]
    have : ¬ t = j := by omega
    simp [this]
  · have : ¬ j < j := by omega
    simp [hb, ht, Nat.testBit_zero]
  · have h2 : x.testBit j = (2 * q).testBit (j - t) := by
      have : x = 2 ^ t * (2 * q + 1) + 0 := by omega
      rw [this, Nat.testBit_two_pow_mul_add _ (Nat.two_pow_pos t), if_neg (by omega)]
      obtain ⟨k, hk⟩ : ∃ k, j - t = k + 1 := ⟨j - t - 1, by omega⟩
      rw [hk, Nat.testBit_succ, Nat.testBit_succ]
      congr 1
      omega
    have h3 : ¬ j < t := by omega
    have h4 : ¬ t = j := by omega
    rw [h2]
    simp only [h3, if_false, h4, decide_false]
    cases (2 * q).testBit (j - t) <;> simp

end Go.Proofs.YtblhcbmcbhoeiaaGreatDoor.Ev
end

section
/- What the functions of a mask come to: its words as a row of bits. -/
namespace Go.Proofs.YtblhcbmcbhoeiaaGreatDoor.Ev
set_option linter.unusedSimpArgs false
set_option linter.unusedVariables false
open Go
set_option maxRecDepth 100000

/-! ## Operations on numbers below 2^64 -/

theorem shr_nat (w r : Nat) (hr : r < 64) (k : IntKind) : binV .shr (.int .u64 (w : Int)) (.int k (r : Int)) = some (.int .u64 ((w >>> r : Nat) : Int)) := by
  have h64 : min r 64 = r := by omega
  simp only [binV, IntKind.bits]
  rw [Nat.shiftRight_eq_div_pow, if_pos (by omega), Int.toNat_natCast, h64, Int.fdiv_eq_ediv_of_nonneg _ (by exact_mod_cast Nat.zero_le (2 ^ r))]
  simp
theorem shl_one (r : Nat) (hr : r < 64) (k : IntKind) : binV .shl (.int .u64 1) (.int k (r : Int)) = some (.int .u64 ((2 ^ r : Nat) : Int)) := by
  have h64 : min r 64 = r := by omega
  have hp : 2 ^ r < 2 ^ 64 := Nat.pow_lt_pow_right (by omega) hr
  simp only [binV, IntKind.bits]
  rw [if_pos (by omega), Int.toNat_natCast, h64, wrap_u64]
  have : ((1 : Int) * 2 ^ r) = ((2 ^ r : Nat) : Int) := by simp
  rw [this, Int.emod_eq_of_lt (Int.natCast_nonneg _) (by omega)]
theorem and_nat (a b : Nat) (hb : b < 2 ^ 64) : binV .and (.int .u64 (a : Int)) (.int .u64 (b : Int)) = some (.int .u64 ((a &&& b : Nat) : Int)) := by
  have hab : a &&& b < 2 ^ 64 := Nat.lt_of_le_of_lt Nat.and_le_right hb
  have e : (BitVec.ofInt 64 (a : Int) &&& BitVec.ofInt 64 (b : Int)).toNat = a &&& b := by
    rw [BitVec.toNat_and, BitVec.ofInt_natCast, BitVec.ofInt_natCast, BitVec.toNat_ofNat, BitVec.toNat_ofNat, ← Nat.and_mod_two_pow, Nat.mod_eq_of_lt hab]
  have e2 : (BitVec.ofInt (IntKind.bits .u64) (a : Int) &&& BitVec.ofInt (IntKind.bits .u64) (b : Int)).toNat = a &&& b := e
  simp only [binV, if_true]
  rw [e2, wrap_u64, Int.emod_eq_of_lt (by omega) (by omega)]
theorem xor_nat (a b : Nat) (ha : a < 2 ^ 64) (hb : b < 2 ^ 64) : binV .xor (.int .u64 (a : Int)) (.int .u64 (b : Int)) = some (.int .u64 ((a ^^^ b : Nat) : Int)) := by
  have hab : a ^^^ b < 2 ^ 64 := Nat.xor_lt_two_pow ha hb
  have e : (BitVec.ofInt 64 (a : Int) ^^^ BitVec.ofInt 64 (b : Int)).toNat = a ^^^ b := by
    rw [BitVec.toNat_xor, BitVec.ofInt_natCast, BitVec.ofInt_natCast, BitVec.toNat_ofNat, BitVec.toNat_ofNat, ← Nat.xor_mod_two_pow, Nat.mod_eq_of_lt hab]
  have e2 : (BitVec.ofInt (IntKind.bits .u64) (a : Int) ^^^ BitVec.ofInt (IntKind.bits .u64) (b : Int)).toNat = a ^^^ b := e
  simp only [binV, if_true]
  rw [e2, wrap_u64, Int.emod_eq_of_lt (by omega) (by omega)]
theorem add_nat (a b : Nat) : binV .add (.int .u64 (a : Int)) (.int .u64 (b : Int)) = some (.int .u64 (((a + b) % 18446744073709551616 : Nat) : Int)) := by
  simp only [binV, if_true, wrap_u64]
  congr 2

theorem and_i64 (c m : Nat) (hm : m < 2 ^ 63) : binV .and (.int .i64 (IntKind.wrap .i64 (c : Int))) (.int .i64 (m : Int)) = some (.int .i64 ((c &&& m : Nat) : Int)) := by
  have hab : c &&& m < 2 ^ 63 := Nat.lt_of_le_of_lt Nat.and_le_right hm
  have e1 : (BitVec.ofInt 64 (IntKind.wrap .i64 (c : Int))) = BitVec.ofInt 64 (c : Int) := by
    apply BitVec.eq_of_toNat_eq
    rw [BitVec.toNat_ofInt, BitVec.toNat_ofInt, wrap_i64', show ((2 ^ 64 : Nat) : Int) = 18446744073709551616 from rfl]
    have : ((c : Int) + 9223372036854775808) % 18446744073709551616 - 9223372036854775808 = (c : Int) - 18446744073709551616 * (((c : Int) + 9223372036854775808) / 18446744073709551616) := by omega
    rw [this, Int.sub_mul_emod_self_left]
  have e : (BitVec.ofInt 64 (IntKind.wrap .i64 (c : Int)) &&& BitVec.ofInt 64 (m : Int)).toNat = c &&& m := by
    rw [e1, BitVec.toNat_and, BitVec.ofInt_natCast, BitVec.ofInt_natCast, BitVec.toNat_ofNat, BitVec.toNat_ofNat, ← Nat.and_mod_two_pow, Nat.mod_eq_of_lt (by omega)]
  have e2 : (BitVec.ofInt (IntKind.bits .i64) (IntKind.wrap .i64 (c : Int)) &&& BitVec.ofInt (IntKind.bits .i64) (m : Int)).toNat = c &&& m := e
  simp only [binV, if_true]
  rw [e2, wrap_i64 (by omega) (by omega)]
theorem or_63 (i : Nat) : i ||| 63 = i / 64 * 64 + 63 := by
  have l : ∀ r < 64, r ||| 63 = 63 := by decide
  have h63 : i % 64 ||| 63 = 63 := l _ (by omega)
  apply Nat.eq_of_testBit_eq
  intro j
  have e1 := Nat.testBit_two_pow_mul_add (i := 6) (i / 64) (b := i % 64) (by omega) j
  have e2 := Nat.testBit_two_pow_mul_add (i := 6) 0 (b := 63) (by omega) j
  have e3 := Nat.testBit_two_pow_mul_add (i := 6) (i / 64) (b := 63) (by omega) j
  rw [show 2 ^ 6 * (i / 64) + i % 64 = i by omega] at e1
  rw [show 2 ^ 6 * 0 + 63 = 63 by omega] at e2
  rw [show 2 ^ 6 * (i / 64) + 63 = i / 64 * 64 + 63 by omega] at e3
  rw [Nat.testBit_or, e1, e2, e3]
  split
  · rw [← Nat.testBit_or, h63]
  · simp
theorem or_i64 (i : Nat) (hi : i < 2 ^ 62) : binV .or (.int .i64 (i : Int)) (.int .i64 63) = some (.int .i64 ((i / 64 * 64 + 63 : Nat) : Int)) := by
  have e : (BitVec.ofInt 64 (i : Int) ||| BitVec.ofInt 64 ((63 : Nat) : Int)).toNat = i / 64 * 64 + 63 := by
    rw [BitVec.toNat_or, BitVec.ofInt_natCast, BitVec.ofInt_natCast, BitVec.toNat_ofNat, BitVec.toNat_ofNat, ← Nat.or_mod_two_pow, or_63, Nat.mod_eq_of_lt (by omega)]
  have e2 : (BitVec.ofInt (IntKind.bits .i64) (i : Int) ||| BitVec.ofInt (IntKind.bits .i64) 63).toNat = i / 64 * 64 + 63 := e
  simp only [binV, if_true]
  rw [e2, wrap_i64 (by omega) (by omega)]

theorem ones_run (h : AHeap) (x : Nat) (hx : x < 2 ^ 64) : run T 84 [.int .u64 (x : Int)] h = some (.int .i64 ((popN 64 x : Nat) : Int), h) := by
  have hb := (bytes_ok 8 x).1
  rw [show rep8 15 8 = 1085102592571150095 by decide +kernel, show rep8 51 8 = 3689348814741910323 by decide +kernel, show rep8 85 8 = 6148914691236517205 by decide +kernel] at hb
  have c1 : binV .shr (.int .u64 (x : Int)) (.int .u64 1) = some (.int .u64 ((x >>> 1 : Nat) : Int)) := shr_nat x 1 (by omega) _
  obtain ⟨y1, k1⟩ : ∃ y, y = x >>> 1 := ⟨_, rfl⟩
  rw [← k1] at c1
  have c2 : binV .and (.int .u64 (y1 : Int)) (.int .u64 6148914691236517205) = some (.int .u64 ((y1 &&& 6148914691236517205 : Nat) : Int)) := and_nat y1 6148914691236517205 (by omega)
  have b2 : y1 &&& 6148914691236517205 ≤ 6148914691236517205 := Nat.and_le_right
  have c3 : binV .and (.int .u64 (x : Int)) (.int .u64 6148914691236517205) = some (.int .u64 ((x &&& 6148914691236517205 : Nat) : Int)) := and_nat x 6148914691236517205 (by omega)
  have b3 : x &&& 6148914691236517205 ≤ 6148914691236517205 := Nat.and_le_right
  have s1 : S1 6148914691236517205 x = (y1 &&& 6148914691236517205) + (x &&& 6148914691236517205) := by rw [k1]; rfl
  rw [s1] at hb
  generalize y1 &&& 6148914691236517205 = y2 at *
  generalize x &&& 6148914691236517205 = y3 at *
  have c4 := add_nat y2 y3
  rw [Nat.mod_eq_of_lt (by omega)] at c4
  obtain ⟨y4, k4⟩ : ∃ y, y = y2 + y3 := ⟨_, rfl⟩
  rw [← k4] at c4 hb
  have c5 : binV .shr (.int .u64 (y4 : Int)) (.int .u64 2) = some (.int .u64 ((y4 >>> 2 : Nat) : Int)) := shr_nat y4 2 (by omega) _
  obtain ⟨y5, k5⟩ : ∃ y, y = y4 >>> 2 := ⟨_, rfl⟩
  rw [← k5] at c5
  have c6 : binV .and (.int .u64 (y5 : Int)) (.int .u64 3689348814741910323) = some (.int .u64 ((y5 &&& 3689348814741910323 : Nat) : Int)) := and_nat y5 3689348814741910323 (by omega)
  have b6 : y5 &&& 3689348814741910323 ≤ 3689348814741910323 := Nat.and_le_right
  have c7 : binV .and (.int .u64 (y4 : Int)) (.int .u64 3689348814741910323) = some (.int .u64 ((y4 &&& 3689348814741910323 : Nat) : Int)) := and_nat y4 3689348814741910323 (by omega)
  have b7 : y4 &&& 3689348814741910323 ≤ 3689348814741910323 := Nat.and_le_right
  have s2 : S2 3689348814741910323 y4 = (y5 &&& 3689348814741910323) + (y4 &&& 3689348814741910323) := by rw [k5]; rfl
  rw [s2] at hb
  generalize y5 &&& 3689348814741910323 = y6 at *
  generalize y4 &&& 3689348814741910323 = y7 at *
  have c8 := add_nat y6 y7
  rw [Nat.mod_eq_of_lt (by omega)] at c8
  obtain ⟨y8, k8⟩ : ∃ y, y = y6 + y7 := ⟨_, rfl⟩
  rw [← k8] at c8 hb
  have c9 : binV .shr (.int .u64 (y8 : Int)) (.int .u64 4) = some (.int .u64 ((y8 >>> 4 : Nat) : Int)) := shr_nat y8 4 (by omega) _
  have b9 : y8 >>> 4 ≤ y8 / 16 := by rw [Nat.shiftRight_eq_div_pow]; exact Nat.le_refl _
  have s3 : S3 1085102592571150095 y8 = (y8 >>> 4 + y8) &&& 1085102592571150095 := rfl
  rw [s3] at hb
  generalize y8 >>> 4 = y9 at *
  have c10 := add_nat y9 y8
  rw [Nat.mod_eq_of_lt (by omega)] at c10
  obtain ⟨y10, k10⟩ : ∃ y, y = y9 + y8 := ⟨_, rfl⟩
  rw [← k10] at c10 hb
  have c11 : binV .and (.int .u64 (y10 : Int)) (.int .u64 1085102592571150095) = some (.int .u64 ((y10 &&& 1085102592571150095 : Nat) : Int)) := and_nat y10 1085102592571150095 (by omega)
  rw [hb] at c11
  have ho := ones_ok x
  simp only [onesN] at ho
  generalize bytesN 8 x = y11 at *
  have c12 : binV .shr (.int .u64 (y11 : Int)) (.int .u64 8) = some (.int .u64 ((y11 >>> 8 : Nat) : Int)) := shr_nat y11 8 (by omega) _
  have c13 := add_nat y11 (y11 >>> 8)
  generalize (y11 + y11 >>> 8) % 18446744073709551616 = y13 at *
  generalize y11 >>> 8 = y12 at *
  have c14 : binV .shr (.int .u64 (y13 : Int)) (.int .u64 16) = some (.int .u64 ((y13 >>> 16 : Nat) : Int)) := shr_nat y13 16 (by omega) _
  have c15 := add_nat y13 (y13 >>> 16)
  generalize (y13 + y13 >>> 16) % 18446744073709551616 = y15 at *
  generalize y13 >>> 16 = y14 at *
  have c16 : binV .shr (.int .u64 (y15 : Int)) (.int .u64 32) = some (.int .u64 ((y15 >>> 32 : Nat) : Int)) := shr_nat y15 32 (by omega) _
  have c17 := add_nat y15 (y15 >>> 32)
  generalize (y15 + y15 >>> 32) % 18446744073709551616 = y17 at *
  generalize y15 >>> 32 = y16 at *
  have c18 : binV .and (.int .i64 (IntKind.wrap .i64 (y17 : Int))) (.int .i64 127) = some (.int .i64 ((y17 &&& 127 : Nat) : Int)) := and_i64 y17 127 (by omega)
  rw [ho] at c18
  generalize popN 64 x = r at *
  refine run_eq T_84 ?_
  simp [F84, c1, c2, c3, c4, c5, c6, c7, c8, c9, c10, c11, c12, c13, c14, c15, c16, c17, c18, -binV_add]

theorem tz_tab : ∀ t < 64, (2 ^ t * 285870213051353865 % 18446744073709551616) >>> 58 < 64 ∧ globDB[(2 ^ t * 285870213051353865 % 18446744073709551616) >>> 58]? = some (.int .u8 (t : Int)) := by decide +kernel
theorem neg_nat (x : Nat) (h0 : x ≠ 0) (hx : x < 2 ^ 64) : unV .neg (.int .u64 (x : Int)) = some (.int .u64 ((2 ^ 64 - x : Nat) : Int)) := by
  have : (0 - (x : Int)) % 18446744073709551616 = ((2 ^ 64 - x : Nat) : Int) := by omega
  rw [unV_neg, wrap_u64, this]
theorem mul_nat (x y : Nat) : binV .mul (.int .u64 (x : Int)) (.int .u64 (y : Int)) = some (.int .u64 ((x * y % 18446744073709551616 : Nat) : Int)) := by
  have : ((x : Int) * y) % 18446744073709551616 = ((x * y % 18446744073709551616 : Nat) : Int) := by simp
  rw [binV_mul, wrap_u64, this]
theorem idx_arr {i n : Nat} {k : IntKind} {y : Nat} (h : y < n) : idxAddrV 1 (some n) (.ptr i 0) (.int k (y : Int)) = some (.ptr i y) := by
  simp only [idxAddrV]
  rw [if_pos (by omega)]
  simp
theorem idx_sl {i n : Nat} {c : Cap} {k : IntKind} {y : Nat} (h : y < n) : idxAddrV 1 none (.slice i 0 n c) (.int k (y : Int)) = some (.ptr i y) := by
  simp only [idxAddrV]
  rw [if_pos (by omega)]
  simp
theorem tz_run {h : AHeap} (hg : h.get 3 = some (.cells true globDB none)) {x t : Nat} (hx : x < 2 ^ 64) (hl : IsLow x t) : run T 201 [.int .u64 (x : Int)] h = some (.int .i64 (t : Int), h) := by
  have h0 : x ≠ 0 := fun e => by have := hl.2.1; simp [e] at this
  have hne : ¬ (x : Int) = 0 := by omega
  have ht := hl.1
  have c1 := neg_nat x (by omega) hx
  have c2 := and_nat x (2 ^ 64 - x) (by omega)
  rw [low_and hl hx] at c2
  generalize 2 ^ 64 - x = y1 at *
  obtain ⟨q1, q2⟩ := tz_tab t ht
  have c3 : binV .mul (.int .u64 ((2 ^ t : Nat) : Int)) (.int .u64 285870213051353865) = some (.int .u64 ((2 ^ t * 285870213051353865 % 18446744073709551616 : Nat) : Int)) := mul_nat (2 ^ t) 285870213051353865
  generalize 2 ^ t * 285870213051353865 % 18446744073709551616 = y3 at *
  generalize 2 ^ t = y2 at *
  have c4 : binV .shr (.int .u64 (y3 : Int)) (.int .u64 58) = some (.int .u64 ((y3 >>> 58 : Nat) : Int)) := shr_nat y3 58 (by omega) _
  generalize y3 >>> 58 = y4 at *
  have ci : idxAddrV 1 (some 64) (.ptr 3 0) (.int .u64 (y4 : Int)) = some (.ptr 3 y4) := idx_arr q1
  have hc : cellOf (h.get 3) y4 = some (.int .u8 (t : Int)) := by
    rw [hg, cellOf_some, q2]
  have hw : IntKind.wrap .i64 (t : Int) = t := wrap_i64 (by omega) (by omega)
  refine run_eq T_201 ?_
  simp [F201, h0, hne, c1, c2, c3, c4, ci, hc, hw, -binV_mul, -unV_neg]

/-! ## Rows of bits -/

/-- Is a number in? -/
def bit (ws : List Nat) (i : Nat) : Bool := (ws.getD (i / 64) 0).testBit (i % 64)
def flip (ws : List Nat) (i : Nat) : List Nat := ws.set (i / 64) ((ws.getD (i / 64) 0) ^^^ 2 ^ (i % 64))
@[simp] theorem flip_len {ws : List Nat} {i : Nat} : (flip ws i).length = ws.length := by simp [flip]
theorem bit_flip {ws : List Nat} {i : Nat} (hi : i / 64 < ws.length) (j : Nat) : bit (flip ws i) j = if j = i then !bit ws i else bit ws j := by
  have hmod : i % 64 < 64 := by omega
  by_cases hq : j / 64 = i / 64
  · have hg : (flip ws i).getD (j / 64) 0 = (ws.getD (i / 64) 0) ^^^ 2 ^ (i % 64) := by
      simp [flip, hq, hi]
    rw [bit, hg, Nat.testBit_xor, Nat.testBit_two_pow]
    by_cases hj : j = i
    · subst hj
      simp [bit]
    · have : ¬ i % 64 = j % 64 := by omega
      simp [hj, this, bit, hq]
  · have hj : ¬ j = i := by omega
    rw [if_neg hj]
    simp only [bit, flip]
    congr 1
    simp [List.getElem?_set_ne (show i / 64 ≠ j / 64 from fun e => hq e.symm)]

def natsA (ws : List Nat) : List AV := ws.map fun w : Nat => .int .u64 (w : Int)
@[simp] theorem natsA_len {ws : List Nat} : (natsA ws).length = ws.length := by simp [natsA]
@[simp] theorem natsA_one {ws : List Nat} : (natsA ws).all AV.one = true := by simp [natsA]
theorem natsA_get {ws : List Nat} {k : Nat} (hk : k < ws.length) : (natsA ws)[k]? = some (.int .u64 ((ws.getD k 0 : Nat) : Int)) := by simp [natsA, hk]
theorem natsA_set {ws : List Nat} {k x : Nat} (hk : k < ws.length) : splice (natsA ws) k [.int .u64 (x : Int)] = natsA (ws.set k x) := by
  rw [splice_one (by simpa using hk)]
  simp [natsA, List.map_set]

/-- A mask: the numbers below n, in words. -/
structure Bits (n : Nat) (ws : List Nat) : Prop where
  len : ws.length = (n + 63) / 64
  le : n ≤ 4096
  w : ∀ w ∈ ws, w < 2 ^ 64
  out : ∀ k, n ≤ k → bit ws k = false
theorem Bits.get {n : Nat} {ws : List Nat} (b : Bits n ws) (k : Nat) : ws.getD k 0 < 2 ^ 64 := by
  by_cases hk : k < ws.length
  · have : ws.getD k 0 = ws[k] := by simp [hk]
    rw [this]
    exact b.w _ (List.getElem_mem hk)
  · have : ws.getD k 0 = 0 := by simp [Nat.le_of_not_lt hk]
    rw [this]
    omega
theorem Bits.flip {n i : Nat} {ws : List Nat} (b : Bits n ws) (hi : i < n) : Bits n (flip ws i) := by
  have hl := b.len
  refine ⟨by simpa using hl, b.le, fun w hw => ?_, fun k hk => ?_⟩
  · rcases List.mem_or_eq_of_mem_set hw with h | rfl
    · exact b.w w h
    · exact Nat.xor_lt_two_pow (b.get _) (Nat.pow_lt_pow_right (by omega) (by omega))
  · rw [bit_flip (by omega), if_neg (by omega)]
    exact b.out k hk
theorem Bits.zero {n : Nat} (hn : n ≤ 4096) : Bits n (List.replicate ((n + 63) / 64) 0) := by
  refine ⟨by simp, hn, fun w hw => by simp [List.mem_replicate] at hw; omega, fun k _ => ?_⟩
  simp only [bit]
  by_cases hk : k / 64 < (n + 63) / 64
  · simp [List.getElem?_replicate, hk]
  · simp [List.getElem?_replicate, hk]

/-- A mask's place: its head at object i, its words at object j. -/
def MaskAt (h : AHeap) (i j n : Nat) (ws : List Nat) : Prop :=
  i ≠ j ∧ Bits n ws ∧ ∃ c ri rj, h.get i = some (.cells false [.int .i64 (n : Int), .slice j 0 ws.length c] ri) ∧ h.get j = some (.cells false (natsA ws) rj) ∧ h.within ws.length c = true
theorem MaskAt.keep {h h' : AHeap} {i j n : Nat} {ws : List Nat} {G : List Nat} (m : MaskAt h i j n ws) (k : Keep G h h') (hi : i ∉ G) (hj : j ∉ G) : MaskAt h' i j n ws := by
  obtain ⟨ne, b, c, ri, rj, h1, h2, h3⟩ := m
  exact ⟨ne, b, c, ri, rj, k.obj h1 hi, k.obj h2 hj, within_keep h3 k⟩
theorem MaskAt.lt {h : AHeap} {i j n : Nat} {ws : List Nat} (m : MaskAt h i j n ws) : i < h.size ∧ j < h.size := by
  obtain ⟨ne, b, c, ri, rj, h1, h2, h3⟩ := m
  exact ⟨get_lt h1, get_lt h2⟩

section
variable {h : AHeap} {i j n : Nat} {ws : List Nat}

theorem mask_new (h : AHeap) (a : Int) : ∃ h' i j n, run T 92 [.int .i64 a] h = some (.ptr i 0, h') ∧ MaskAt h' i j n (List.replicate ((n + 63) / 64) 0) ∧ (n : Int) = min (max 0 a) 4096 ∧ Keep [] h h' ∧ h.size ≤ i ∧ h.size ≤ j := by
  obtain ⟨m, hm⟩ : ∃ m : Nat, min (max 0 a) 4096 = (m : Int) := ⟨(min (max 0 a) 4096).toNat, by omega⟩
  have hw1 : IntKind.wrap .i64 ((m : Int) + 64) = (m : Int) + 64 := wrap_i64 (by omega) (by omega)
  have hw2 : IntKind.wrap .i64 ((m : Int) + 64 - 1) = (m : Int) + 63 := by rw [wrap_i64 (by omega) (by omega)]; omega
  obtain ⟨k, hk⟩ : ∃ k : Nat, k = (m + 63) / 64 := ⟨_, rfl⟩
  have hd : ((m : Int) + 63).tdiv 64 = k := by rw [Int.tdiv_eq_ediv_of_nonneg (by omega)]; omega
  have hkb : (k : Int) ≤ 4096 := by omega
  have hw3 : IntKind.wrap .i64 (k : Int) = k := wrap_i64 (by omega) (by omega)
  have hb : (k : Int) * 8 ≤ bigA ∧ k ≤ bigA := by simp only [bigA]; omega
  have hz : rep k [AV.int .u64 0] = natsA (List.replicate k 0) := by rw [rep_one]; simp [natsA]
  refine ⟨(h.push (.cells false (natsA (List.replicate k 0)) none)).push (.cells false [.int .i64 (m : Int), .slice h.size 0 k (.exact k)] none), h.size + 1, h.size, m, run_eq T_92 ?_, ?_, hm.symm, Keep.push.trans' Keep.push, by omega, by omega⟩
  · simp [F92, hm, hw1, hw2, hd, hw3, hb, hz]
  · refine ⟨by omega, Bits.zero (by omega), .exact k, none, none, ?_, ?_, ?_⟩
    · rw [← hk]
      simpa using get_push_new (h := h.push (.cells false (natsA (List.replicate k 0)) none)) (x := .cells false [.int .i64 (m : Int), .slice h.size 0 k (.exact k)] none)
    · rw [← hk]
      exact get_push_old get_push_new
    · simp [AHeap.within, hk]

theorem mask_len (m : MaskAt h i j n ws) : run T 193 [.ptr i 0] h = some (.int .i64 (n : Int), h) := by
  obtain ⟨ne, b, c, ri, rj, h1, h2, h3⟩ := m
  refine run_eq T_193 ?_
  simp [F193, h1]

theorem testBit_one (w r : Nat) : w.testBit r = decide (w >>> r &&& 1 = 1) := by
  rw [Nat.testBit, Nat.and_comm]
  rcases Nat.mod_two_eq_zero_or_one (w >>> r) with e | e <;> simp [Nat.and_one_is_mod, e]
theorem mask_has (m : MaskAt h i j n ws) (k : Nat) (hk : k < n) : run T 161 [.ptr i 0, .int .i64 (k : Int)] h = some (.bool (bit ws k), h) := by
  obtain ⟨ne, b, c, ri, rj, h1, h2, h3⟩ := m
  have hl := b.len
  have hq : k / 64 < ws.length := by omega
  have hd : (k : Int).tdiv 64 = ((k / 64 : Nat) : Int) := by rw [Int.tdiv_eq_ediv_of_nonneg (by omega)]; omega
  have hm : (k : Int).tmod 64 = ((k % 64 : Nat) : Int) := by rw [Int.tmod_eq_emod_of_nonneg (by omega)]; omega
  have hle := b.le
  have hw : IntKind.wrap .i64 ((k / 64 : Nat) : Int) = ((k / 64 : Nat) : Int) := wrap_i64 (by omega) (by omega)
  have hx := natsA_get hq
  have hs := shr_nat (ws.getD (k / 64) 0) (k % 64) (by omega) .i64
  have hbit : bit ws k = decide ((ws.getD (k / 64) 0) >>> (k % 64) &&& 1 = 1) := testBit_one _ _
  have hle := b.le
  generalize ws.getD (k / 64) 0 = w at *
  generalize k / 64 = q at *
  generalize k % 64 = r at *
  have ha : binV .and (.int .u64 ((w >>> r : Nat) : Int)) (.int .u64 1) = some (.int .u64 ((w >>> r &&& 1 : Nat) : Int)) := and_nat (w >>> r) 1 (by omega)
  generalize w >>> r &&& 1 = y at *
  generalize w >>> r = z at *
  have hi : idxAddrV 1 none (.slice j 0 ws.length c) (.int .i64 (q : Int)) = some (.ptr j q) := by
    simp only [idxAddrV]
    rw [if_pos (by omega)]
    simp
  have hkn : (k : Int) < n := by omega
  have hy : decide ((y : Int) = 1) = decide (y = 1) := by
    by_cases h : y = 1
    · simp [h]
    · have : ¬ (y : Int) = 1 := by omega
      simp [h, this]
  rw [hbit]
  refine run_eq T_161 ?_
  simp [F161, h1, h2, hkn, hd, hw, hi, hx, hm, hs, ha, hy]
theorem mask_hasnt (m : MaskAt h i j n ws) (k : Int) (hk : k < 0 ∨ (n : Int) ≤ k) : run T 161 [.ptr i 0, .int .i64 k] h = some (.bool false, h) := by
  obtain ⟨ne, b, c, ri, rj, h1, h2, h3⟩ := m
  refine run_eq T_161 ?_
  by_cases h0 : 0 ≤ k
  · have : ¬ k < n := by omega
    simp [F161, h1, h0, this]
  · simp [F161, h1, h0]

theorem turn_yes (m : MaskAt h i j n ws) {k : Nat} (hk : k < n) {was : Bool} (hb : bit ws k = was) : ∃ h', run T 127 [.ptr i 0, .int .i64 (k : Int), .bool was] h = some (.bool true, h') ∧ MaskAt h' i j n (flip ws k) ∧ Keep [j] h h' := by
  have eh := mask_has m k hk
  obtain ⟨ne, b, c, ri, rj, h1, h2, h3⟩ := m
  have hl := b.len
  have hle := b.le
  have hq : k / 64 < ws.length := by omega
  have hd : (k : Int).tdiv 64 = ((k / 64 : Nat) : Int) := by rw [Int.tdiv_eq_ediv_of_nonneg (by omega)]; omega
  have hm : (k : Int).tmod 64 = ((k % 64 : Nat) : Int) := by rw [Int.tmod_eq_emod_of_nonneg (by omega)]; omega
  have hw : IntKind.wrap .i64 ((k / 64 : Nat) : Int) = ((k / 64 : Nat) : Int) := wrap_i64 (by omega) (by omega)
  have hx := natsA_get hq
  have hs := shl_one (k % 64) (by omega) .i64
  have hxr := xor_nat (ws.getD (k / 64) 0) (2 ^ (k % 64)) (b.get _) (Nat.pow_lt_pow_right (by omega) (by omega))
  have hset := natsA_set (ws := ws) (k := k / 64) (x := (ws.getD (k / 64) 0) ^^^ 2 ^ (k % 64)) hq
  have hfl : ws.set (k / 64) ((ws.getD (k / 64) 0) ^^^ 2 ^ (k % 64)) = flip ws k := rfl
  rw [hfl] at hset
  have bf := b.flip hk
  have hfll : (flip ws k).length = ws.length := by simp
  generalize flip ws k = ws' at *
  generalize ws.getD (k / 64) 0 ^^^ 2 ^ (k % 64) = z at *
  generalize 2 ^ (k % 64) = y at *
  generalize ws.getD (k / 64) 0 = w at *
  generalize k / 64 = q at *
  generalize k % 64 = r at *
  have hi : idxAddrV 1 none (.slice j 0 ws.length c) (.int .i64 (q : Int)) = some (.ptr j q) := by
    simp only [idxAddrV]
    rw [if_pos (by omega)]
    simp
  have hkn : (k : Int) < n := by omega
  have hqs : q + 1 ≤ ws.length := by omega
  have h0k : ¬ (k : Int) < 0 := by omega
  refine ⟨h.put j (.cells false (natsA ws') rj), run_eq T_127 ?_, ⟨ne, bf, c, ri, rj, ?_, by rw [get_put_same, h2]; rfl, ?_⟩, Keep.put (by simp)⟩
  · simp [F127, h1, h2, hkn, h0k, Int.not_le.2 hkn, eh, hb, hd, hw, hi, hx, hm, hs, hxr, hset, hqs]
  · rw [get_put_ne ne, h1, hfll]
  · rw [hfll]
    exact within_keep h3 (Keep.put (F := [j]) (by simp))
theorem turn_no (m : MaskAt h i j n ws) {k : Int} {was : Bool} (hb : k < 0 ∨ (n : Int) ≤ k ∨ bit ws k.toNat ≠ was) : run T 127 [.ptr i 0, .int .i64 k, .bool was] h = some (.bool false, h) := by
  refine run_eq T_127 ?_
  by_cases h0 : k < 0
  · simp [F127, h0]
  · obtain ⟨k, rfl⟩ : ∃ c : Nat, k = c := ⟨k.toNat, by omega⟩
    by_cases hkn : k < n
    · have eh := mask_has m k hkn
      have hne : bit ws k ≠ was := by
        rcases hb with h | h | h
        · omega
        · omega
        · simpa using h
      obtain ⟨ne, b, c, ri, rj, h1, h2, h3⟩ := m
      have hki : (k : Int) < n := by omega
      have hbe : (bit ws k == was) = false := by simp [hne]
      simp [F127, h0, h1, hki, Int.not_le.2 hki, eh, hbe]
    · obtain ⟨ne, b, c, ri, rj, h1, h2, h3⟩ := m
      have hki : (n : Int) ≤ k := by omega
      simp [F127, h0, h1, hki]

theorem put_yes (m : MaskAt h i j n ws) {k : Nat} (hk : k < n) (hb : bit ws k = false) : ∃ h', run T 94 [.ptr i 0, .int .i64 (k : Int)] h = some (.bool true, h') ∧ MaskAt h' i j n (flip ws k) ∧ Keep [j] h h' := by
  obtain ⟨h', e, m', k'⟩ := turn_yes m hk hb
  exact ⟨h', run_eq T_94 (by simp [F94, e]), m', k'⟩
theorem put_no (m : MaskAt h i j n ws) {k : Int} (hb : k < 0 ∨ (n : Int) ≤ k ∨ bit ws k.toNat = true) : run T 94 [.ptr i 0, .int .i64 k] h = some (.bool false, h) := by
  have e := turn_no m (k := k) (was := false) (by rcases hb with h | h | h <;> simp [h])
  exact run_eq T_94 (by simp [F94, e])
theorem take_yes (m : MaskAt h i j n ws) {k : Nat} (hk : k < n) (hb : bit ws k = true) : ∃ h', run T 174 [.ptr i 0, .int .i64 (k : Int)] h = some (.bool true, h') ∧ MaskAt h' i j n (flip ws k) ∧ Keep [j] h h' := by
  obtain ⟨h', e, m', k'⟩ := turn_yes m hk hb
  exact ⟨h', run_eq T_174 (by simp [F174, e]), m', k'⟩
theorem take_no (m : MaskAt h i j n ws) {k : Int} (hb : k < 0 ∨ (n : Int) ≤ k ∨ bit ws k.toNat = false) : run T 174 [.ptr i 0, .int .i64 k] h = some (.bool false, h) := by
  have e := turn_no m (k := k) (was := true) (by rcases hb with h | h | h <;> simp [h])
  exact run_eq T_174 (by simp [F174, e])

/-! ## How many -/

def popW (ws : List Nat) : Nat := (ws.map (popN 64)).sum
theorem popN_le : ∀ n x, popN n x ≤ n
  | 0, _ => by simp [popN]
  | n + 1, x => by
    have := popN_le n (x / 2)
    simp only [popN]
    omega
theorem popW_le : ∀ ws : List Nat, popW ws ≤ 64 * ws.length
  | [] => by simp [popW]
  | w :: ws => by
    have := popW_le ws
    have := popN_le 64 w
    simp only [popW] at *
    simp
    omega
def MCountI (h : AHeap) (s : AV) (ws : List Nat) (m : Nat) (fr : FF) (g : AHeap) : Prop := ∃ c : Nat, c + m = ws.length ∧ g = h ∧ fr.get 3 = .int .i64 ((popW (ws.take c) : Nat) : Int) ∧ fr.get 9 = s ∧ fr.get 10 = .int .i64 ws.length ∧ fr.get 11 = .int .i64 c
theorem mask_count (m : MaskAt h i j n ws) : run T 39 [.ptr i 0] h = some (.int .i64 ((popW ws : Nat) : Int), h) := by
  obtain ⟨ne, b, c, ri, rj, h1, h2, h3⟩ := m
  have hl := b.len
  have hle := b.le
  refine run_eq T_39 ?_
  simp [F39, h1]
  refine Wp.loop (MCountI h (.slice j 0 ws.length c) ws) ws.length (lt_rounds (by omega)) ?_ ?_
  · exact ⟨0, by simp, rfl, by simp [popW], by simp⟩
  rintro m fr g ⟨d, hd, rfl, s3, s9, s10, s11⟩
  by_cases hdl : d < ws.length
  · have hx := natsA_get hdl
    have hi : idxAddrV 1 none (.slice j 0 ws.length c) (.int .i64 (d : Int)) = some (.ptr j d) := by
      simp only [idxAddrV]
      rw [if_pos (by omega)]
      simp
    have eo := ones_run g (ws.getD d 0) (b.get d)
    have hsum : popW (ws.take (d + 1)) = popW (ws.take d) + popN 64 (ws.getD d 0) := by
      have e1 : ws[d]?.toList = [ws.getD d 0] := by simp [hdl]
      rw [List.take_add_one, e1]
      simp only [popW, List.map_append, List.map_cons, List.map_nil, List.sum_append, List.sum_cons, List.sum_nil, Nat.add_zero]
    have hp := popW_le (ws.take (d + 1))
    have hp2 : (ws.take (d + 1)).length ≤ ws.length := by simp; omega
    have hw : IntKind.wrap .i64 ((d : Int) + 1) = (d : Int) + 1 := wrap_nat (by omega)
    have hws : IntKind.wrap .i64 (((popW (ws.take d) : Nat) : Int) + ((popN 64 (ws.getD d 0) : Nat) : Int)) = ((popW (ws.take (d + 1)) : Nat) : Int) := by
      rw [hsum, wrap_i64 (by omega) (by omega)]
      omega
    generalize popN 64 (ws.getD d 0) = o at *
    generalize ws.getD d 0 = w at *
    simp [s3, s9, s10, s11, hdl, hi, hx, h2, eo, -Int.natCast_add, -getElem?_pos]
    exact ⟨m - 1, by omega, d + 1, by omega, rfl, by simp [hws], by simp [s9, s10, hw]⟩
  · have hdx : d = ws.length := by omega
    rw [hdx, List.take_length] at s3
    simp [s3, s9, s10, s11, hdl]

/-! ## The next one -/

/-- The least number that is in, above another one; -1: there is none. -/
def IsNext (ws : List Nat) (v r : Int) : Prop := (r = -1 ∧ ∀ k : Nat, v < k → bit ws k = false) ∨ ∃ k : Nat, r = k ∧ v < k ∧ bit ws k = true ∧ ∀ t : Nat, v < t → t < k → bit ws t = false

def NextI (h : AHeap) (i n : Nat) (ws : List Nat) (v0 : Int) (m : Nat) (fr : FF) (g : AHeap) : Prop := ∃ v : Int, -1 ≤ v ∧ v ≤ 5000000000 ∧ (v + m = n + 64 ∨ (n : Int) + 64 ≤ v) ∧ g = h ∧ (∀ k : Nat, v0 < k → (k : Int) ≤ v → bit ws k = false) ∧ v0 ≤ v ∧ fr.get 0 = .ptr i 0 ∧ fr.get 1 = .int .i64 v

theorem mask_next (m : MaskAt h i j n ws) (hg : h.get 3 = some (.cells true globDB none)) (v0 : Int) (hv : v0 ≤ 4294967296) : ∃ r, run T 189 [.ptr i 0, .int .i64 v0] h = some (.int .i64 r, h) ∧ IsNext ws v0 r := by
  obtain ⟨ne, b, c, ri, rj, h1, h2, h3⟩ := m
  have hl := b.len
  have hle := b.le
  suffices hw : ∃ v' h', run T 189 [.ptr i 0, .int .i64 v0] h = some (v', h') ∧ ∃ r, v' = .int .i64 r ∧ h' = h ∧ IsNext ws v0 r by
    obtain ⟨v', h', e, r, rfl, rfl, hr⟩ := hw
    exact ⟨r, e, hr⟩
  refine run_wp T_189 ?_
  simp [F189]
  refine Wp.loop (NextI h i n ws v0) (n + 64 - max v0 (-1)).toNat (lt_rounds (by omega)) ?_ ?_
  · exact ⟨max v0 (-1), by omega, by omega, by omega, rfl, fun k h1 h2 => by omega, by omega, by simp⟩
  rintro m fr g ⟨v, v1, v2, vm, rfl, vz, v0v, s0, s1⟩
  have hwn : IntKind.wrap .i64 ((n : Int) - 1) = (n : Int) - 1 := wrap_i64 (by omega) (by omega)
  by_cases hvn : v < (n : Int) - 1
  · obtain ⟨p, hp⟩ : ∃ p : Nat, v + 1 = p := ⟨(v + 1).toNat, by omega⟩
    have hw1 : IntKind.wrap .i64 (v + 1) = (p : Int) := by rw [wrap_i64 (by omega) (by omega), hp]
    have hpn : p < n := by omega
    have hq : p / 64 < ws.length := by omega
    have hd : (p : Int).tdiv 64 = ((p / 64 : Nat) : Int) := by rw [Int.tdiv_eq_ediv_of_nonneg (by omega)]; omega
    have hm : (p : Int).tmod 64 = ((p % 64 : Nat) : Int) := by rw [Int.tmod_eq_emod_of_nonneg (by omega)]; omega
    have hw : IntKind.wrap .i64 ((p / 64 : Nat) : Int) = ((p / 64 : Nat) : Int) := wrap_i64 (by omega) (by omega)
    have hx := natsA_get hq
    have hwl := b.get (p / 64)
    have hs := shr_nat (ws.getD (p / 64) 0) (p % 64) (by omega) .i64
    have hrl : (ws.getD (p / 64) 0) >>> (p % 64) < 2 ^ 64 := by
      rw [Nat.shiftRight_eq_div_pow]
      exact Nat.lt_of_le_of_lt (Nat.div_le_self _ _) hwl
    have hbit : ∀ t, p % 64 + t < 64 → bit ws (p + t) = ((ws.getD (p / 64) 0) >>> (p % 64)).testBit t := fun t ht => by
      rw [Nat.testBit_shiftRight, bit, show (p + t) / 64 = p / 64 by omega, show (p + t) % 64 = p % 64 + t by omega]
    have hi : idxAddrV 1 none (.slice j 0 ws.length c) (.int .i64 ((p / 64 : Nat) : Int)) = some (.ptr j (p / 64)) := idx_sl hq
    have hor := or_i64 p (by omega)
    have hhigh : ∀ t, 64 ≤ p % 64 + t → ((ws.getD (p / 64) 0) >>> (p % 64)).testBit t = false := fun t ht => by
      rw [Nat.testBit_shiftRight]
      exact Nat.testBit_lt_two_pow (Nat.lt_of_lt_of_le hwl (Nat.pow_le_pow_right (by omega) ht))
    generalize hz : ws.getD (p / 64) 0 >>> (p % 64) = z at *
    generalize ws.getD (p / 64) 0 = w at *
    by_cases h0 : z = 0
    · subst h0
      simp [s0, s1, h1, h2, hwn, hvn, hw1, hd, hw, hi, hx, hm, hs, hor, -Int.natCast_add, -Int.natCast_mul, -Int.natCast_ediv, -Int.natCast_emod]
      refine ⟨(n + 64 - ((p / 64 * 64 + 63 : Nat) : Int)).toNat, by omega, ((p / 64 * 64 + 63 : Nat) : Int), by omega, by omega, by omega, rfl, fun k k1 k2 => ?_, by omega, by simp [s0]⟩
      by_cases hkv : (k : Int) ≤ v
      · exact vz k k1 hkv
      · have := hbit (k - p) (by omega)
        rw [show p + (k - p) = k by omega] at this
        rw [this]
        simp
    · obtain ⟨t, ht⟩ := low_ex h0 hrl
      have et := tz_run hg hrl ht
      have ht1 := ht.2.1
      have htl : p % 64 + t < 64 := by
        rcases Nat.lt_or_ge (p % 64 + t) 64 with h | h
        · exact h
        · rw [hhigh t h] at ht1
          cases ht1
      have hz0 : ¬ (z : Int) = 0 := by omega
      have hwt : IntKind.wrap .i64 ((p : Int) + t) = (p : Int) + t := wrap_i64 (by omega) (by omega)
      simp [s0, s1, h1, h2, hwn, hvn, hw1, hd, hw, hi, hx, hm, hs, h0, hz0, et, hwt, -Int.natCast_add, -Int.natCast_mul, -Int.natCast_ediv, -Int.natCast_emod]
      refine Or.inr ⟨p + t, by omega, by omega, by rw [hbit t htl, ht1], fun u u1 u2 => ?_⟩
      by_cases huv : (u : Int) ≤ v
      · exact vz u u1 huv
      · have := hbit (u - p) (by omega)
        rw [show p + (u - p) = u by omega] at this
        rw [this]
        exact ht.2.2 _ (by omega)
  · simp [s0, s1, h1, hwn, hvn]
    refine Or.inl ⟨rfl, fun k hk => ?_⟩
    by_cases hkv : (k : Int) ≤ v
    · exact vz k hk hkv
    · exact b.out k (by omega)

theorem mask_first (m : MaskAt h i j n ws) (hg : h.get 3 = some (.cells true globDB none)) : ∃ r, run T 173 [.ptr i 0] h = some (.int .i64 r, h) ∧ IsNext ws (-1) r := by
  obtain ⟨r, e, hr⟩ := mask_next m hg (-1) (by omega)
  exact ⟨r, run_eq T_173 (by simp [F173, e]), hr⟩

theorem mclone64_ok {cs : List AV} {F : List Nat} {s : AV} (v : View h 1 cs F s) (ho : cs.all AV.one = true) (hb : cs.length ≤ 1000000) : ∃ s' h' F', run T 80 [s] h = some (s', h') ∧ Vec h' 1 cs F' s' ∧ Keep [] h h' ∧ ∀ t ∈ F', h.size ≤ t := by
  have hnil : s = .nilslice ∨ ∃ j o n c, s = .slice j o n c := by cases v <;> simp
  rcases hnil with rfl | ⟨j, o, n, c, rfl⟩
  · cases v with
    | nil e =>
      refine ⟨.nilslice, h, [], run_eq T_80 ?_, .nil e, Keep.refl, by simp⟩
      simp [F80]
  · have vn : Vec (h.push (.cells false [] none)) 1 [] [h.size] (.slice h.size 0 0 (.exact 0)) := Vec.new (m := 0) get_push_new (by simp)
    obtain ⟨s', h', F', e, v', k', f'⟩ := vn.append1 (bytes := 8) (v.keep (Keep.push (F := [])) (by simp)) ho (by simp [bigA]; omega) (by simp [bigA]; omega)
    refine ⟨s', h', F', run_eq T_80 ?_, by simpa using v', (Keep.push (F := [])).trans k' (by simp), fun t ht => ?_⟩
    · simp [F80, e]
    · have := f' t ht
      simp at this
      omega

theorem MaskAt.view (m : MaskAt h i j n ws) : ∃ c ri, h.get i = some (.cells false [.int .i64 (n : Int), .slice j 0 ws.length c] ri) ∧ View h 1 (natsA ws) [j] (.slice j 0 ws.length c) := by
  obtain ⟨ne, b, c, ri, rj, h1, h2, h3⟩ := m
  exact ⟨c, ri, h1, .mk h2 (by simp) (by rw [List.drop_zero, List.take_of_length_le (by simp)]) h3⟩

end

/-! ## The numbers that are in, in a row -/

theorem popN_count : ∀ n x, popN n x = (List.range n).countP x.testBit
  | 0, x => by simp [popN]
  | n + 1, x => by
    have e : ∀ k, (x.testBit ∘ Nat.succ) k = (x / 2).testBit k := fun k => by simp [Nat.testBit_succ]
    rw [List.range_succ_eq_map, List.countP_cons, List.countP_map, popN, popN_count n (x / 2), Nat.testBit_zero]
    rw [show x.testBit ∘ Nat.succ = (x / 2).testBit from funext e]
    rcases Nat.mod_two_eq_zero_or_one x with h | h <;> simp [h]
    omega
theorem range_add (a b : Nat) : List.range (a + b) = List.range a ++ (List.range b).map (a + ·) := by
  apply List.ext_getElem?
  intro k
  by_cases hk : k < a
  · rw [List.getElem?_append_left (by simpa using hk), List.getElem?_range (by omega), List.getElem?_range hk]
  · rw [List.getElem?_append_right (by simp; omega)]
    by_cases hk2 : k < a + b
    · rw [List.getElem?_range hk2, List.length_range, List.getElem?_map, List.getElem?_range (by omega)]
      simp
      omega
    · rw [List.getElem?_eq_none (by simp; omega), List.getElem?_eq_none (by simp; omega)]
theorem popW_count : ∀ ws : List Nat, popW ws = (List.range (64 * ws.length)).countP (bit ws)
  | [] => by simp [popW]
  | w :: ws => by
    have e1 : ∀ k ∈ List.range 64, w.testBit k = bit (w :: ws) k := fun k hk => by
      have hk := List.mem_range.1 hk
      simp [bit, Nat.div_eq_of_lt hk, Nat.mod_eq_of_lt hk]
    have e2 : (bit (w :: ws)) ∘ (64 + ·) = bit ws := funext fun k => by
      simp only [Function.comp, bit]
      rw [show (64 + k) / 64 = k / 64 + 1 by omega, show (64 + k) % 64 = k % 64 by omega]
      simp
    have := popW_count ws
    have hpw : popW (w :: ws) = popN 64 w + popW ws := by simp [popW]
    rw [hpw, this, popN_count, List.length_cons, show 64 * (ws.length + 1) = 64 + 64 * ws.length by omega, range_add, List.countP_append, List.countP_map, e2]
    rw [show (List.range 64).countP w.testBit = (List.range 64).countP (bit (w :: ws)) from List.countP_congr fun k hk => by rw [e1 k hk]]

def mem (ws : List Nat) : List Nat := (List.range (64 * ws.length)).filter (bit ws)
theorem popW_mem (ws : List Nat) : popW ws = (mem ws).length := by rw [popW_count, mem, List.countP_eq_length_filter]
theorem bit_lt {ws : List Nat} {k : Nat} (h : bit ws k = true) : k < 64 * ws.length := by
  by_cases hk : k / 64 < ws.length
  · omega
  · simp [bit, Nat.le_of_not_lt hk] at h
theorem mem_iff {ws : List Nat} {k : Nat} : k ∈ mem ws ↔ bit ws k = true := by
  simp only [mem, List.mem_filter, List.mem_range]
  exact ⟨fun h => h.2, fun h => ⟨bit_lt h, h⟩⟩
theorem mem_sorted (ws : List Nat) : (mem ws).Pairwise (· < ·) := List.Pairwise.filter _ List.pairwise_lt_range
theorem mem_flip_take {ws : List Nat} {k : Nat} (h : bit ws k = true) : mem (flip ws k) = (mem ws).filter fun x => decide (x ≠ k) := by
  have hk := bit_lt h
  simp only [mem, flip_len, List.filter_filter]
  apply List.filter_congr
  intro x _
  rw [bit_flip (by omega)]
  by_cases hx : x = k
  · subst hx
    simp [h]
  · simp [hx]
theorem mem_flip_head {ws : List Nat} {k : Nat} {L : List Nat} (h : mem ws = k :: L) : mem (flip ws k) = L := by
  have hk : bit ws k = true := mem_iff.1 (by rw [h]; simp)
  have hs := mem_sorted ws
  rw [h, List.pairwise_cons] at hs
  rw [mem_flip_take hk, h, List.filter_cons_of_neg (by simp), List.filter_eq_self.2]
  intro x hx
  have := hs.1 x hx
  simp
  omega
theorem next_nil {ws : List Nat} {r : Int} (h : mem ws = []) (hr : IsNext ws (-1) r) : r = -1 := by
  rcases hr with h1 | ⟨k, rfl, _, hb, _⟩
  · exact h1.1
  · have := mem_iff.2 hb
    rw [h] at this
    simp at this
theorem next_head {ws : List Nat} {k : Nat} {L : List Nat} {r : Int} (h : mem ws = k :: L) (hr : IsNext ws (-1) r) : r = k := by
  have hk : bit ws k = true := mem_iff.1 (by rw [h]; simp)
  have hs := mem_sorted ws
  rw [h, List.pairwise_cons] at hs
  rcases hr with ⟨_, h1⟩ | ⟨x, rfl, _, hb, hl⟩
  · rw [h1 k (by omega)] at hk
    cases hk
  · have hx := mem_iff.2 hb
    rw [h] at hx
    rcases List.mem_cons.1 hx with rfl | hx
    · rfl
    · have h2 := hs.1 x hx
      rw [hl k (by omega) h2] at hk
      cases hk
/-- What is put is one more. -/
theorem mem_flip_put {ws : List Nat} {k : Nat} (hk : k / 64 < ws.length) (h : bit ws k = false) : (mem (flip ws k)).length = (mem ws).length + 1 := by
  have hb : bit (flip ws k) k = true := by rw [bit_flip hk, if_pos rfl, h]; rfl
  have hm := mem_iff.2 hb
  have e : mem ws = (mem (flip ws k)).filter fun x => decide (x ≠ k) := by
    simp only [mem, flip_len, List.filter_filter]
    apply List.filter_congr
    intro x _
    rw [bit_flip hk]
    by_cases hx : x = k
    · subst hx
      simp [h]
    · simp [hx]
  have hnd : (mem (flip ws k)).Nodup := (mem_sorted _).imp (fun h => by omega)
  obtain ⟨a, b, hab⟩ := List.append_of_mem hm
  rw [hab] at hnd e
  rw [List.nodup_append] at hnd
  obtain ⟨n1, n2, n3⟩ := hnd
  rw [List.nodup_cons] at n2
  rw [e, hab, List.filter_append, List.filter_cons_of_neg (by simp), List.filter_eq_self.2, List.filter_eq_self.2]
  · simp
    omega
  · intro x hx
    have : x ≠ k := fun h => n2.1 (h ▸ hx)
    simpa using this
  · intro x hx
    have : x ≠ k := n3 x hx k (by simp)
    simpa using this
theorem mem_zero (n : Nat) : mem (List.replicate n 0) = [] := by
  simp only [mem, List.filter_eq_nil_iff]
  intro x _
  simp only [bit]
  by_cases hk : x / 64 < n
  · simp [List.getElem?_replicate, hk]
  · simp [List.getElem?_replicate, hk]

end Go.Proofs.YtblhcbmcbhoeiaaGreatDoor.Ev
end

section
/- What the functions of idle machines, and of who polls, come to. -/
namespace Go.Proofs.YtblhcbmcbhoeiaaGreatDoor.Ev
set_option linter.unusedSimpArgs false
set_option linter.unusedVariables false
open Go
set_option maxRecDepth 100000

/-- Idle machines ms, the poller q (-1: none), of n machines; pv, sp: the processors' part. -/
def MachAt (h : AHeap) (i : Nat) (F : List Nat) (ms : List Int) (q n : Int) (pv sp : AV) : Prop := ∃ sm room, h.get i = some (.cells false [pv, sp, sm, .int .i64 q, .int .i64 n] room) ∧ Vec h 1 (intsA ms) F sm ∧ i ∉ F

theorem MachAt.keep {h h' : AHeap} {i : Nat} {F G : List Nat} {ms : List Int} {q n : Int} {pv sp : AV} (b : MachAt h i F ms q n pv sp) (k : Keep G h h') (hd : ∀ t ∈ i :: F, t ∉ G) : MachAt h' i F ms q n pv sp := by
  obtain ⟨s, room, hi, v, ni⟩ := b
  exact ⟨s, room, k.obj hi (hd i (by simp)), v.keep k (fun t ht => hd t (by simp [ht])), ni⟩
theorem MachAt.lt {h : AHeap} {i : Nat} {F : List Nat} {ms : List Int} {q n : Int} {pv sp : AV} (b : MachAt h i F ms q n pv sp) : ∀ t ∈ i :: F, t < h.size := by
  obtain ⟨s, room, hi, v, ni⟩ := b
  intro t ht
  rcases List.mem_cons.1 ht with rfl | ht
  · exact get_lt hi
  · exact v.lt t ht

section
variable {h : AHeap} {i : Nat} {F : List Nat} {ms : List Int} {q n m : Int} {pv sp : AV}

theorem mach_poller (b : MachAt h i F ms q n pv sp) : run T 65 [.ptr i 0] h = some (.tuple [.int .i64 (max 0 q), .bool (decide (q ≠ -1))], h) := by
  obtain ⟨s, room, hi, v, ni⟩ := b
  refine run_eq T_65 ?_
  simp [F65, hi]

/-- Another poller. -/
theorem mach_q (b : MachAt h i F ms q n pv sp) (q' : Int) : ∃ h', writeOf h i (h.get i) 3 [.int .i64 q'] = some h' ∧ MachAt h' i F ms q' n pv sp ∧ Keep (i :: F) h h' := by
  obtain ⟨s, room, hi, v, ni⟩ := b
  refine ⟨h.put i (.cells false [pv, sp, s, .int .i64 q', .int .i64 n] room), by simp [hi], ⟨s, room, by rw [get_put_same, hi]; rfl, v.keep (Keep.put (F := [i]) (by simp)) (fun t ht hm => by simp only [List.mem_singleton] at hm; subst hm; exact ni ht), ni⟩, Keep.put (by simp)⟩

theorem mach_leave_no (b : MachAt h i F ms q n pv sp) (hm : m < 0 ∨ m ≠ q) : run T 75 [.ptr i 0, .int .i64 m] h = some (.bool false, h) := by
  obtain ⟨s, room, hi, v, ni⟩ := b
  refine run_eq T_75 ?_
  by_cases h0 : m < 0
  · simp [F75, h0]
  · have hq : ¬ m = q := by omega
    simp [F75, h0, hi, hq]

theorem mach_leave (b : MachAt h i F ms q n pv sp) (h0 : 0 ≤ q) : ∃ h', run T 75 [.ptr i 0, .int .i64 q] h = some (.bool true, h') ∧ MachAt h' i F ms (-1) n pv sp ∧ Keep (i :: F) h h' := by
  obtain ⟨h', e, b', k⟩ := mach_q b (-1)
  obtain ⟨s, room, hi, v, ni⟩ := b
  rw [hi] at e
  refine ⟨h', run_eq T_75 ?_, b', k⟩
  have h1 : ¬ q < 0 := by omega
  simp at e
  simp [F75, h1, hi, e]

theorem mach_stop_no (b : MachAt h i F ms q n pv sp) (hb : ms.length ≤ 1000000) (hm : m < 0 ∨ n ≤ m ∨ m = q ∨ m ∈ ms) : run T 53 [.ptr i 0, .int .i64 m] h = some (.tuple [.bool false, .bool false], h) := by
  obtain ⟨s, room, hi, v, ni⟩ := b
  have ec := contains_ok v.view hb m
  refine run_eq T_53 ?_
  by_cases h0 : m < 0
  · simp [F53, h0]
  by_cases h1 : n ≤ m
  · simp [F53, h0, hi, h1]
  by_cases h2 : m = q
  · subst h2
    simp [F53, h0, hi, h1]
  have h3 : m ∈ ms := by
    rcases hm with hm | hm | hm | hm
    · exact absurd hm h0
    · exact absurd hm h1
    · exact absurd hm h2
    · exact hm
  simp [F53, h0, hi, h1, h2, ec, h3]

theorem mach_stop_first (b : MachAt h i F ms (-1) n pv sp) (hb : ms.length ≤ 1000000) (h0 : 0 ≤ m) (h1 : m < n) (h3 : m ∉ ms) : ∃ h', run T 53 [.ptr i 0, .int .i64 m] h = some (.tuple [.bool true, .bool true], h') ∧ MachAt h' i F ms m n pv sp ∧ Keep (i :: F) h h' := by
  obtain ⟨h', e, b', k⟩ := mach_q b m
  obtain ⟨s, room, hi, v, ni⟩ := b
  rw [hi] at e
  have ec := contains_ok v.view hb m
  refine ⟨h', run_eq T_53 ?_, b', k⟩
  have h0' : ¬ m < 0 := by omega
  have h1' : ¬ n ≤ m := by omega
  have h2' : ¬ m = -1 := by omega
  simp at e
  simp [F53, h0', hi, h1', h2', ec, h3, e]

theorem mach_stop (b : MachAt h i F ms q n pv sp) (hb : ms.length ≤ 999999) (h0 : 0 ≤ m) (h1 : m < n) (h2 : m ≠ q) (h3 : m ∉ ms) (hq : q ≠ -1) : ∃ h' F', run T 53 [.ptr i 0, .int .i64 m] h = some (.tuple [.bool false, .bool true], h') ∧ MachAt h' i F' (ms ++ [m]) q n pv sp ∧ Keep (i :: F) h h' ∧ ∀ t ∈ F', t ∈ F ∨ h.size ≤ t := by
  obtain ⟨s, room, hi, v, ni⟩ := b
  have ec := contains_ok v.view (by omega) m
  obtain ⟨s', g, F', ea, v', k', f'⟩ := app_one v (x := .int .i64 m) rfl (by simp; omega)
  have hi' := k'.obj hi ni
  have ni' : i ∉ F' := fun hm => by
    rcases f' i hm with h6 | h6
    · exact ni h6
    · have := get_lt hi
      omega
  have hip : (h.push (.cells false [.int .i64 m] none)).get i = some (.cells false [pv, sp, s, .int .i64 q, .int .i64 n] room) := get_push_old hi
  have hone : s'.one = true := by cases v' <;> rfl
  have hce : s'.cells = [s'] := by cases v' <;> rfl
  refine ⟨g.put i (.cells false [pv, sp, s', .int .i64 q, .int .i64 n] room), F', run_eq T_53 ?_, ⟨s', room, by rw [get_put_same, hi']; rfl, ?_, ni'⟩, (k'.mono (by simp; exact fun t ht => Or.inr ht)).trans' (Keep.put (by simp)), f'⟩
  · have h0' : ¬ m < 0 := by omega
    have h1' : ¬ n ≤ m := by omega
    simp [F53, h0', hi, h1', h2, ec, h3, hq, ea, hi', hone, hce]
  · have v2 := v'.keep (Keep.put (F := [i]) (by simp)) (h' := g.put i (.cells false [pv, sp, s', .int .i64 q, .int .i64 n] room)) (fun t ht hm => by simp only [List.mem_singleton] at hm; subst hm; exact ni' ht)
    rw [intsA_append]
    exact v2

theorem mach_take (b : MachAt h i F (ms ++ [m]) q n pv sp) (hb : ms.length ≤ 999999) : ∃ h', run T 180 [.ptr i 0] h = some (.tuple [.int .i64 m, .bool true], h') ∧ MachAt h' i F ms q n pv sp ∧ Keep (i :: F) h h' := by
  obtain ⟨s, room, hi, v, ni⟩ := b
  have hl := v.view.len1
  simp at hl
  have hg : (intsA (ms ++ [m]))[ms.length]? = some (.int .i64 m) := by simp [intsA]
  obtain ⟨j, o, i1, i2, i3⟩ := v.view.idx1 hg
  have hw : IntKind.wrap .i64 (ms.length : Int) = (ms.length : Int) := wrap_i64 (by omega) (by omega)
  obtain ⟨s', es, v'⟩ := v.slice (by omega) (n := ms.length + 1) (lo := none) (hi := some (.int .i64 ms.length)) (a := 0) (b := ms.length) (by simp) (by simp) (by simp) (by omega) (by omega)
  rw [show ((intsA (ms ++ [m])).drop (0 * 1)).take ((ms.length - 0) * 1) = intsA ms by simp [intsA]] at v'
  have hone : s'.one = true := by cases v' <;> rfl
  have hce : s'.cells = [s'] := by cases v' <;> rfl
  have hpos : (0 : Int) < (ms.length : Int) + 1 := by omega
  refine ⟨h.put i (.cells false [pv, sp, s', .int .i64 q, .int .i64 n] room), run_eq T_180 ?_, ⟨s', room, by rw [get_put_same, hi]; rfl, v'.keep (Keep.put (F := [i]) (by simp)) (fun t ht hm => by simp only [List.mem_singleton] at hm; subst hm; exact ni ht), ni⟩, Keep.put (by simp)⟩
  simp [F180, hi, hl, hpos, hw, i1, i3, es, hone, hce]

theorem mach_take_last (b : MachAt h i F [] q n pv sp) : ∃ h', run T 180 [.ptr i 0] h = some (.tuple [.int .i64 (max 0 q), .bool (decide (q ≠ -1))], h') ∧ MachAt h' i F [] (-1) n pv sp ∧ Keep (i :: F) h h' := by
  have ep := mach_poller b
  obtain ⟨h', e, b', k⟩ := mach_q b (-1)
  obtain ⟨s, room, hi, v, ni⟩ := b
  have hl := v.view.len1
  simp at hl
  rw [hi] at e
  simp at e
  refine ⟨h', run_eq T_180 ?_, b', k⟩
  simp at ep
  simp [F180, hi, hl, ep, e]
end

end Go.Proofs.YtblhcbmcbhoeiaaGreatDoor.Ev
end

section
/- What the functions of idle processors and machines come to. -/
namespace Go.Proofs.YtblhcbmcbhoeiaaGreatDoor.Ev
set_option linter.unusedSimpArgs false
set_option linter.unusedVariables false
open Go
set_option maxRecDepth 100000

/-- All of it: its head x, the whole footprint FT; processors below n that are idle (words), pending ones, machines (of N), the poller. -/
def IdleAt (h : AHeap) (x : Nat) (FT : List Nat) (n : Nat) (N : Int) (ws : List Nat) (pend ms : List Int) (q : Int) : Prop := ∃ (sp : AV) (pi pj : Nat) (Fp Fm : List Nat), MachAt h x Fm ms q N (.ptr pi 0) sp ∧ Vec h 1 (intsA pend) Fp sp ∧ MaskAt h pi pj n ws ∧ FT = x :: pi :: pj :: (Fp ++ Fm) ∧ FT.Nodup

section
variable {h h' : AHeap} {x n : Nat} {N q m : Int} {FT ws : List Nat} {pend ms : List Int}

theorem IdleAt.keep {G : List Nat} (b : IdleAt h x FT n N ws pend ms q) (k : Keep G h h') (hd : ∀ t ∈ FT, t ∉ G) : IdleAt h' x FT n N ws pend ms q := by
  obtain ⟨sp, pi, pj, Fp, Fm, a, v, mk, rfl, nd⟩ := b
  exact ⟨sp, pi, pj, Fp, Fm, a.keep k (fun t ht => hd t (by simp at ht ⊢; rcases ht with rfl | ht <;> simp_all)), v.keep k (fun t ht => hd t (by simp [ht])), mk.keep k (hd _ (by simp)) (hd _ (by simp)), rfl, nd⟩
theorem IdleAt.lt (b : IdleAt h x FT n N ws pend ms q) : ∀ t ∈ FT, t < h.size := by
  obtain ⟨sp, pi, pj, Fp, Fm, a, v, mk, rfl, nd⟩ := b
  intro t ht
  simp at ht
  have h1 := a.lt
  have h2 := v.lt
  have h3 := mk.lt
  rcases ht with rfl | rfl | rfl | ht | ht
  · exact h1 _ (by simp)
  · exact h3.1
  · exact h3.2
  · exact h2 t ht
  · exact h1 t (by simp [ht])

theorem idle_new2 (h : AHeap) (a b : Int) : ∃ h' x FT n, run T 48 [.int .i64 a, .int .i64 b] h = some (.ptr x 0, h') ∧ IdleAt h' x FT n (min (max 1 b) 128) (List.replicate ((n + 63) / 64) 0) [] [] (-1) ∧ (n : Int) = min (max 1 a) 64 ∧ Keep [] h h' ∧ ∀ t ∈ FT, h.size ≤ t := by
  obtain ⟨h1, i, j, n, e, m, hn, k1, hi, hj⟩ := mask_new h (min (max 1 a) 64)
  have lt := m.lt
  have kp : Keep [] h1 (h1.push (.cells false [.ptr i 0, .nilslice, .nilslice, .int .i64 (-1), .int .i64 (min (max 1 b) 128)] none)) := Keep.push
  have ne := m.1
  refine ⟨h1.push (.cells false [.ptr i 0, .nilslice, .nilslice, .int .i64 (-1), .int .i64 (min (max 1 b) 128)] none), h1.size, [h1.size, i, j], n, run_eq T_48 ?_, ⟨.nilslice, i, j, [], [], ⟨.nilslice, none, get_push_new, .nil rfl, by simp⟩, .nil rfl, m.keep kp (by simp) (by simp), rfl, by simp; omega⟩, by omega, k1.trans' kp, ?_⟩
  · simp [F48, e]
  · have := k1.size
    intro t ht
    simp at ht
    omega

/-- Its processors change. -/
theorem IdleAt.mask {G : List Nat} {ws' : List Nat} {pi pj : Nat} {Fp Fm : List Nat} {sp : AV} (a : MachAt h x Fm ms q N (.ptr pi 0) sp) (v : Vec h 1 (intsA pend) Fp sp) (nd : (x :: pi :: pj :: (Fp ++ Fm)).Nodup) (mk : MaskAt h' pi pj n ws') (k : Keep [pj] h h') : IdleAt h' x (x :: pi :: pj :: (Fp ++ Fm)) n N ws' pend ms q := by
  have nd' := nd
  simp at nd
  obtain ⟨⟨n1, n2, n3, n4⟩, ⟨n5, n6, n7⟩, ⟨n8, n9⟩, n10⟩ := nd
  exact ⟨sp, pi, pj, Fp, Fm, a.keep k (fun t ht hm => by simp at ht hm; subst hm; rcases ht with h | h; exact n2 h.symm; exact n9 h), v.keep k (fun t ht hm => by simp at hm; subst hm; exact n8 ht), mk, rfl, nd'⟩

theorem putP_yes (b : IdleAt h x FT n N ws pend ms q) (hb : pend.length ≤ 1000000) {k : Nat} (hp : (k : Int) ∉ pend) (hk : k < n) (hw : bit ws k = false) : ∃ h', run T 51 [.ptr x 0, .int .i64 (k : Int)] h = some (.bool true, h') ∧ IdleAt h' x FT n N (flip ws k) pend ms q ∧ Keep FT h h' := by
  obtain ⟨sp, pi, pj, Fp, Fm, a, v, mk, rfl, nd⟩ := b
  obtain ⟨h', e, mk', k'⟩ := put_yes mk hk hw
  have ec := contains_ok v.view hb (k : Int)
  refine ⟨h', run_eq T_51 ?_, IdleAt.mask (G := []) a v nd mk' k', k'.mono (by simp)⟩
  obtain ⟨s, room, hx, va, ni⟩ := a
  simp [F51, hx, ec, hp, e]
theorem putP_no (b : IdleAt h x FT n N ws pend ms q) (hb : pend.length ≤ 1000000) {k : Int} (hp : k ∈ pend ∨ k < 0 ∨ (n : Int) ≤ k ∨ bit ws k.toNat = true) : run T 51 [.ptr x 0, .int .i64 k] h = some (.bool false, h) := by
  obtain ⟨sp, pi, pj, Fp, Fm, a, v, mk, rfl, nd⟩ := b
  have ec := contains_ok v.view hb k
  obtain ⟨s, room, hx, va, ni⟩ := a
  refine run_eq T_51 ?_
  by_cases hkp : k ∈ pend
  · simp [F51, hx, ec, hkp]
  · have e := put_no mk (k := k) (by rcases hp with h | h; exact absurd h hkp; exact h)
    simp [F51, hx, ec, hkp, e]

theorem takeP_none (b : IdleAt h x FT n N ws pend ms q) (hg : h.get 3 = some (.cells true globDB none)) (hm : mem ws = []) : run T 147 [.ptr x 0] h = some (.tuple [.int .i64 0, .bool false], h) := by
  obtain ⟨sp, pi, pj, Fp, Fm, a, v, mk, rfl, nd⟩ := b
  obtain ⟨r, e, hr⟩ := mask_first mk hg
  have hr := next_nil hm hr
  subst hr
  have e2 := take_no mk (k := -1) (Or.inl (by omega))
  obtain ⟨s, room, hx, va, ni⟩ := a
  refine run_eq T_147 ?_
  simp [F147, hx, e, e2]
  rfl
theorem takeP_some (b : IdleAt h x FT n N ws pend ms q) (hg : h.get 3 = some (.cells true globDB none)) {k : Nat} {L : List Nat} (hm : mem ws = k :: L) : ∃ h', run T 147 [.ptr x 0] h = some (.tuple [.int .i64 (k : Int), .bool true], h') ∧ IdleAt h' x FT n N (flip ws k) pend ms q ∧ Keep FT h h' := by
  obtain ⟨sp, pi, pj, Fp, Fm, a, v, mk, rfl, nd⟩ := b
  obtain ⟨r, e, hr⟩ := mask_first mk hg
  have hr := next_head hm hr
  subst hr
  have hkb : bit ws k = true := mem_iff.1 (by rw [hm]; simp)
  have hkn : k < n := by
    rcases Nat.lt_or_ge k n with h | h
    · exact h
    · rw [mk.2.1.out k h] at hkb
      cases hkb
  obtain ⟨h', e2, mk', k'⟩ := take_yes mk hkn hkb
  refine ⟨h', run_eq T_147 ?_, IdleAt.mask (G := []) a v nd mk' k', k'.mono (by simp)⟩
  obtain ⟨s, room, hx, va, ni⟩ := a
  have hmx : max (0 : Int) k = k := by omega
  simp [F147, hx, e, e2, hmx]

theorem countP_ok (b : IdleAt h x FT n N ws pend ms q) : run T 14 [.ptr x 0] h = some (.int .i64 (((mem ws).length : Nat) : Int), h) := by
  obtain ⟨sp, pi, pj, Fp, Fm, a, v, mk, rfl, nd⟩ := b
  have e := mask_count mk
  rw [popW_mem] at e
  obtain ⟨s, room, hx, va, ni⟩ := a
  exact run_eq T_14 (by simp [F14, hx, e])
theorem pending_ok (b : IdleAt h x FT n N ws pend ms q) : run T 66 [.ptr x 0] h = some (.int .i64 pend.length, h) := by
  obtain ⟨sp, pi, pj, Fp, Fm, a, v, mk, rfl, nd⟩ := b
  have hl := v.view.len1
  simp at hl
  obtain ⟨s, room, hx, va, ni⟩ := a
  exact run_eq T_66 (by simp [F66, hx, hl])
theorem poller_ok (b : IdleAt h x FT n N ws pend ms q) : run T 65 [.ptr x 0] h = some (.tuple [.int .i64 (max 0 q), .bool (decide (q ≠ -1))], h) := by
  obtain ⟨sp, pi, pj, Fp, Fm, a, v, mk, rfl, nd⟩ := b
  exact mach_poller a

/-- Its machines change. -/
theorem IdleAt.mach {ms' : List Int} {q' : Int} {pi pj : Nat} {Fp Fm Fm' : List Nat} {sp : AV} (v : Vec h 1 (intsA pend) Fp sp) (mk : MaskAt h pi pj n ws) (nd : (x :: pi :: pj :: (Fp ++ Fm)).Nodup) (a : MachAt h' x Fm' ms' q' N (.ptr pi 0) sp) (k : Keep (x :: Fm) h h') (hf : ∀ t ∈ Fm', t ∈ Fm ∨ h.size ≤ t) (hn : Fm'.Nodup) : IdleAt h' x (x :: pi :: pj :: (Fp ++ Fm')) n N ws pend ms' q' := by
  simp at nd
  obtain ⟨⟨n1, n2, n3, n4⟩, ⟨n5, n6, n7⟩, ⟨n8, n9⟩, n10⟩ := nd
  have hl := mk.lt
  have hv := v.lt
  have nx : x ∉ Fm' := by
    obtain ⟨s, room, hx, va, ni⟩ := a
    exact ni
  have np : pi ∉ Fm' := fun h => by rcases hf _ h with h | h; exact n7 h; omega
  have nj : pj ∉ Fm' := fun h => by rcases hf _ h with h | h; exact n9 h; omega
  rw [List.nodup_append] at n10
  have nFp : ∀ t ∈ Fp, t ∉ Fm' := fun t ht h => by
    rcases hf _ h with h | h
    · exact n10.2.2 t ht t h rfl
    · have := hv t ht
      omega
  refine ⟨sp, pi, pj, Fp, Fm', a, v.keep k (fun t ht hm => ?_), mk.keep k ?_ ?_, rfl, ?_⟩
  · simp at hm
    rcases hm with rfl | hm
    · exact n3 ht
    · exact n10.2.2 t ht t hm rfl
  · simp
    exact ⟨fun h => n1 h.symm, n7⟩
  · simp
    exact ⟨fun h => n2 h.symm, n9⟩
  · simp
    refine ⟨⟨n1, n2, n3, nx⟩, ⟨n5, n6, np⟩, ⟨n8, nj⟩, ?_⟩
    rw [List.nodup_append]
    exact ⟨n10.1, hn, fun t ht u hu e => nFp t ht (e ▸ hu)⟩
end

theorem vec_nodup {h : AHeap} {size : Nat} {cs : List AV} {F : List Nat} {s : AV} (v : Vec h size cs F s) : F.Nodup := by cases v <;> simp

section
variable {h h' : AHeap} {x n : Nat} {N q m : Int} {FT ws : List Nat} {pend ms : List Int}

theorem stop_no (b : IdleAt h x FT n N ws pend ms q) (hb : ms.length ≤ 1000000) (hm : m < 0 ∨ N ≤ m ∨ m = q ∨ m ∈ ms) : run T 53 [.ptr x 0, .int .i64 m] h = some (.tuple [.bool false, .bool false], h) := by
  obtain ⟨sp, pi, pj, Fp, Fm, a, v, mk, rfl, nd⟩ := b
  exact mach_stop_no a hb hm
theorem stop_first (b : IdleAt h x FT n N ws pend ms (-1)) (hb : ms.length ≤ 1000000) (h0 : 0 ≤ m) (h1 : m < N) (h3 : m ∉ ms) : ∃ h', run T 53 [.ptr x 0, .int .i64 m] h = some (.tuple [.bool true, .bool true], h') ∧ IdleAt h' x FT n N ws pend ms m ∧ Keep FT h h' := by
  obtain ⟨sp, pi, pj, Fp, Fm, a, v, mk, rfl, nd⟩ := b
  obtain ⟨h', e, a', k⟩ := mach_stop_first a hb h0 h1 h3
  obtain ⟨s, room, hx, va, ni⟩ := a
  exact ⟨h', e, IdleAt.mach v mk nd a' k (fun t ht => Or.inl ht) (vec_nodup va), k.mono (by simp; intro t ht; simp [ht])⟩
theorem stop_more (b : IdleAt h x FT n N ws pend ms q) (hb : ms.length ≤ 999999) (h0 : 0 ≤ m) (h1 : m < N) (h2 : m ≠ q) (h3 : m ∉ ms) (hq : q ≠ -1) : ∃ h' FT', run T 53 [.ptr x 0, .int .i64 m] h = some (.tuple [.bool false, .bool true], h') ∧ IdleAt h' x FT' n N ws pend (ms ++ [m]) q ∧ Keep FT h h' ∧ ∀ t ∈ FT', t ∈ FT ∨ h.size ≤ t := by
  obtain ⟨sp, pi, pj, Fp, Fm, a, v, mk, rfl, nd⟩ := b
  obtain ⟨h', F', e, a', k, f'⟩ := mach_stop a hb h0 h1 h2 h3 hq
  have hn : F'.Nodup := by
    obtain ⟨s, room, hx, va, ni⟩ := a'
    exact vec_nodup va
  refine ⟨h', _, e, IdleAt.mach v mk nd a' k f' hn, k.mono (by simp; intro t ht; simp [ht]), fun t ht => ?_⟩
  simp at ht ⊢
  rcases ht with rfl | rfl | rfl | ht | ht
  · simp
  · simp
  · simp
  · simp [ht]
  · rcases f' t ht with h1 | h1
    · simp [h1]
    · simp [h1]
theorem takeM_some (b : IdleAt h x FT n N ws pend (ms ++ [m]) q) (hb : ms.length ≤ 999999) : ∃ h', run T 180 [.ptr x 0] h = some (.tuple [.int .i64 m, .bool true], h') ∧ IdleAt h' x FT n N ws pend ms q ∧ Keep FT h h' := by
  obtain ⟨sp, pi, pj, Fp, Fm, a, v, mk, rfl, nd⟩ := b
  obtain ⟨h', e, a', k⟩ := mach_take a hb
  obtain ⟨s, room, hx, va, ni⟩ := a
  exact ⟨h', e, IdleAt.mach v mk nd a' k (fun t ht => Or.inl ht) (vec_nodup va), k.mono (by simp; intro t ht; simp [ht])⟩
theorem takeM_last (b : IdleAt h x FT n N ws pend [] q) : ∃ h', run T 180 [.ptr x 0] h = some (.tuple [.int .i64 (max 0 q), .bool (decide (q ≠ -1))], h') ∧ IdleAt h' x FT n N ws pend [] (-1) ∧ Keep FT h h' := by
  obtain ⟨sp, pi, pj, Fp, Fm, a, v, mk, rfl, nd⟩ := b
  obtain ⟨h', e, a', k⟩ := mach_take_last a
  obtain ⟨s, room, hx, va, ni⟩ := a
  exact ⟨h', e, IdleAt.mach v mk nd a' k (fun t ht => Or.inl ht) (vec_nodup va), k.mono (by simp; intro t ht; simp [ht])⟩
theorem leave_no (b : IdleAt h x FT n N ws pend ms q) (hm : m < 0 ∨ m ≠ q) : run T 75 [.ptr x 0, .int .i64 m] h = some (.bool false, h) := by
  obtain ⟨sp, pi, pj, Fp, Fm, a, v, mk, rfl, nd⟩ := b
  exact mach_leave_no a hm
theorem leave_yes (b : IdleAt h x FT n N ws pend ms q) (h0 : 0 ≤ q) : ∃ h', run T 75 [.ptr x 0, .int .i64 q] h = some (.bool true, h') ∧ IdleAt h' x FT n N ws pend ms (-1) ∧ Keep FT h h' := by
  obtain ⟨sp, pi, pj, Fp, Fm, a, v, mk, rfl, nd⟩ := b
  obtain ⟨h', e, a', k⟩ := mach_leave a h0
  obtain ⟨s, room, hx, va, ni⟩ := a
  exact ⟨h', e, IdleAt.mach v mk nd a' k (fun t ht => Or.inl ht) (vec_nodup va), k.mono (by simp; intro t ht; simp [ht])⟩

/-- Its pending processors change: the new slice is written into its head. -/
theorem IdleAt.setPend {g : AHeap} {pend' : List Int} {pi pj : Nat} {Fp Fp' Fm : List Nat} {sp sp' : AV} (a : MachAt h x Fm ms q N (.ptr pi 0) sp) (v : Vec h 1 (intsA pend) Fp sp) (mk : MaskAt h pi pj n ws) (nd : (x :: pi :: pj :: (Fp ++ Fm)).Nodup) (k : Keep Fp h g) (v' : Vec g 1 (intsA pend') Fp' sp') (f' : ∀ t ∈ Fp', t ∈ Fp ∨ h.size ≤ t) : ∃ sm room, g.get x = some (.cells false [.ptr pi 0, sp, sm, .int .i64 q, .int .i64 N] room) ∧ IdleAt (g.put x (.cells false [.ptr pi 0, sp', sm, .int .i64 q, .int .i64 N] room)) x (x :: pi :: pj :: (Fp' ++ Fm)) n N ws pend' ms q ∧ Keep (x :: pi :: pj :: (Fp ++ Fm)) h (g.put x (.cells false [.ptr pi 0, sp', sm, .int .i64 q, .int .i64 N] room)) ∧ ∀ t ∈ x :: pi :: pj :: (Fp' ++ Fm), t ∈ x :: pi :: pj :: (Fp ++ Fm) ∨ h.size ≤ t := by
  have la := a.lt
  have lm := mk.lt
  simp at nd
  obtain ⟨⟨n1, n2, n3, n4⟩, ⟨n5, n6, n7⟩, ⟨n8, n9⟩, n10⟩ := nd
  rw [List.nodup_append] at n10
  have a1 := a.keep k (fun t ht hm => by
    rcases List.mem_cons.1 ht with rfl | ht
    · exact n3 hm
    · exact n10.2.2 t hm t ht rfl)
  have mk1 := mk.keep k n6 n8
  obtain ⟨s, room, hx, va, ni⟩ := a1
  have fx : ∀ {t}, t ∈ Fp' → t < h.size → t ∈ Fp := fun ht hl => by
    rcases f' _ ht with h | h
    · exact h
    · omega
  have nx : x ∉ Fp' := fun h => n3 (fx h (la x (by simp)))
  have kp : Keep [x] g (g.put x (.cells false [.ptr pi 0, sp', s, .int .i64 q, .int .i64 N] room)) := Keep.put (by simp)
  refine ⟨s, room, hx, ⟨sp', pi, pj, Fp', Fm, ⟨s, room, by rw [get_put_same, hx]; rfl, va.keep kp (fun t ht hm => by simp at hm; subst hm; exact ni ht), ni⟩, v'.keep kp (fun t ht hm => by simp at hm; subst hm; exact nx ht), mk1.keep kp (by simp; exact fun h => n1 h.symm) (by simp; exact fun h => n2 h.symm), rfl, ?_⟩, (k.mono (fun t ht => by simp [ht])).trans' (kp.mono (by simp)), fun t ht => ?_⟩
  · simp
    refine ⟨⟨n1, n2, nx, n4⟩, ⟨n5, fun h => n6 (fx h lm.1), n7⟩, ⟨fun h => n8 (fx h lm.2), n9⟩, ?_⟩
    rw [List.nodup_append]
    exact ⟨vec_nodup v', n10.2.1, fun t ht u hu e => by subst e; exact n10.2.2 t (fx ht (la t (by simp [hu]))) t hu rfl⟩
  · simp at ht ⊢
    rcases ht with rfl | rfl | rfl | ht | ht
    · simp
    · simp
    · simp
    · rcases f' t ht with h1 | h1
      · simp [h1]
      · simp [h1]
    · simp [ht]

theorem pend_yes (b : IdleAt h x FT n N ws pend ms q) (hb : pend.length ≤ 999999) {k : Nat} (hk : k < n) (hw : bit ws k = false) (hp : (k : Int) ∉ pend) : ∃ h' FT', run T 181 [.ptr x 0, .int .i64 (k : Int)] h = some (.bool true, h') ∧ IdleAt h' x FT' n N ws (pend ++ [(k : Int)]) ms q ∧ Keep FT h h' ∧ ∀ t ∈ FT', t ∈ FT ∨ h.size ≤ t := by
  obtain ⟨sp, pi, pj, Fp, Fm, a, v, mk, rfl, nd⟩ := b
  have ec := contains_ok v.view (by omega) (k : Int)
  have el := mask_len mk
  have e := mask_has mk k hk
  rw [hw] at e
  obtain ⟨sp', g, F', ea, v', k', f'⟩ := app_one v (x := .int .i64 (k : Int)) rfl (by simp; omega)
  rw [show intsA pend ++ [AV.int .i64 (k : Int)] = intsA (pend ++ [(k : Int)]) by simp [intsA]] at v'
  obtain ⟨sm, room, hgx, b', kk, ff⟩ := IdleAt.setPend a v mk nd k' v' f'
  obtain ⟨s, room0, hx, va, ni⟩ := a
  have hip : (h.push (.cells false [.int .i64 (k : Int)] none)).get x = some (.cells false [.ptr pi 0, sp, s, .int .i64 q, .int .i64 N] room0) := get_push_old hx
  have hone : sp'.one = true := by cases v' <;> rfl
  have hce : sp'.cells = [sp'] := by cases v' <;> rfl
  have h0 : ¬ (k : Int) < 0 := by omega
  have h1' : ¬ n ≤ k := by omega
  refine ⟨_, _, run_eq T_181 ?_, b', kk, ff⟩
  simp [F181, h0, hx, el, h1', e, ec, hp, ea, hgx, hone, hce]
theorem takePending_none (b : IdleAt h x FT n N ws [] ms q) : run T 149 [.ptr x 0] h = some (.tuple [.int .i64 0, .bool false], h) := by
  obtain ⟨sp, pi, pj, Fp, Fm, a, v, mk, rfl, nd⟩ := b
  have hl := v.view.len1
  simp at hl
  obtain ⟨s, room0, hx, va, ni⟩ := a
  refine run_eq T_149 ?_
  simp [F149, hx, hl]
theorem takePending_some (b : IdleAt h x FT n N ws (m :: pend) ms q) (hb : pend.length ≤ 999999) : ∃ h' FT', run T 149 [.ptr x 0] h = some (.tuple [.int .i64 m, .bool true], h') ∧ IdleAt h' x FT' n N ws pend ms q ∧ Keep FT h h' ∧ ∀ t ∈ FT', t ∈ FT ∨ h.size ≤ t := by
  obtain ⟨sp, pi, pj, Fp, Fm, a, v, mk, rfl, nd⟩ := b
  have hl := v.view.len1
  simp at hl
  obtain ⟨j, o, i1, i2, i3⟩ := v.view.idx1 (k := 0) (x := .int .i64 m) rfl
  obtain ⟨sp', g, ed, v', k'⟩ := delete_ok v (by simp; omega) (n := 1) (by simp)
  have v' : Vec g 1 (intsA pend) Fp sp' := by simpa using v'
  obtain ⟨sm, room, hgx, b', kk, ff⟩ := IdleAt.setPend a v mk nd k' v' (fun t ht => Or.inl ht)
  obtain ⟨s, room0, hx, va, ni⟩ := a
  have hone : sp'.one = true := by cases v' <;> rfl
  have hce : sp'.cells = [sp'] := by cases v' <;> rfl
  have i1 : idxAddrV 1 none sp (.int .i64 0) = some (.ptr j o) := i1
  have ed : run T 175 [sp, .int .i64 0, .int .i64 1] h = some (sp', g) := ed
  have hne : ¬ (pend.length : Int) + 1 = 0 := by omega
  refine ⟨_, _, run_eq T_149 ?_, b', kk, ff⟩
  simp [F149, hx, hl, hne, i1, i3, ed, hgx, hone, hce]

theorem clone64_at {j : Nat} {c : Cap} {ro : Bool} {rj : Option (Nat × Nat)} (hj : h.get j = some (.cells ro (natsA ws) rj)) (hw : h.within ws.length c = true) (hb : ws.length ≤ 1000) : ∃ h' j' c' rj', run T 80 [.slice j 0 ws.length c] h = some (.slice j' 0 ws.length c', h') ∧ h'.get j' = some (.cells false (natsA ws) rj') ∧ h'.within ws.length c' = true ∧ Keep [] h h' ∧ h.size ≤ j' := by
  have kp : Keep [] h (h.push (.cells false [] none)) := Keep.push
  have hf : firstCellsA (h.push (.cells false [] none)) 1 ws.length (.slice j 0 ws.length c) = some (natsA ws) := by
    have hj2 := kp.obj hj (by simp)
    simp only [firstCellsA]
    by_cases h0 : ws.length = 0
    · have : ws = [] := List.eq_nil_of_length_eq_zero h0
      subst this
      simp [natsA]
    · rw [if_neg h0, if_pos (Nat.le_refl _)]
      simp [hj2]
      rw [List.take_of_length_le (by simp)]
  have happ : appendV (h.push (.cells false [] none)) 1 8 (.slice h.size 0 0 (.exact 0)) (.slice j 0 ws.length c) = if ws.length = 0 then some (.slice h.size 0 0 (.exact 0), h.push (.cells false [] none)) else some (.slice (h.push (.cells false [] none)).size 0 ws.length (.loose (h.push (.cells false [] none)).caps.length 0), (h.push (.cells false [] none)).grow (.cells false (natsA ws) (some ((h.push (.cells false [] none)).caps.length, 1))) ws.length) := by
    simp only [appendV, lenA_slice, hf]
    rw [if_pos ⟨by simp only [bigA]; omega, by simp only [bigA]; omega, natsA_one⟩]
    by_cases h0 : ws.length = 0
    · have hw0 : (0 + ws.length ≤ 0) := by omega
      simp only [AHeap.within, hw0, decide_true, h0, if_true]
      rfl
    · have h1 : ¬ (0 + ws.length ≤ 0) := by omega
      have h2 : (0 : Nat) < 0 + ws.length := by omega
      simp only [AHeap.within, h1, decide_false, h2, if_true, h0, if_false]
      simp [firstCellsA, AHeap.grow, AHeap.size, -fold_size, -fold_get, -fold_lb]
  by_cases h0 : ws.length = 0
  · rw [if_pos h0] at happ
    have hws : ws = [] := List.eq_nil_of_length_eq_zero h0
    subst hws
    refine ⟨h.push (.cells false [] none), h.size, .exact 0, none, run_eq T_80 ?_, get_push_new, by simp [AHeap.within], kp, Nat.le_refl _⟩
    simp only [List.length_nil] at happ
    simp [F80, happ]
  · rw [if_neg h0] at happ
    refine ⟨_, _, _, _, run_eq T_80 (v := .slice (h.push (.cells false [] none)).size 0 ws.length (.loose (h.push (.cells false [] none)).caps.length 0)) (h' := (h.push (.cells false [] none)).grow (.cells false (natsA ws) (some ((h.push (.cells false [] none)).caps.length, 1))) ws.length) ?_, get_grow_new, ?_, kp.trans' Keep.grow, by simp⟩
    · simp [F80, happ]
    · have := grow_lb (h := h.push (.cells false [] none)) (x := .cells false (natsA ws) (some ((h.push (.cells false [] none)).caps.length, 1))) (n := ws.length)
      simp only [AHeap.within]
      rw [show ((h.push (.cells false [] none)).grow (.cells false (natsA ws) (some ((h.push (.cells false [] none)).caps.length, 1))) ws.length).caps[(h.push (.cells false [] none)).caps.length]? = some ws.length from this]
      simp

theorem mask_copy {i j : Nat} (m : MaskAt h i j n ws) : ∃ h' i' j', run T 82 [.ptr i 0] h = some (.ptr i' 0, h') ∧ MaskAt h' i' j' n ws ∧ Keep [] h h' ∧ h.size ≤ i' ∧ h.size ≤ j' := by
  obtain ⟨ne, b, c, ri, rj, h1, h2, h3⟩ := m
  have hl := b.len
  have hle := b.le
  obtain ⟨g, j', c', rj', e, q1, q2, kp, hj'⟩ := clone64_at h2 h3 (by omega)
  have h1' := kp.obj h1 (by simp)
  have kp2 : Keep [] g (g.push (.cells false [.int .i64 (n : Int), .slice j' 0 ws.length c'] none)) := Keep.push
  have lj := get_lt q1
  refine ⟨g.push (.cells false [.int .i64 (n : Int), .slice j' 0 ws.length c'] none), g.size, j', run_eq T_82 ?_, ⟨by omega, b, c', none, rj', get_push_new, kp2.obj q1 (by simp), within_keep q2 kp2⟩, kp.trans' kp2, kp.size, hj'⟩
  simp [F82, h1, e, h1']

theorem idle_copy (b : IdleAt h x FT n N ws pend ms q) (hb : pend.length ≤ 1000 ∧ ms.length ≤ 1000) : ∃ h' y FT', run T 38 [.ptr x 0] h = some (.ptr y 0, h') ∧ IdleAt h' y FT' n N ws pend ms q ∧ Keep [] h h' ∧ ∀ t ∈ FT', h.size ≤ t := by
  obtain ⟨sp, pi, pj, Fp, Fm, a, v, mk, rfl, nd⟩ := b
  obtain ⟨g1, i', j', e1, m1, k1, hi', hj'⟩ := mask_copy mk
  obtain ⟨sp', g2, Fp', e2, v2, k2, f2⟩ := clone_ok (v.view.keep k1 (by simp)) (by omega)
  obtain ⟨s, room, hx, va, ni⟩ := a
  have k12 := k1.trans' k2
  obtain ⟨sm', g3, Fm', e3, v3, k3, f3⟩ := clone_ok (va.view.keep k12 (by simp)) (by omega)
  have k13 := k12.trans' k3
  have hx1 := k1.obj hx (by simp)
  have hx2 := k12.obj hx (by simp)
  have hx3 := k13.obj hx (by simp)
  have kp : Keep [] g3 (g3.push (.cells false [.ptr i' 0, sp', sm', .int .i64 q, .int .i64 N] none)) := Keep.push
  have l1 := m1.lt
  have l2 := v2.lt
  have l3 := v3.lt
  have z1 := k1.size
  have z2 := k2.size
  have z3 := k3.size
  have ne := m1.1
  have hone : sp'.one = true ∧ sp'.cells = [sp'] := by cases v2 <;> exact ⟨rfl, rfl⟩
  have hone3 : sm'.one = true ∧ sm'.cells = [sm'] := by cases v3 <;> exact ⟨rfl, rfl⟩
  have n1 := vec_nodup v2
  have n2 := vec_nodup v3
  refine ⟨_, g3.size, g3.size :: i' :: j' :: (Fp' ++ Fm'), run_eq T_38 (h' := g3.push (.cells false [.ptr i' 0, sp', sm', .int .i64 q, .int .i64 N] none)) ?_, ⟨sp', i', j', Fp', Fm', ⟨sm', none, get_push_new, v3.keep kp (by simp), fun h => by have := l3 _ h; omega⟩, (v2.keep k3 (by simp)).keep kp (by simp), ((m1.keep k2 (by simp) (by simp)).keep k3 (by simp) (by simp)).keep kp (by simp) (by simp), rfl, ?_⟩, k13.trans' kp, fun t ht => ?_⟩
  · simp [F38, hx, hx1, hx2, hx3, e1, e2, e3, hone.1, hone.2, hone3.1, hone3.2]
  · simp
    refine ⟨⟨by omega, by omega, fun h => by have := l2 _ h; omega, fun h => by have := l3 _ h; omega⟩, ⟨ne, fun h => by have := f2 _ h; omega, fun h => by have := f3 _ h; omega⟩, ⟨fun h => by have := f2 _ h; omega, fun h => by have := f3 _ h; omega⟩, ?_⟩
    rw [List.nodup_append]
    exact ⟨n1, n2, fun t ht u hu e => by subst e; have := l2 t ht; have := f3 t hu; omega⟩
  · simp at ht
    rcases ht with rfl | rfl | rfl | ht | ht
    · omega
    · exact hi'
    · exact hj'
    · have := f2 t ht
      omega
    · have := f3 t ht
      omega

/-- Whatever it comes to. -/
def AnyTo (h : AHeap) (x : Nat) (FT : List Nat) (n : Nat) (N : Int) (lp lm : Nat) (f : Nat) (args : List AV) : Prop := ∃ v h' FT' ws' pend' ms' q', run T f args h = some (v, h') ∧ IdleAt h' x FT' n N ws' pend' ms' q' ∧ Keep FT h h' ∧ (∀ t ∈ FT', t ∈ FT ∨ h.size ≤ t) ∧ pend'.length ≤ lp + 1 ∧ ms'.length ≤ lm + 1
theorem takeP_any (b : IdleAt h x FT n N ws pend ms q) (hg : h.get 3 = some (.cells true globDB none)) : AnyTo h x FT n N pend.length ms.length 147 [.ptr x 0] := by
  cases hm : mem ws with
  | nil => exact ⟨_, _, _, _, _, _, _, takeP_none b hg hm, b, Keep.refl, fun t ht => Or.inl ht, by omega, by omega⟩
  | cons k L =>
    obtain ⟨h', e, b', k'⟩ := takeP_some b hg hm
    exact ⟨_, _, _, _, _, _, _, e, b', k', fun t ht => Or.inl ht, by omega, by omega⟩
theorem takeM_any (b : IdleAt h x FT n N ws pend ms q) (hb : ms.length ≤ 1000) : AnyTo h x FT n N pend.length ms.length 180 [.ptr x 0] := by
  rcases List.eq_nil_or_concat ms with rfl | ⟨L, m, rfl⟩
  · obtain ⟨h', e, b', k'⟩ := takeM_last b
    exact ⟨_, _, _, _, _, _, _, e, b', k', fun t ht => Or.inl ht, by omega, by simp⟩
  · rw [List.concat_eq_append] at b hb ⊢
    simp at hb
    obtain ⟨h', e, b', k'⟩ := takeM_some b (by omega)
    exact ⟨_, _, _, _, _, _, _, e, b', k', fun t ht => Or.inl ht, by omega, by simp; omega⟩
theorem stop_any (b : IdleAt h x FT n N ws pend ms q) (hb : ms.length ≤ 1000) (k : Int) : AnyTo h x FT n N pend.length ms.length 53 [.ptr x 0, .int .i64 k] := by
  by_cases hno : k < 0 ∨ N ≤ k ∨ k = q ∨ k ∈ ms
  · exact ⟨_, _, _, _, _, _, _, stop_no b (by omega) hno, b, Keep.refl, fun t ht => Or.inl ht, by omega, by omega⟩
  · have h1 : ¬ k < 0 := fun h => hno (Or.inl h)
    have h2 : ¬ N ≤ k := fun h => hno (Or.inr (Or.inl h))
    have h3 : ¬ k = q := fun h => hno (Or.inr (Or.inr (Or.inl h)))
    have h4 : k ∉ ms := fun h => hno (Or.inr (Or.inr (Or.inr h)))
    by_cases hq : q = -1
    · subst hq
      obtain ⟨h', e, b', k'⟩ := stop_first b (by omega) (m := k) (by omega) (by omega) h4
      exact ⟨_, _, _, _, _, _, _, e, b', k', fun t ht => Or.inl ht, by omega, by omega⟩
    · obtain ⟨h', FT', e, b', k', f'⟩ := stop_more b (by omega) (m := k) (by omega) (by omega) h3 h4 hq
      exact ⟨_, _, _, _, _, _, _, e, b', k', f', by omega, by simp⟩
end

end Go.Proofs.YtblhcbmcbhoeiaaGreatDoor.Ev
end

section
/- The world: what its heap holds, by parts of one colour each; how one part changes and the others stay. -/
namespace Go.Proofs.YtblhcbmcbhoeiaaGreatDoor.Ev
set_option linter.unusedSimpArgs false
set_option linter.unusedVariables false
open Go
set_option maxRecDepth 100000

/-- A world, without its heap. -/
structure W where
  P : Nat
  M : Nat
  G : Nat
  ws : List Int
  rings : List Rg
  turns : List Int
  gl : List Int
  ip : List Nat
  pend : List Int
  ms : List Int
  q : Int
  all : List Mc
  flag : List Bool
  lg : Nat
  deriving DecidableEq

/-- The words: how many spin; the notes; the table. -/
def W.sp (w : W) : Nat := 2 * (w.P + 2)
def W.nt (w : W) : Nat := 2 * w.P + 5
def W.tb (w : W) : Nat := 2 * w.P + 5 + w.M

/-- Where its parts lie. -/
structure Lay where
  a : Nat
  mi : Nat
  mj : Nat
  ro : Nat
  rs : AV
  rp : List Nat
  to : Nat
  gi : Nat
  si : Nat
  ii : Nat
  ao : Nat
  ab : Nat
  ac : Cap
  fo : Nat

def boolsA (l : List Bool) : List AV := l.map (.bool ·)
@[simp] theorem boolsA_len {l : List Bool} : (boolsA l).length = l.length := by simp [boolsA]
theorem boolsA_get {l : List Bool} {i : Nat} {b : Bool} (h : l[i]? = some b) : (boolsA l)[i]? = some (.bool b) := by simp [boolsA, h]
theorem boolsA_set (l : List Bool) (i : Nat) (b : Bool) : (boolsA l).set i (.bool b) = boolsA (l.set i b) := by simp [boolsA, List.map_set]
theorem intsA_set (l : List Int) (i : Nat) (b : Int) : (intsA l).set i (.int .i64 b) = intsA (l.set i b) := by simp [intsA, List.map_set]
theorem intsA_at {l : List Int} {i : Nat} {b : Int} (h : l[i]? = some b) : (intsA l)[i]? = some (.int .i64 b) := by simp [intsA, h]

/-- The world's own cells. -/
def headA (S : Lay) (w : W) (u : AV) : List AV := [.int .i64 (w.P : Int), .int .i64 (w.M : Int), .int .i64 (w.G : Int), .ptr S.mi 0, .int .i64 (w.sp : Int), .int .i64 (w.nt : Int), .int .i64 (w.tb : Int), .int .i64 (w.G : Int), S.rs, .slice S.to 0 w.P (.exact w.P), .ptr S.gi 0, .ptr S.si 0, .ptr S.ii 0, .slice S.ao S.ab w.M S.ac, .slice S.fo 0 w.M (.exact w.M), u]

/-- One machine's cells, in those of all. -/
structure Foc (cs : List AV) (b : Nat) (m : Mc) (rv : AV) : Prop where
  l : b + 18 ≤ cs.length
  at_ : ∀ k < 18, cs[b + k]? = (mcA m rv)[k]?

/-- Changed cells: one machine's. -/
structure Up (cs cs' : List AV) (b : Nat) (m : Mc) (rv : AV) : Prop where
  len : cs'.length = cs.length
  else_ : ∀ j, j < b ∨ b + 18 ≤ j → cs'[j]? = cs[j]?
  foc : Foc cs' b m rv

def Mc.put (m : Mc) (k : Nat) (v : Int) : Mc := match k with
  | 0 => { m with pl := v } | 1 => { m with p := v } | 2 => { m with g := v } | 3 => { m with nx := v } | 4 => { m with got := v } | 5 => { m with tg := v }
  | 6 => { m with ii := v } | 10 => { m with bk := v } | 11 => { m with af := v } | 12 => { m with ar := v } | 13 => { m with ln := v } | 14 => { m with ls := v }
  | 15 => { m with st := v } | 17 => { m with tm := v } | _ => m

section
variable {cs cs' : List AV} {b : Nat} {m : Mc} {rv : AV}

theorem Foc.up (f : Foc cs b m rv) : Up cs cs b m rv := ⟨rfl, fun _ _ => rfl, f⟩
theorem Up.gen (u : Up cs cs' b m rv) {k : Nat} (hk : k < 18) {v : AV} {m' : Mc} {rv' : AV} (e : (mcA m rv).set k v = mcA m' rv') : Up cs (cs'.set (b + k) v) b m' rv' := by
  have hl := u.foc.l
  refine ⟨by simp [u.len], fun j hj => ?_, by simpa using hl, fun j hj => ?_⟩
  · rw [List.getElem?_set_ne (by omega)]
    exact u.else_ j hj
  · rw [← e]
    by_cases hjk : j = k
    · subst hjk
      rw [List.getElem?_set_self (by omega), List.getElem?_set_self (by simp [mcA]; omega)]
    · rw [List.getElem?_set_ne (by omega), List.getElem?_set_ne (by omega)]
      exact u.foc.at_ j hj
theorem Up.int (u : Up cs cs' b m rv) (k : Nat) (v : Int) (hk : k < 18 ∧ k ≠ 7 ∧ k ≠ 8 ∧ k ≠ 9 ∧ k ≠ 16 := by decide) : Up cs (cs'.set (b + k) (.int .i64 v)) b (m.put k v) rv := by
  obtain ⟨h1, h2, h3, h4, h5⟩ := hk
  refine u.gen h1 ?_
  match k, h1, h2, h3, h4, h5 with
  | 0, _, _, _, _, _ | 1, _, _, _, _, _ | 2, _, _, _, _, _ | 3, _, _, _, _, _ | 4, _, _, _, _, _ | 5, _, _, _, _, _ | 6, _, _, _, _, _ | 10, _, _, _, _, _ | 11, _, _, _, _, _ | 12, _, _, _, _, _ | 13, _, _, _, _, _ | 14, _, _, _, _, _ | 15, _, _, _, _, _ | 17, _, _, _, _, _ => rfl
  | n + 18, h1, _, _, _, _ => omega
theorem Up.place (u : Up cs cs' b m rv) (v : Int) : Up cs (cs'.set b (.int .i64 v)) b { m with pl := v } rv := u.gen (k := 0) (by omega) rfl
theorem Up.spin (u : Up cs cs' b m rv) (v : Bool) : Up cs (cs'.set (b + 7) (.bool v)) b { m with sp := v } rv := u.gen (by omega) rfl
theorem Up.inn (u : Up cs cs' b m rv) (v : Bool) : Up cs (cs'.set (b + 8) (.bool v)) b { m with inn := v } rv := u.gen (by omega) rfl
theorem Up.rest (u : Up cs cs' b m rv) (l : List Int) (v : AV) : Up cs (cs'.set (b + 9) v) b { m with rest := l } v := u.gen (by omega) rfl
theorem Up.tk (u : Up cs cs' b m rv) (v : Int) : Up cs (cs'.set (b + 16) (.int .u64 v)) b { m with tk := v } rv := u.gen (by omega) rfl
end

/-! ## Colours -/

def ext (own : Nat → Nat) (n c : Nat) : Nat → Nat := fun t => if t < n then own t else c

/-- All that changes is of one colour; what is new gets one. -/
structure Fr (own own' : Nat → Nat) (h h' : AHeap) (d : Nat) (G : List Nat) : Prop where
  keep : Keep G h h'
  col : ∀ t ∈ G, own t = d
  same : ∀ t < h.size, own' t = own t

structure HeadAt (h : AHeap) (S : Lay) (w : W) (own : Nat → Nat) (u : AV) (F : List Nat) : Prop where
  at_ : ∃ room, h.get S.a = some (.cells false (headA S w u) room)
  log : ∃ es, es.length = w.lg ∧ Vec h 5 (evsA es) F u
  ni : S.a ∉ F
  ca : own S.a = 1
  cF : ∀ t ∈ F, own t = 1

structure AllC (h : AHeap) (S : Lay) (w : W) (own : Nat → Nat) (cs : List AV) : Prop where
  get : ∃ room, h.get S.ao = some (.cells false cs room)
  len : w.all.length = w.M
  foc : ∀ i m, w.all[i]? = some m → ∃ rv F, Foc cs (S.ab + i * 18) m rv ∧ View h 1 (intsA m.rest) F rv ∧ ∀ t ∈ F, own t = 8
  wi : h.within w.M S.ac = true

/-- How much there is. -/
structure Sz (w : W) : Prop where
  P : 1 ≤ w.P ∧ w.P ≤ 64
  M : w.P ≤ w.M ∧ w.M ≤ 128
  G : 1 ≤ w.G ∧ w.G ≤ 4096
  ws : w.ws.length = 2 * w.P + 5 + w.M + w.G

/-- All of it; X: what lies outside of it. -/
structure WAt (h : AHeap) (S : Lay) (w : W) (X : List Nat) (own : Nat → Nat) : Prop where
  sz : Sz w
  pl : PlacesAt h
  al : AllAt h
  nx : NextAt h
  db : h.get 3 = some (.cells true globDB none)
  low : ∀ t < 11, own t = 0
  out : ∀ t ∈ X, t < h.size ∧ own t = 0
  head : ∃ u F, HeadAt h S w own u F
  mem : own S.mi = 2 ∧ own S.mj = 2 ∧ ∃ cnt, MemAt h S.mi S.mj w.ws cnt
  rsl : own S.ro = 3 ∧ View h 1 (S.rp.map fun r => .ptr r 0) [S.ro] S.rs ∧ S.rp.length = w.P ∧ w.rings.length = w.P
  ring : ∀ k r, w.rings[k]? = some r → ∃ i, S.rp[k]? = some i ∧ RingAt h i r ∧ own i = 10 + k
  turn : own S.to = 4 ∧ w.turns.length = w.P ∧ ∃ room, h.get S.to = some (.cells false (intsA w.turns) room)
  glob : ∃ F, BatchAt h S.gi F w.gl [.int .i64 (w.P : Int)] ∧ ∀ t ∈ S.gi :: F, own t = 5
  idle : ∃ FT wz, IdleAt h S.ii FT w.P w.M wz w.pend w.ms w.q ∧ _root_.Go.Proofs.YtblhcbmcbhoeiaaGreatDoor.Ev.mem wz = w.ip ∧ ∀ t ∈ FT, own t = 6
  all : own S.ao = 7 ∧ ∃ cs, AllC h S w own cs
  flag : own S.fo = 9 ∧ w.flag.length = w.M ∧ ∃ room, h.get S.fo = some (.cells false (boolsA w.flag) room)

section
variable {h h' : AHeap} {S : Lay} {w : W} {X G : List Nat} {own own' : Nat → Nat} {d : Nat}

theorem Fr.nin (f : Fr own own' h h' d G) {t c : Nat} (ht : own t = c) (hd : d ≠ c) : t ∉ G := fun hm => hd (by rw [← f.col t hm, ht])
theorem Fr.lo (f : Fr own own' h h' d G) (low : ∀ t < 11, own t = 0) (hd : d ≠ 0) : ∀ t ∈ G, 11 ≤ t := fun t ht => by
  rcases Nat.lt_or_ge t 11 with h1 | h1
  · exact absurd (low t h1) (by rw [f.col t ht]; exact hd)
  · exact h1

theorem HeadAt.keep {u : AV} {F : List Nat} (x : HeadAt h S w own u F) (f : Fr own own' h h' d G) (hd : d ≠ 1) : HeadAt h' S w own' u F := by
  obtain ⟨⟨room, e⟩, ⟨es, l, v⟩, ni, ca, cF⟩ := x
  exact ⟨⟨room, f.keep.obj e (f.nin ca hd)⟩, ⟨es, l, v.keep f.keep fun t ht => f.nin (cF t ht) hd⟩, ni, by rw [f.same _ (get_lt e), ca], fun t ht => by rw [f.same _ (v.lt t ht), cF t ht]⟩

theorem AllC.keep {cs : List AV} (x : AllC h S w own cs) (f : Fr own own' h h' d G) (ha : own S.ao = 7) (hd : d ≠ 7 ∧ d ≠ 8) : AllC h' S w own' cs := by
  obtain ⟨⟨room, e⟩, l, fo, wi⟩ := x
  refine ⟨⟨room, f.keep.obj e (f.nin ha hd.1)⟩, l, fun i m hi => ?_, within_keep wi f.keep⟩
  obtain ⟨rv, F, y, v, c⟩ := fo i m hi
  exact ⟨rv, F, y, v.keep f.keep fun t ht => f.nin (c t ht) hd.2, fun t ht => by rw [f.same _ (v.lt t ht), c t ht]⟩

theorem WAt.lt_ao (x : WAt h S w X own) : S.ao < h.size := by obtain ⟨_, cs, ⟨room, e⟩, _⟩ := x.all; exact get_lt e

theorem WAt.kPl (x : WAt h S w X own) (f : Fr own own' h h' d G) (hd : d ≠ 0) : PlacesAt h' ∧ AllAt h' ∧ NextAt h' ∧ h'.get 3 = some (.cells true globDB none) ∧ (∀ t < 11, own' t = 0) ∧ ∀ t ∈ X, t < h'.size ∧ own' t = 0 := by
  have lo := f.lo x.low hd
  have hl : ∀ t ∈ G, t ≠ 1 ∧ t ≠ 2 ∧ t ≠ 3 := fun t ht => by have := lo t ht; omega
  have sz : 11 ≤ h.size := by
    have := x.nx.r 6 [] rfl
    have := get_lt this
    omega
  refine ⟨f.keep.obj x.pl fun hm => (hl 1 hm).1 rfl, f.keep.obj x.al fun hm => (hl 2 hm).2.1 rfl, x.nx.keep f.keep lo, f.keep.obj x.db fun hm => (hl 3 hm).2.2 rfl, fun t ht => by rw [f.same t (by omega), x.low t ht], fun t ht => ?_⟩
  obtain ⟨h1, h2⟩ := x.out t ht
  exact ⟨Nat.lt_of_lt_of_le h1 f.keep.size, by rw [f.same t h1, h2]⟩

theorem WAt.kMem (x : WAt h S w X own) (f : Fr own own' h h' d G) (hd : d ≠ 2) : own' S.mi = 2 ∧ own' S.mj = 2 ∧ ∃ cnt, MemAt h' S.mi S.mj w.ws cnt := by
  obtain ⟨a, b, cnt, m⟩ := x.mem
  exact ⟨by rw [f.same _ m.lt.1, a], by rw [f.same _ m.lt.2, b], cnt, m.keep f.keep (f.nin a hd) (f.nin b hd)⟩
theorem WAt.kRsl (x : WAt h S w X own) (f : Fr own own' h h' d G) (hd : d ≠ 3) : own' S.ro = 3 ∧ View h' 1 (S.rp.map fun r => .ptr r 0) [S.ro] S.rs ∧ S.rp.length = w.P ∧ w.rings.length = w.P := by
  obtain ⟨a, v, l1, l2⟩ := x.rsl
  exact ⟨by rw [f.same _ (v.lt _ (by simp)), a], v.keep f.keep (fun t ht => by simp at ht; subst ht; exact f.nin a hd), l1, l2⟩
theorem WAt.kRing (x : WAt h S w X own) (f : Fr own own' h h' d G) (hd : d < 10) : ∀ k r, w.rings[k]? = some r → ∃ i, S.rp[k]? = some i ∧ RingAt h' i r ∧ own' i = 10 + k := fun k r hk => by
  obtain ⟨i, e, y, c⟩ := x.ring k r hk
  exact ⟨i, e, y.keep f.keep (f.nin c (by omega)), by rw [f.same _ y.lt, c]⟩
theorem WAt.kTurn (x : WAt h S w X own) (f : Fr own own' h h' d G) (hd : d ≠ 4) : own' S.to = 4 ∧ w.turns.length = w.P ∧ ∃ room, h'.get S.to = some (.cells false (intsA w.turns) room) := by
  obtain ⟨a, l, room, e⟩ := x.turn
  exact ⟨by rw [f.same _ (get_lt e), a], l, room, f.keep.obj e (f.nin a hd)⟩
theorem WAt.kGlob (x : WAt h S w X own) (f : Fr own own' h h' d G) (hd : d ≠ 5) : ∃ F, BatchAt h' S.gi F w.gl [.int .i64 (w.P : Int)] ∧ ∀ t ∈ S.gi :: F, own' t = 5 := by
  obtain ⟨F, b, c⟩ := x.glob
  exact ⟨F, b.keep f.keep fun t ht => f.nin (c t ht) hd, fun t ht => by rw [f.same _ (b.lt t ht), c t ht]⟩
theorem WAt.kIdle (x : WAt h S w X own) (f : Fr own own' h h' d G) (hd : d ≠ 6) : ∃ FT wz, IdleAt h' S.ii FT w.P w.M wz w.pend w.ms w.q ∧ _root_.Go.Proofs.YtblhcbmcbhoeiaaGreatDoor.Ev.mem wz = w.ip ∧ ∀ t ∈ FT, own' t = 6 := by
  obtain ⟨F, wz, b, hm, c⟩ := x.idle
  exact ⟨F, wz, b.keep f.keep fun t ht => f.nin (c t ht) hd, hm, fun t ht => by rw [f.same _ (b.lt t ht), c t ht]⟩
theorem WAt.kAll (x : WAt h S w X own) (f : Fr own own' h h' d G) (hd : d ≠ 7 ∧ d ≠ 8) : own' S.ao = 7 ∧ ∃ cs, AllC h' S w own' cs := by
  obtain ⟨a, cs, y⟩ := x.all
  exact ⟨by rw [f.same _ x.lt_ao, a], cs, y.keep f a hd⟩
theorem WAt.kFlag (x : WAt h S w X own) (f : Fr own own' h h' d G) (hd : d ≠ 9) : own' S.fo = 9 ∧ w.flag.length = w.M ∧ ∃ room, h'.get S.fo = some (.cells false (boolsA w.flag) room) := by
  obtain ⟨a, l, room, e⟩ := x.flag
  exact ⟨by rw [f.same _ (get_lt e), a], l, room, f.keep.obj e (f.nin a hd)⟩
theorem WAt.kHead (x : WAt h S w X own) (f : Fr own own' h h' d G) (hd : d ≠ 1) : ∃ u F, HeadAt h' S w own' u F := by
  obtain ⟨u, F, y⟩ := x.head
  exact ⟨u, F, y.keep f hd⟩

theorem ext_same (own : Nat → Nat) (n c : Nat) : ∀ t < n, ext own n c t = own t := fun t ht => if_pos ht
theorem ext_new (own : Nat → Nat) {n c t : Nat} (ht : n ≤ t) : ext own n c t = c := if_neg (by omega)
theorem ext_either {own : Nat → Nat} {n c : Nat} {F F' : List Nat} (hF : ∀ t ∈ F, own t = c ∧ t < n) (h : ∀ t ∈ F', t ∈ F ∨ n ≤ t) : ∀ t ∈ F', ext own n c t = c := fun t ht => by
  rcases h t ht with h1 | h1
  · rw [ext_same _ _ _ _ (hF t h1).2]; exact (hF t h1).1
  · exact ext_new own h1

/-- What is new gets a colour, and nothing else happens. -/
theorem WAt.alloc (x : WAt h S w X own) (k : Keep [] h h') (c : Nat) : WAt h' S w X (ext own h.size c) := by
  have f : Fr own (ext own h.size c) h h' 99 [] := ⟨k, by simp, ext_same _ _ _⟩
  have f2 : Fr own (ext own h.size c) h h' 9 [] := ⟨k, by simp, ext_same _ _ _⟩
  have g := x.kPl f (by omega)
  exact ⟨{ x.sz with }, g.1, g.2.1, g.2.2.1, g.2.2.2.1, g.2.2.2.2.1, g.2.2.2.2.2, x.kHead f (by omega), x.kMem f (by omega), x.kRsl f (by omega), x.kRing f2 (by omega), x.kTurn f (by omega), x.kGlob f (by omega), x.kIdle f (by omega), x.kAll f (by omega), x.kFlag f (by omega)⟩

theorem WAt.addX (x : WAt h S w X own) {F : List Nat} (hF : ∀ t ∈ F, t < h.size ∧ own t = 0) : WAt h S w (F ++ X) own :=
  { x with out := fun t ht => by rcases List.mem_append.1 ht with h1 | h1; exact hF t h1; exact x.out t h1 }
theorem WAt.subX (x : WAt h S w X own) {Y : List Nat} (hY : ∀ t ∈ Y, t ∈ X) : WAt h S w Y own :=
  { x with out := fun t ht => x.out t (hY t ht) }

theorem WAt.setMem (x : WAt h S w X own) (c : Nat) {ws' : List Int} {cnt' : Int} (m : MemAt h' S.mi S.mj ws' cnt') (hl : ws'.length = w.ws.length) (k : Keep [S.mi, S.mj] h h') : WAt h' S { w with ws := ws' } X (ext own h.size c) := by
  obtain ⟨a, b, cnt, m0⟩ := x.mem
  have f : Fr own (ext own h.size c) h h' 2 [S.mi, S.mj] := ⟨k, fun t ht => by simp at ht; rcases ht with rfl | rfl <;> assumption, ext_same _ _ _⟩
  have g := x.kPl f (by omega)
  obtain ⟨u, F, hd⟩ := x.kHead f (by omega)
  exact ⟨{ x.sz with ws := hl.trans x.sz.ws }, g.1, g.2.1, g.2.2.1, g.2.2.2.1, g.2.2.2.2.1, g.2.2.2.2.2, ⟨u, F, { hd with }⟩, ⟨by rw [f.same _ m0.lt.1, a], by rw [f.same _ m0.lt.2, b], cnt', m⟩, x.kRsl f (by omega), x.kRing f (by omega), x.kTurn f (by omega), x.kGlob f (by omega), x.kIdle f (by omega), let ⟨q, cs, y⟩ := x.kAll f (by omega); ⟨q, cs, { y with }⟩, x.kFlag f (by omega)⟩

theorem WAt.setGlob (x : WAt h S w X own) {gl' : List Int} {F F' : List Nat} (b : BatchAt h S.gi F w.gl [.int .i64 (w.P : Int)]) (hF : ∀ t ∈ S.gi :: F, own t = 5) (b' : BatchAt h' S.gi F' gl' [.int .i64 (w.P : Int)]) (k : Keep (S.gi :: F) h h') (f' : ∀ t ∈ F', t ∈ F ∨ h.size ≤ t) : WAt h' S { w with gl := gl' } X (ext own h.size 5) := by
  have f : Fr own (ext own h.size 5) h h' 5 (S.gi :: F) := ⟨k, hF, ext_same _ _ _⟩
  have g := x.kPl f (by omega)
  obtain ⟨u, FF, hd⟩ := x.kHead f (by omega)
  exact ⟨{ x.sz with }, g.1, g.2.1, g.2.2.1, g.2.2.2.1, g.2.2.2.2.1, g.2.2.2.2.2, ⟨u, FF, { hd with }⟩, x.kMem f (by omega), x.kRsl f (by omega), x.kRing f (by omega), x.kTurn f (by omega), ⟨F', b', ext_either (F := S.gi :: F) (fun t ht => ⟨hF t ht, b.lt t ht⟩) (fun t ht => by rcases List.mem_cons.1 ht with rfl | ht; exact Or.inl (by simp); exact (f' t ht).imp_left (by intro h1; simp [h1]))⟩, x.kIdle f (by omega), let ⟨q, cs, y⟩ := x.kAll f (by omega); ⟨q, cs, { y with }⟩, x.kFlag f (by omega)⟩
/-- The same, where nothing new is the queue's. -/
theorem WAt.setGlob0 (x : WAt h S w X own) {gl' : List Int} {F : List Nat} (b : BatchAt h S.gi F w.gl [.int .i64 (w.P : Int)]) (hF : ∀ t ∈ S.gi :: F, own t = 5) (b' : BatchAt h' S.gi F gl' [.int .i64 (w.P : Int)]) (k : Keep (S.gi :: F) h h') (c : Nat) : WAt h' S { w with gl := gl' } X (ext own h.size c) := by
  have f : Fr own (ext own h.size c) h h' 5 (S.gi :: F) := ⟨k, hF, ext_same _ _ _⟩
  have g := x.kPl f (by omega)
  obtain ⟨u, FF, hd⟩ := x.kHead f (by omega)
  exact ⟨{ x.sz with }, g.1, g.2.1, g.2.2.1, g.2.2.2.1, g.2.2.2.2.1, g.2.2.2.2.2, ⟨u, FF, { hd with }⟩, x.kMem f (by omega), x.kRsl f (by omega), x.kRing f (by omega), x.kTurn f (by omega), ⟨F, b', fun t ht => by rw [f.same _ (b.lt t ht)]; exact hF t ht⟩, x.kIdle f (by omega), let ⟨q, cs, y⟩ := x.kAll f (by omega); ⟨q, cs, { y with }⟩, x.kFlag f (by omega)⟩

theorem WAt.setIdle (x : WAt h S w X own) {ip' : List Nat} {wz wz' : List Nat} {pend' ms' : List Int} {q' : Int} {F F' : List Nat} (b : IdleAt h S.ii F w.P w.M wz w.pend w.ms w.q) (hF : ∀ t ∈ F, own t = 6) (b' : IdleAt h' S.ii F' w.P w.M wz' pend' ms' q') (hm : _root_.Go.Proofs.YtblhcbmcbhoeiaaGreatDoor.Ev.mem wz' = ip') (k : Keep F h h') (f' : ∀ t ∈ F', t ∈ F ∨ h.size ≤ t) : WAt h' S { w with ip := ip', pend := pend', ms := ms', q := q' } X (ext own h.size 6) := by
  have f : Fr own (ext own h.size 6) h h' 6 F := ⟨k, hF, ext_same _ _ _⟩
  have g := x.kPl f (by omega)
  obtain ⟨u, FF, hd⟩ := x.kHead f (by omega)
  exact ⟨{ x.sz with }, g.1, g.2.1, g.2.2.1, g.2.2.2.1, g.2.2.2.2.1, g.2.2.2.2.2, ⟨u, FF, { hd with }⟩, x.kMem f (by omega), x.kRsl f (by omega), x.kRing f (by omega), x.kTurn f (by omega), x.kGlob f (by omega), ⟨F', wz', b', hm, ext_either (fun t ht => ⟨hF t ht, b.lt t ht⟩) f'⟩, let ⟨q, cs, y⟩ := x.kAll f (by omega); ⟨q, cs, { y with }⟩, x.kFlag f (by omega)⟩

theorem WAt.setTurn (x : WAt h S w X own) {t' : List Int} {room : Option (Nat × Nat)} (hl : t'.length = w.turns.length) : WAt (h.put S.to (.cells false (intsA t') room)) S { w with turns := t' } X own := by
  obtain ⟨a, l, room0, e⟩ := x.turn
  have f : Fr own own h (h.put S.to (.cells false (intsA t') room)) 4 [S.to] := ⟨Keep.put (by simp), by simpa using a, fun _ _ => rfl⟩
  have g := x.kPl f (by omega)
  obtain ⟨u, FF, hd⟩ := x.kHead f (by omega)
  exact ⟨{ x.sz with }, g.1, g.2.1, g.2.2.1, g.2.2.2.1, g.2.2.2.2.1, g.2.2.2.2.2, ⟨u, FF, { hd with }⟩, x.kMem f (by omega), x.kRsl f (by omega), x.kRing f (by omega), ⟨a, by rw [← l]; exact hl, room, by rw [get_put_same, e]; rfl⟩, x.kGlob f (by omega), x.kIdle f (by omega), let ⟨q, cs, y⟩ := x.kAll f (by omega); ⟨q, cs, { y with }⟩, x.kFlag f (by omega)⟩

theorem WAt.setFlag (x : WAt h S w X own) {t' : List Bool} {room : Option (Nat × Nat)} (hl : t'.length = w.flag.length) : WAt (h.put S.fo (.cells false (boolsA t') room)) S { w with flag := t' } X own := by
  obtain ⟨a, l, room0, e⟩ := x.flag
  have f : Fr own own h (h.put S.fo (.cells false (boolsA t') room)) 9 [S.fo] := ⟨Keep.put (by simp), by simpa using a, fun _ _ => rfl⟩
  have g := x.kPl f (by omega)
  obtain ⟨u, FF, hd⟩ := x.kHead f (by omega)
  exact ⟨{ x.sz with }, g.1, g.2.1, g.2.2.1, g.2.2.2.1, g.2.2.2.2.1, g.2.2.2.2.2, ⟨u, FF, { hd with }⟩, x.kMem f (by omega), x.kRsl f (by omega), x.kRing f (by omega), x.kTurn f (by omega), x.kGlob f (by omega), x.kIdle f (by omega), let ⟨q, cs, y⟩ := x.kAll f (by omega); ⟨q, cs, { y with }⟩, ⟨a, by rw [← l]; exact hl, room, by rw [get_put_same, e]; rfl⟩⟩

theorem WAt.setRing (x : WAt h S w X own) {k i : Nat} {r r' : Rg} (hk : w.rings[k]? = some r) (hi : S.rp[k]? = some i) (y : RingAt h' i r') (kp : Keep [i] h h') (c : Nat) : WAt h' S { w with rings := w.rings.set k r' } X (ext own h.size c) := by
  obtain ⟨i', e, y0, ci⟩ := x.ring k r hk
  rw [hi] at e
  cases e
  have f : Fr own (ext own h.size c) h h' (10 + k) [i] := ⟨kp, by simpa using ci, ext_same _ _ _⟩
  have g := x.kPl f (by omega)
  obtain ⟨u, FF, hd⟩ := x.kHead f (by omega)
  obtain ⟨q1, q2, q3, q4⟩ := x.kRsl f (by omega)
  have kl := (List.getElem?_eq_some_iff.1 hk).1
  refine ⟨{ x.sz with }, g.1, g.2.1, g.2.2.1, g.2.2.2.1, g.2.2.2.2.1, g.2.2.2.2.2, ⟨u, FF, { hd with }⟩, x.kMem f (by omega), ⟨q1, q2, q3, by simpa using q4⟩, fun j rj hj => ?_, x.kTurn f (by omega), x.kGlob f (by omega), x.kIdle f (by omega), let ⟨q, cs, y⟩ := x.kAll f (by omega); ⟨q, cs, { y with }⟩, x.kFlag f (by omega)⟩
  by_cases hjk : j = k
  · subst hjk
    have hj : (w.rings.set j r')[j]? = some rj := hj
    rw [List.getElem?_set_self kl] at hj
    cases hj
    exact ⟨i, hi, y, by rw [f.same _ y0.lt, ci]⟩
  · have hj : (w.rings.set k r')[j]? = some rj := hj
    rw [List.getElem?_set_ne (Ne.symm hjk)] at hj
    obtain ⟨l, e, z, cl⟩ := x.ring j rj hj
    exact ⟨l, e, z.keep kp (f.nin cl (by omega)), by rw [f.same _ z.lt, cl]⟩

theorem WAt.setM (x : WAt h S w X own) {i : Nat} {m m' : Mc} {rv : AV} {cs cs' : List AV} {room room' : Option (Nat × Nat)} {F : List Nat} (hi : w.all[i]? = some m) (hc : h.get S.ao = some (.cells false cs room)) (u : Up cs cs' (S.ab + i * 18) m' rv) (v : View h 1 (intsA m'.rest) F rv) (hF : ∀ t ∈ F, own t = 8) : WAt (h.put S.ao (.cells false cs' room')) S { w with all := w.all.set i m' } X own := by
  obtain ⟨a, cs0, y⟩ := x.all
  have f : Fr own own h (h.put S.ao (.cells false cs' room')) 7 [S.ao] := ⟨Keep.put (by simp), by simpa using a, fun _ _ => rfl⟩
  have g := x.kPl f (by omega)
  obtain ⟨uu, FF, hd⟩ := x.kHead f (by omega)
  have il := (List.getElem?_eq_some_iff.1 hi).1
  refine ⟨{ x.sz with }, g.1, g.2.1, g.2.2.1, g.2.2.2.1, g.2.2.2.2.1, g.2.2.2.2.2, ⟨uu, FF, { hd with }⟩, x.kMem f (by omega), x.kRsl f (by omega), x.kRing f (by omega), x.kTurn f (by omega), x.kGlob f (by omega), x.kIdle f (by omega), ⟨a, cs', ⟨room', by rw [get_put_same, hc]; rfl⟩, by simpa using y.len, fun j mj hj => ?_, within_keep y.wi f.keep⟩, x.kFlag f (by omega)⟩
  obtain ⟨room0, e0⟩ := y.get
  rw [hc] at e0
  cases e0
  by_cases hij : j = i
  · subst hij
    have hj : (w.all.set j m')[j]? = some mj := hj
    rw [List.getElem?_set_self il] at hj
    cases hj
    exact ⟨rv, F, u.foc, v.keep f.keep (fun t ht => f.nin (hF t ht) (by omega)), hF⟩
  · have hj : (w.all.set i m')[j]? = some mj := hj
    rw [List.getElem?_set_ne (Ne.symm hij)] at hj
    obtain ⟨rj, Fj, fc, vj, cj⟩ := y.foc j mj hj
    refine ⟨rj, Fj, ⟨by rw [u.len]; exact fc.l, fun k hk => ?_⟩, vj.keep f.keep (fun t ht => f.nin (cj t ht) (by omega)), cj⟩
    rw [u.else_ _ (by omega)]
    exact fc.at_ k hk

theorem WAt.setLog (x : WAt h S w X own) {u u' : AV} {F F' : List Nat} {es : List E5} {room : Option (Nat × Nat)} (y : HeadAt h S w own u F) (hg : h'.get S.a = some (.cells false (headA S w u') room)) (v' : Vec h' 5 (evsA es) F' u') (ni : S.a ∉ F') (k : Keep (S.a :: F) h h') (f' : ∀ t ∈ F', t ∈ F ∨ h.size ≤ t) : WAt h' S { w with lg := es.length } X (ext own h.size 1) := by
  obtain ⟨⟨room0, e0⟩, ⟨es0, l0, v0⟩, ni0, ca, cF⟩ := y
  have f : Fr own (ext own h.size 1) h h' 1 (S.a :: F) := ⟨k, fun t ht => by rcases List.mem_cons.1 ht with rfl | ht; exact ca; exact cF t ht, ext_same _ _ _⟩
  have g := x.kPl f (by omega)
  exact ⟨{ x.sz with }, g.1, g.2.1, g.2.2.1, g.2.2.2.1, g.2.2.2.2.1, g.2.2.2.2.2, ⟨u', F', ⟨⟨room, hg⟩, ⟨es, rfl, v'⟩, ni, by rw [f.same _ (get_lt e0), ca], ext_either (fun t ht => ⟨cF t ht, v0.lt t ht⟩) f'⟩⟩, x.kMem f (by omega), x.kRsl f (by omega), x.kRing f (by omega), x.kTurn f (by omega), x.kGlob f (by omega), x.kIdle f (by omega), let ⟨q, cs, y⟩ := x.kAll f (by omega); ⟨q, cs, { y with }⟩, x.kFlag f (by omega)⟩
end

end Go.Proofs.YtblhcbmcbhoeiaaGreatDoor.Ev
end

section
/- The world's functions that change a machine's cells alone. -/
namespace Go.Proofs.YtblhcbmcbhoeiaaGreatDoor.Ev
set_option linter.unusedSimpArgs false
set_option linter.unusedVariables false
open Go
set_option maxRecDepth 100000

/-- What lies outside is kept. -/
structure KX (X : List Nat) (h h' : AHeap) : Prop where
  size : h.size ≤ h'.size
  caps : ∀ k lb, h.lb k = some lb → h'.lb k = some lb
  get : ∀ t ∈ X, h'.get t = h.get t

def WorldAt (h : AHeap) (S : Lay) (w : W) (X : List Nat) : Prop := ∃ own, WAt h S w X own

def W.setm (w : W) (i : Nat) (m : Mc) : W := { w with all := w.all.set i m }
def W.setf (w : W) (i : Nat) (b : Bool) : W := { w with flag := w.flag.set i b }

section
variable {S : Lay} {w : W} {u : AV}
@[simp] theorem headA_len : (headA S w u).length = 16 := rfl
@[simp] theorem headA_tbl : ((headA S w u).drop 6).take 2 = [.int .i64 (w.tb : Int), .int .i64 (w.G : Int)] := rfl
@[simp] theorem headA_cfg : (headA S w u).take 3 = [.int .i64 (w.P : Int), .int .i64 (w.M : Int), .int .i64 (w.G : Int)] := rfl
@[simp] theorem headA_0 : (headA S w u)[0]? = some (.int .i64 (w.P : Int)) := rfl
@[simp] theorem headA_1 : (headA S w u)[1]? = some (.int .i64 (w.M : Int)) := rfl
@[simp] theorem headA_2 : (headA S w u)[2]? = some (.int .i64 (w.G : Int)) := rfl
@[simp] theorem headA_3 : (headA S w u)[3]? = some (.ptr S.mi 0) := rfl
@[simp] theorem headA_4 : (headA S w u)[4]? = some (.int .i64 (w.sp : Int)) := rfl
@[simp] theorem headA_5 : (headA S w u)[5]? = some (.int .i64 (w.nt : Int)) := rfl
@[simp] theorem headA_8 : (headA S w u)[8]? = some S.rs := rfl
@[simp] theorem headA_9 : (headA S w u)[9]? = some (.slice S.to 0 w.P (.exact w.P)) := rfl
@[simp] theorem headA_10 : (headA S w u)[10]? = some (.ptr S.gi 0) := rfl
@[simp] theorem headA_11 : (headA S w u)[11]? = some (.ptr S.si 0) := rfl
@[simp] theorem headA_12 : (headA S w u)[12]? = some (.ptr S.ii 0) := rfl
@[simp] theorem headA_13 : (headA S w u)[13]? = some (.slice S.ao S.ab w.M S.ac) := rfl
@[simp] theorem headA_14 : (headA S w u)[14]? = some (.slice S.fo 0 w.M (.exact w.M)) := rfl
@[simp] theorem headA_15 : (headA S w u)[15]? = some u := rfl
end

section
variable {h h' h'' : AHeap} {S : Lay} {w : W} {X G : List Nat} {own : Nat → Nat} {i : Nat} {m : Mc}

theorem KX.refl : KX X h h := ⟨Nat.le_refl _, fun _ _ e => e, fun _ _ => rfl⟩
theorem KX.trans (a : KX X h h') (b : KX X h' h'') : KX X h h'' := ⟨Nat.le_trans a.size b.size, fun k lb e => b.caps k lb (a.caps k lb e), fun t ht => by rw [b.get t ht, a.get t ht]⟩
theorem KX.sub {Y : List Nat} (a : KX X h h') (hY : ∀ t ∈ Y, t ∈ X) : KX Y h h' := ⟨a.size, a.caps, fun t ht => a.get t (hY t ht)⟩
theorem KX.keep (a : KX X h h') : Keep ((List.range h.size).filter fun t => decide (t ∉ X)) h h' := ⟨a.size, a.caps, fun t ht hn => a.get t (by
  by_cases hx : t ∈ X
  · exact hx
  · exact absurd (by simp [ht, hx]) hn)⟩
theorem KX.nin {F : List Nat} (hF : ∀ t ∈ F, t ∈ X) : ∀ t ∈ F, t ∉ (List.range h.size).filter fun t => decide (t ∉ X) := fun t ht hm => by
  simp at hm
  exact hm.2 (hF t ht)
theorem KX.view {size : Nat} {cs : List AV} {F : List Nat} {s : AV} (a : KX X h h') (v : View h size cs F s) (hF : ∀ t ∈ F, t ∈ X) : View h' size cs F s := v.keep a.keep (KX.nin hF)
theorem KX.vec {size : Nat} {cs : List AV} {F : List Nat} {s : AV} (a : KX X h h') (v : Vec h size cs F s) (hF : ∀ t ∈ F, t ∈ X) : Vec h' size cs F s := v.keep a.keep (KX.nin hF)
theorem KX.obj {t : Nat} {o : AObj} (a : KX X h h') (e : h.get t = some o) (ht : t ∈ X) : h'.get t = some o := by rw [a.get t ht, e]
theorem WAt.kx {c : Nat} (x : WAt h S w X own) (k : Keep G h h') (hG : ∀ t ∈ G, own t = c) (hc : c ≠ 0) : KX X h h' := ⟨k.size, k.caps, fun t ht => k.get t (x.out t ht).1 fun hm => hc (by rw [← hG t hm, (x.out t ht).2])⟩
theorem WAt.kx0 (x : WAt h S w X own) (k : Keep [] h h') : KX X h h' := ⟨k.size, k.caps, fun t ht => k.get t (x.out t ht).1 (by simp)⟩

theorem WAt.hd (x : WAt h S w X own) : ∃ u room, h.get S.a = some (.cells false (headA S w u) room) := by
  obtain ⟨u, F, y⟩ := x.head
  obtain ⟨room, e⟩ := y.at_
  exact ⟨u, room, e⟩
theorem WAt.lens (x : WAt h S w X own) : w.all.length = w.M ∧ w.flag.length = w.M ∧ w.turns.length = w.P ∧ w.rings.length = w.P := by
  obtain ⟨_, cs, y⟩ := x.all
  exact ⟨y.len, x.flag.2.1, x.turn.2.1, x.rsl.2.2.2⟩
theorem WAt.ca (x : WAt h S w X own) : own S.a = 1 := by obtain ⟨u, F, y⟩ := x.head; exact y.ca
theorem WAt.lta (x : WAt h S w X own) : S.a < h.size := by obtain ⟨u, room, e⟩ := x.hd; exact get_lt e

theorem WAt.mach (x : WAt h S w X own) (hi : w.all[i]? = some m) : ∃ b cs room rv F, b = S.ab + i * 18 ∧ h.get S.ao = some (.cells false cs room) ∧ idxAddrV 18 none (.slice S.ao S.ab w.M S.ac) (.int .i64 (i : Int)) = some (.ptr S.ao b) ∧ Up cs cs b m rv ∧ View h 1 (intsA m.rest) F rv ∧ ∀ t ∈ F, own t = 8 := by
  obtain ⟨_, cs, ⟨⟨room, e⟩, l, fo, wi⟩⟩ := x.all
  obtain ⟨rv, F, y, v, c⟩ := fo i m hi
  have il := (List.getElem?_eq_some_iff.1 hi).1
  refine ⟨_, cs, room, rv, F, rfl, e, ?_, y.up, v, c⟩
  simp only [idxAddrV]
  rw [if_pos (by omega)]
  simp

theorem Foc.facts {cs : List AV} {b : Nat} {m : Mc} {rv : AV} (f : Foc cs b m rv) : cs[b]? = some (.int .i64 m.pl) ∧ cs[b + 1]? = some (.int .i64 m.p) ∧ cs[b + 2]? = some (.int .i64 m.g) ∧ cs[b + 3]? = some (.int .i64 m.nx) ∧ cs[b + 4]? = some (.int .i64 m.got) ∧ cs[b + 5]? = some (.int .i64 m.tg) ∧ cs[b + 6]? = some (.int .i64 m.ii) ∧ cs[b + 7]? = some (.bool m.sp) ∧ cs[b + 8]? = some (.bool m.inn) ∧ cs[b + 9]? = some rv ∧ cs[b + 10]? = some (.int .i64 m.bk) ∧ cs[b + 11]? = some (.int .i64 m.af) :=
  ⟨f.at_ 0 (by omega), f.at_ 1 (by omega), f.at_ 2 (by omega), f.at_ 3 (by omega), f.at_ 4 (by omega), f.at_ 5 (by omega), f.at_ 6 (by omega), f.at_ 7 (by omega), f.at_ 8 (by omega), f.at_ 9 (by omega), f.at_ 10 (by omega), f.at_ 11 (by omega)⟩
theorem Foc.lt {cs : List AV} {b : Nat} {m : Mc} {rv : AV} (f : Foc cs b m rv) : b < cs.length ∧ ∀ k, k < 18 → b + k < cs.length := by
  have := f.l
  exact ⟨by omega, fun k hk => by omega⟩

theorem wrI {h : AHeap} {i o : Nat} {cs : List AV} {room : Option (Nat × Nat)} {k : IntKind} {z : Int} (ho : o < cs.length) : writeOf h i (some (.cells false cs room)) o [.int k z] = some (h.put i (.cells false (cs.set o (.int k z)) room)) := wr1 ho rfl
theorem wrB {h : AHeap} {i o : Nat} {cs : List AV} {room : Option (Nat × Nat)} {z : Bool} (ho : o < cs.length) : writeOf h i (some (.cells false cs room)) o [.bool z] = some (h.put i (.cells false (cs.set o (.bool z)) room)) := wr1 ho rfl

/-- A machine's cells are changed. -/
theorem WAt.doneM (x : WAt h S w X own) {m' : Mc} {rv : AV} {cs cs' : List AV} {room : Option (Nat × Nat)} {F : List Nat} {b : Nat} (hi : w.all[i]? = some m) (hc : h.get S.ao = some (.cells false cs room)) (hb : b = S.ab + i * 18) (u : Up cs cs' b m' rv) (v : View h 1 (intsA m'.rest) F rv) (hF : ∀ t ∈ F, own t = 8) : WorldAt (h.put S.ao (.cells false cs' room)) S (w.setm i m') X ∧ KX X h (h.put S.ao (.cells false cs' room)) := by
  subst hb
  exact ⟨⟨own, x.setM hi hc u v hF⟩, x.kx (c := 7) (G := [S.ao]) (Keep.put (by simp)) (by simpa using x.all.1) (by omega)⟩

def takeM (m : Mc) : Mc := { m with bk := 20, pl := if 0 < m.rest.length then 17 else if m.sp = true then 19 else 20 }
def settleM (m : Mc) : Mc := { m with pl := if 0 < m.rest.length then 18 else if m.sp = true then 19 else 21 }
def stealM (m : Mc) (k : Int) (P : Nat) : Mc := { m with ii := k, pl := if (P : Int) ≤ k then 7 else 6 }
def deliverM (m : Mc) (k : Int) : Mc := { m with af := k, pl := 25 }

theorem wtake_ok (x : WorldAt h S w X) (hi : w.all[i]? = some m) : ∃ h', run T 184 [.ptr S.a 0, .int .i64 (i : Int)] h = some (.tuple [], h') ∧ WorldAt h' S (w.setm i (takeM m)) X ∧ KX X h h' := by
  obtain ⟨own, x⟩ := x
  obtain ⟨b, cs, room, rv, F, hb, hc, hx, up, v, hF⟩ := x.mach hi
  obtain ⟨u, room0, hd⟩ := x.hd
  obtain ⟨f0, f1, f2, f3, f4, f5, f6, f7, f8, f9, f10, f11⟩ := up.foc.facts
  obtain ⟨l0, ll⟩ := up.foc.lt
  have hrl := v.len1
  simp at hrl
  have na : S.a ≠ S.ao := fun e => by have := x.ca; rw [e, x.all.1] at this; omega
  have u1 := up.int 10 20
  refine run_val T_184 ?_
  by_cases hr : 0 < m.rest.length
  · simp [-writeOf_some, -getElem?_pos, F184, hd, hx, hc, wrI, wrB, ll, l0, f9, f7, hrl, hr, List.getElem?_set, takeM]
    exact x.doneM (m' := { m with bk := 20, pl := 17 }) hi hc hb (u1.place 17) v hF
  · have hr0 : m.rest = [] := List.eq_nil_of_length_eq_zero (by omega)
    rw [hr0] at hrl
    simp at hrl
    cases hs : m.sp <;> rw [hs] at f7
    · rw [show takeM m = { m with bk := 20, pl := 20 } by simp [takeM, hr0, hs]]
      simp [-writeOf_some, -getElem?_pos, F184, hd, hx, hc, wrI, wrB, ll, l0, f9, f7, hrl, List.getElem?_set]
      exact x.doneM (m' := { m with bk := 20, pl := 20 }) hi hc hb (u1.place 20) v hF
    · rw [show takeM m = { m with bk := 20, pl := 19 } by simp [takeM, hr0, hs]]
      simp [-writeOf_some, -getElem?_pos, F184, hd, hx, hc, wrI, wrB, ll, l0, f9, f7, hrl, List.getElem?_set]
      exact x.doneM (m' := { m with bk := 20, pl := 19 }) hi hc hb (u1.place 19) v hF
end
end Go.Proofs.YtblhcbmcbhoeiaaGreatDoor.Ev
end
