/- What the functions of a mask come to: its words as a row of bits. -/
import Derived.Test.YtkceclemfhbclaaDoorEvTab
import Derived.Test.YtkceclemfhbclaaDoorMaskPure
import Derived.Test.YtkceclemfhbclaaDoorEvGlobs
namespace Go.Proofs.YtkceclemfhbclaaDoor.Ev
set_option linter.unusedSimpArgs false
set_option linter.unusedVariables false
open Go
set_option maxRecDepth 100000

/-! ## Operations on numbers below 2^64 -/

theorem shr_nat (w r : Nat) (hr : r < 64) (k : IntKind) : binV .shr (.int .u64 (w : Int)) (.int k (r : Int)) = some (.int .u64 ((w >>> r : Nat) : Int)) := by
  have h64 : min r 64 = r := by omega
  simp only [binV, IntKind.bits]
  rw [Nat.shiftRight_eq_div_pow, if_pos (by omega), Int.toNat_natCast, h64, Int.fdiv_eq_ediv_of_nonneg _ (by exact_mod_cast Nat.zero_le (2 ^ r))]
  simp
theorem shl_one (r : Nat) (hr : r < 64) (k : IntKind) : binV .shl (.int .u64 1) (.int k (r : Int)) = some (.int .u64 ((2 ^ r : Nat) : Int)) := by
  have h64 : min r 64 = r := by omega
  have hp : 2 ^ r < 2 ^ 64 := Nat.pow_lt_pow_right (by omega) hr
  simp only [binV, IntKind.bits]
  rw [if_pos (by omega), Int.toNat_natCast, h64, wrap_u64]
  have : ((1 : Int) * 2 ^ r) = ((2 ^ r : Nat) : Int) := by simp
  rw [this, Int.emod_eq_of_lt (Int.natCast_nonneg _) (by omega)]
theorem and_nat (a b : Nat) (hb : b < 2 ^ 64) : binV .and (.int .u64 (a : Int)) (.int .u64 (b : Int)) = some (.int .u64 ((a &&& b : Nat) : Int)) := by
  have hab : a &&& b < 2 ^ 64 := Nat.lt_of_le_of_lt Nat.and_le_right hb
  have e : (BitVec.ofInt 64 (a : Int) &&& BitVec.ofInt 64 (b : Int)).toNat = a &&& b := by
    rw [BitVec.toNat_and, BitVec.ofInt_natCast, BitVec.ofInt_natCast, BitVec.toNat_ofNat, BitVec.toNat_ofNat, ← Nat.and_mod_two_pow, Nat.mod_eq_of_lt hab]
  have e2 : (BitVec.ofInt (IntKind.bits .u64) (a : Int) &&& BitVec.ofInt (IntKind.bits .u64) (b : Int)).toNat = a &&& b := e
  simp only [binV, if_true]
  rw [e2, wrap_u64, Int.emod_eq_of_lt (by omega) (by omega)]
theorem xor_nat (a b : Nat) (ha : a < 2 ^ 64) (hb : b < 2 ^ 64) : binV .xor (.int .u64 (a : Int)) (.int .u64 (b : Int)) = some (.int .u64 ((a ^^^ b : Nat) : Int)) := by
  have hab : a ^^^ b < 2 ^ 64 := Nat.xor_lt_two_pow ha hb
  have e : (BitVec.ofInt 64 (a : Int) ^^^ BitVec.ofInt 64 (b : Int)).toNat = a ^^^ b := by
    rw [BitVec.toNat_xor, BitVec.ofInt_natCast, BitVec.ofInt_natCast, BitVec.toNat_ofNat, BitVec.toNat_ofNat, ← Nat.xor_mod_two_pow, Nat.mod_eq_of_lt hab]
  have e2 : (BitVec.ofInt (IntKind.bits .u64) (a : Int) ^^^ BitVec.ofInt (IntKind.bits .u64) (b : Int)).toNat = a ^^^ b := e
  simp only [binV, if_true]
  rw [e2, wrap_u64, Int.emod_eq_of_lt (by omega) (by omega)]
theorem add_nat (a b : Nat) : binV .add (.int .u64 (a : Int)) (.int .u64 (b : Int)) = some (.int .u64 (((a + b) % 18446744073709551616 : Nat) : Int)) := by
  simp only [binV, if_true, wrap_u64]
  congr 2

theorem and_i64 (c m : Nat) (hm : m < 2 ^ 63) : binV .and (.int .i64 (IntKind.wrap .i64 (c : Int))) (.int .i64 (m : Int)) = some (.int .i64 ((c &&& m : Nat) : Int)) := by
  have hab : c &&& m < 2 ^ 63 := Nat.lt_of_le_of_lt Nat.and_le_right hm
  have e1 : (BitVec.ofInt 64 (IntKind.wrap .i64 (c : Int))) = BitVec.ofInt 64 (c : Int) := by
    apply BitVec.eq_of_toNat_eq
    rw [BitVec.toNat_ofInt, BitVec.toNat_ofInt, wrap_i64', show ((2 ^ 64 : Nat) : Int) = 18446744073709551616 from rfl]
    have : ((c : Int) + 9223372036854775808) % 18446744073709551616 - 9223372036854775808 = (c : Int) - 18446744073709551616 * (((c : Int) + 9223372036854775808) / 18446744073709551616) := by omega
    rw [this, Int.sub_mul_emod_self_left]
  have e : (BitVec.ofInt 64 (IntKind.wrap .i64 (c : Int)) &&& BitVec.ofInt 64 (m : Int)).toNat = c &&& m := by
    rw [e1, BitVec.toNat_and, BitVec.ofInt_natCast, BitVec.ofInt_natCast, BitVec.toNat_ofNat, BitVec.toNat_ofNat, ← Nat.and_mod_two_pow, Nat.mod_eq_of_lt (by omega)]
  have e2 : (BitVec.ofInt (IntKind.bits .i64) (IntKind.wrap .i64 (c : Int)) &&& BitVec.ofInt (IntKind.bits .i64) (m : Int)).toNat = c &&& m := e
  simp only [binV, if_true]
  rw [e2, wrap_i64 (by omega) (by omega)]
theorem or_63 (i : Nat) : i ||| 63 = i / 64 * 64 + 63 := by
  have l : ∀ r < 64, r ||| 63 = 63 := by decide
  have h63 : i % 64 ||| 63 = 63 := l _ (by omega)
  apply Nat.eq_of_testBit_eq
  intro j
  have e1 := Nat.testBit_two_pow_mul_add (i := 6) (i / 64) (b := i % 64) (by omega) j
  have e2 := Nat.testBit_two_pow_mul_add (i := 6) 0 (b := 63) (by omega) j
  have e3 := Nat.testBit_two_pow_mul_add (i := 6) (i / 64) (b := 63) (by omega) j
  rw [show 2 ^ 6 * (i / 64) + i % 64 = i by omega] at e1
  rw [show 2 ^ 6 * 0 + 63 = 63 by omega] at e2
  rw [show 2 ^ 6 * (i / 64) + 63 = i / 64 * 64 + 63 by omega] at e3
  rw [Nat.testBit_or, e1, e2, e3]
  split
  · rw [← Nat.testBit_or, h63]
  · simp
theorem or_i64 (i : Nat) (hi : i < 2 ^ 62) : binV .or (.int .i64 (i : Int)) (.int .i64 63) = some (.int .i64 ((i / 64 * 64 + 63 : Nat) : Int)) := by
  have e : (BitVec.ofInt 64 (i : Int) ||| BitVec.ofInt 64 ((63 : Nat) : Int)).toNat = i / 64 * 64 + 63 := by
    rw [BitVec.toNat_or, BitVec.ofInt_natCast, BitVec.ofInt_natCast, BitVec.toNat_ofNat, BitVec.toNat_ofNat, ← Nat.or_mod_two_pow, or_63, Nat.mod_eq_of_lt (by omega)]
  have e2 : (BitVec.ofInt (IntKind.bits .i64) (i : Int) ||| BitVec.ofInt (IntKind.bits .i64) 63).toNat = i / 64 * 64 + 63 := e
  simp only [binV, if_true]
  rw [e2, wrap_i64 (by omega) (by omega)]

theorem ones_run (h : AHeap) (x : Nat) (hx : x < 2 ^ 64) : run T 35 [.int .u64 (x : Int)] h = some (.int .i64 ((popN 64 x : Nat) : Int), h) := by
  have hb := (bytes_ok 8 x).1
  rw [show rep8 15 8 = 1085102592571150095 by decide +kernel, show rep8 51 8 = 3689348814741910323 by decide +kernel, show rep8 85 8 = 6148914691236517205 by decide +kernel] at hb
  have c1 : binV .shr (.int .u64 (x : Int)) (.int .u64 1) = some (.int .u64 ((x >>> 1 : Nat) : Int)) := shr_nat x 1 (by omega) _
  obtain ⟨y1, k1⟩ : ∃ y, y = x >>> 1 := ⟨_, rfl⟩
  rw [← k1] at c1
  have c2 : binV .and (.int .u64 (y1 : Int)) (.int .u64 6148914691236517205) = some (.int .u64 ((y1 &&& 6148914691236517205 : Nat) : Int)) := and_nat y1 6148914691236517205 (by omega)
  have b2 : y1 &&& 6148914691236517205 ≤ 6148914691236517205 := Nat.and_le_right
  have c3 : binV .and (.int .u64 (x : Int)) (.int .u64 6148914691236517205) = some (.int .u64 ((x &&& 6148914691236517205 : Nat) : Int)) := and_nat x 6148914691236517205 (by omega)
  have b3 : x &&& 6148914691236517205 ≤ 6148914691236517205 := Nat.and_le_right
  have s1 : S1 6148914691236517205 x = (y1 &&& 6148914691236517205) + (x &&& 6148914691236517205) := by rw [k1]; rfl
  rw [s1] at hb
  generalize y1 &&& 6148914691236517205 = y2 at *
  generalize x &&& 6148914691236517205 = y3 at *
  have c4 := add_nat y2 y3
  rw [Nat.mod_eq_of_lt (by omega)] at c4
  obtain ⟨y4, k4⟩ : ∃ y, y = y2 + y3 := ⟨_, rfl⟩
  rw [← k4] at c4 hb
  have c5 : binV .shr (.int .u64 (y4 : Int)) (.int .u64 2) = some (.int .u64 ((y4 >>> 2 : Nat) : Int)) := shr_nat y4 2 (by omega) _
  obtain ⟨y5, k5⟩ : ∃ y, y = y4 >>> 2 := ⟨_, rfl⟩
  rw [← k5] at c5
  have c6 : binV .and (.int .u64 (y5 : Int)) (.int .u64 3689348814741910323) = some (.int .u64 ((y5 &&& 3689348814741910323 : Nat) : Int)) := and_nat y5 3689348814741910323 (by omega)
  have b6 : y5 &&& 3689348814741910323 ≤ 3689348814741910323 := Nat.and_le_right
  have c7 : binV .and (.int .u64 (y4 : Int)) (.int .u64 3689348814741910323) = some (.int .u64 ((y4 &&& 3689348814741910323 : Nat) : Int)) := and_nat y4 3689348814741910323 (by omega)
  have b7 : y4 &&& 3689348814741910323 ≤ 3689348814741910323 := Nat.and_le_right
  have s2 : S2 3689348814741910323 y4 = (y5 &&& 3689348814741910323) + (y4 &&& 3689348814741910323) := by rw [k5]; rfl
  rw [s2] at hb
  generalize y5 &&& 3689348814741910323 = y6 at *
  generalize y4 &&& 3689348814741910323 = y7 at *
  have c8 := add_nat y6 y7
  rw [Nat.mod_eq_of_lt (by omega)] at c8
  obtain ⟨y8, k8⟩ : ∃ y, y = y6 + y7 := ⟨_, rfl⟩
  rw [← k8] at c8 hb
  have c9 : binV .shr (.int .u64 (y8 : Int)) (.int .u64 4) = some (.int .u64 ((y8 >>> 4 : Nat) : Int)) := shr_nat y8 4 (by omega) _
  have b9 : y8 >>> 4 ≤ y8 / 16 := by rw [Nat.shiftRight_eq_div_pow]; exact Nat.le_refl _
  have s3 : S3 1085102592571150095 y8 = (y8 >>> 4 + y8) &&& 1085102592571150095 := rfl
  rw [s3] at hb
  generalize y8 >>> 4 = y9 at *
  have c10 := add_nat y9 y8
  rw [Nat.mod_eq_of_lt (by omega)] at c10
  obtain ⟨y10, k10⟩ : ∃ y, y = y9 + y8 := ⟨_, rfl⟩
  rw [← k10] at c10 hb
  have c11 : binV .and (.int .u64 (y10 : Int)) (.int .u64 1085102592571150095) = some (.int .u64 ((y10 &&& 1085102592571150095 : Nat) : Int)) := and_nat y10 1085102592571150095 (by omega)
  rw [hb] at c11
  have ho := ones_ok x
  simp only [onesN] at ho
  generalize bytesN 8 x = y11 at *
  have c12 : binV .shr (.int .u64 (y11 : Int)) (.int .u64 8) = some (.int .u64 ((y11 >>> 8 : Nat) : Int)) := shr_nat y11 8 (by omega) _
  have c13 := add_nat y11 (y11 >>> 8)
  generalize (y11 + y11 >>> 8) % 18446744073709551616 = y13 at *
  generalize y11 >>> 8 = y12 at *
  have c14 : binV .shr (.int .u64 (y13 : Int)) (.int .u64 16) = some (.int .u64 ((y13 >>> 16 : Nat) : Int)) := shr_nat y13 16 (by omega) _
  have c15 := add_nat y13 (y13 >>> 16)
  generalize (y13 + y13 >>> 16) % 18446744073709551616 = y15 at *
  generalize y13 >>> 16 = y14 at *
  have c16 : binV .shr (.int .u64 (y15 : Int)) (.int .u64 32) = some (.int .u64 ((y15 >>> 32 : Nat) : Int)) := shr_nat y15 32 (by omega) _
  have c17 := add_nat y15 (y15 >>> 32)
  generalize (y15 + y15 >>> 32) % 18446744073709551616 = y17 at *
  generalize y15 >>> 32 = y16 at *
  have c18 : binV .and (.int .i64 (IntKind.wrap .i64 (y17 : Int))) (.int .i64 127) = some (.int .i64 ((y17 &&& 127 : Nat) : Int)) := and_i64 y17 127 (by omega)
  rw [ho] at c18
  generalize popN 64 x = r at *
  refine run_eq T_35 ?_
  simp [F35, c1, c2, c3, c4, c5, c6, c7, c8, c9, c10, c11, c12, c13, c14, c15, c16, c17, c18, -binV_add]

theorem tz_tab : ∀ t < 64, (2 ^ t * 285870213051353865 % 18446744073709551616) >>> 58 < 64 ∧ glob0[(2 ^ t * 285870213051353865 % 18446744073709551616) >>> 58]? = some (.int .u8 (t : Int)) := by decide +kernel
theorem neg_nat (x : Nat) (h0 : x ≠ 0) (hx : x < 2 ^ 64) : unV .neg (.int .u64 (x : Int)) = some (.int .u64 ((2 ^ 64 - x : Nat) : Int)) := by
  have : (0 - (x : Int)) % 18446744073709551616 = ((2 ^ 64 - x : Nat) : Int) := by omega
  rw [unV_neg, wrap_u64, this]
theorem mul_nat (x y : Nat) : binV .mul (.int .u64 (x : Int)) (.int .u64 (y : Int)) = some (.int .u64 ((x * y % 18446744073709551616 : Nat) : Int)) := by
  have : ((x : Int) * y) % 18446744073709551616 = ((x * y % 18446744073709551616 : Nat) : Int) := by simp
  rw [binV_mul, wrap_u64, this]
theorem idx_arr {i n : Nat} {k : IntKind} {y : Nat} (h : y < n) : idxAddrV 1 (some n) (.ptr i 0) (.int k (y : Int)) = some (.ptr i y) := by
  simp only [idxAddrV]
  rw [if_pos (by omega)]
  simp
theorem idx_sl {i n : Nat} {c : Cap} {k : IntKind} {y : Nat} (h : y < n) : idxAddrV 1 none (.slice i 0 n c) (.int k (y : Int)) = some (.ptr i y) := by
  simp only [idxAddrV]
  rw [if_pos (by omega)]
  simp
theorem tz_run {h : AHeap} (hg : h.get 0 = some (.cells true glob0 none)) {x t : Nat} (hx : x < 2 ^ 64) (hl : IsLow x t) : run T 36 [.int .u64 (x : Int)] h = some (.int .i64 (t : Int), h) := by
  have h0 : x ≠ 0 := fun e => by have := hl.2.1; simp [e] at this
  have hne : ¬ (x : Int) = 0 := by omega
  have ht := hl.1
  have c1 := neg_nat x (by omega) hx
  have c2 := and_nat x (2 ^ 64 - x) (by omega)
  rw [low_and hl hx] at c2
  generalize 2 ^ 64 - x = y1 at *
  obtain ⟨q1, q2⟩ := tz_tab t ht
  have c3 : binV .mul (.int .u64 ((2 ^ t : Nat) : Int)) (.int .u64 285870213051353865) = some (.int .u64 ((2 ^ t * 285870213051353865 % 18446744073709551616 : Nat) : Int)) := mul_nat (2 ^ t) 285870213051353865
  generalize 2 ^ t * 285870213051353865 % 18446744073709551616 = y3 at *
  generalize 2 ^ t = y2 at *
  have c4 : binV .shr (.int .u64 (y3 : Int)) (.int .u64 58) = some (.int .u64 ((y3 >>> 58 : Nat) : Int)) := shr_nat y3 58 (by omega) _
  generalize y3 >>> 58 = y4 at *
  have ci : idxAddrV 1 (some 64) (.ptr 0 0) (.int .u64 (y4 : Int)) = some (.ptr 0 y4) := idx_arr q1
  have hc : cellOf (h.get 0) y4 = some (.int .u8 (t : Int)) := by
    rw [hg, cellOf_some, q2]
  have hw : IntKind.wrap .i64 (t : Int) = t := wrap_i64 (by omega) (by omega)
  refine run_eq T_36 ?_
  simp [F36, h0, hne, c1, c2, c3, c4, ci, hc, hw, -binV_mul, -unV_neg]

/-! ## Rows of bits -/

/-- Is a number in? -/
def bit (ws : List Nat) (i : Nat) : Bool := (ws.getD (i / 64) 0).testBit (i % 64)
def flip (ws : List Nat) (i : Nat) : List Nat := ws.set (i / 64) ((ws.getD (i / 64) 0) ^^^ 2 ^ (i % 64))
@[simp] theorem flip_len {ws : List Nat} {i : Nat} : (flip ws i).length = ws.length := by simp [flip]
theorem bit_flip {ws : List Nat} {i : Nat} (hi : i / 64 < ws.length) (j : Nat) : bit (flip ws i) j = if j = i then !bit ws i else bit ws j := by
  have hmod : i % 64 < 64 := by omega
  by_cases hq : j / 64 = i / 64
  · have hg : (flip ws i).getD (j / 64) 0 = (ws.getD (i / 64) 0) ^^^ 2 ^ (i % 64) := by
      simp [flip, hq, hi]
    rw [bit, hg, Nat.testBit_xor, Nat.testBit_two_pow]
    by_cases hj : j = i
    · subst hj
      simp [bit]
    · have : ¬ i % 64 = j % 64 := by omega
      simp [hj, this, bit, hq]
  · have hj : ¬ j = i := by omega
    rw [if_neg hj]
    simp only [bit, flip]
    congr 1
    simp [List.getElem?_set_ne (show i / 64 ≠ j / 64 from fun e => hq e.symm)]

def natsA (ws : List Nat) : List AV := ws.map fun w : Nat => .int .u64 (w : Int)
@[simp] theorem natsA_len {ws : List Nat} : (natsA ws).length = ws.length := by simp [natsA]
@[simp] theorem natsA_one {ws : List Nat} : (natsA ws).all AV.one = true := by simp [natsA]
theorem natsA_get {ws : List Nat} {k : Nat} (hk : k < ws.length) : (natsA ws)[k]? = some (.int .u64 ((ws.getD k 0 : Nat) : Int)) := by simp [natsA, hk]
theorem natsA_set {ws : List Nat} {k x : Nat} (hk : k < ws.length) : splice (natsA ws) k [.int .u64 (x : Int)] = natsA (ws.set k x) := by
  rw [splice_one (by simpa using hk)]
  simp [natsA, List.map_set]

/-- A mask: the numbers below n, in words. -/
structure Bits (n : Nat) (ws : List Nat) : Prop where
  len : ws.length = (n + 63) / 64
  le : n ≤ 4096
  w : ∀ w ∈ ws, w < 2 ^ 64
  out : ∀ k, n ≤ k → bit ws k = false
theorem Bits.get {n : Nat} {ws : List Nat} (b : Bits n ws) (k : Nat) : ws.getD k 0 < 2 ^ 64 := by
  by_cases hk : k < ws.length
  · have : ws.getD k 0 = ws[k] := by simp [hk]
    rw [this]
    exact b.w _ (List.getElem_mem hk)
  · have : ws.getD k 0 = 0 := by simp [Nat.le_of_not_lt hk]
    rw [this]
    omega
theorem Bits.flip {n i : Nat} {ws : List Nat} (b : Bits n ws) (hi : i < n) : Bits n (flip ws i) := by
  have hl := b.len
  refine ⟨by simpa using hl, b.le, fun w hw => ?_, fun k hk => ?_⟩
  · rcases List.mem_or_eq_of_mem_set hw with h | rfl
    · exact b.w w h
    · exact Nat.xor_lt_two_pow (b.get _) (Nat.pow_lt_pow_right (by omega) (by omega))
  · rw [bit_flip (by omega), if_neg (by omega)]
    exact b.out k hk
theorem Bits.zero {n : Nat} (hn : n ≤ 4096) : Bits n (List.replicate ((n + 63) / 64) 0) := by
  refine ⟨by simp, hn, fun w hw => by simp [List.mem_replicate] at hw; omega, fun k _ => ?_⟩
  simp only [bit]
  by_cases hk : k / 64 < (n + 63) / 64
  · simp [List.getElem?_replicate, hk]
  · simp [List.getElem?_replicate, hk]

/-- A mask's place: its head at object i, its words at object j. -/
def MaskAt (h : AHeap) (i j n : Nat) (ws : List Nat) : Prop :=
  i ≠ j ∧ Bits n ws ∧ ∃ c ri rj, h.get i = some (.cells false [.int .i64 (n : Int), .slice j 0 ws.length c] ri) ∧ h.get j = some (.cells false (natsA ws) rj) ∧ h.within ws.length c = true
theorem MaskAt.keep {h h' : AHeap} {i j n : Nat} {ws : List Nat} {G : List Nat} (m : MaskAt h i j n ws) (k : Keep G h h') (hi : i ∉ G) (hj : j ∉ G) : MaskAt h' i j n ws := by
  obtain ⟨ne, b, c, ri, rj, h1, h2, h3⟩ := m
  exact ⟨ne, b, c, ri, rj, k.obj h1 hi, k.obj h2 hj, within_keep h3 k⟩
theorem MaskAt.lt {h : AHeap} {i j n : Nat} {ws : List Nat} (m : MaskAt h i j n ws) : i < h.size ∧ j < h.size := by
  obtain ⟨ne, b, c, ri, rj, h1, h2, h3⟩ := m
  exact ⟨get_lt h1, get_lt h2⟩

section
variable {h : AHeap} {i j n : Nat} {ws : List Nat}

theorem mask_new (h : AHeap) (a : Int) : ∃ h' i j n, run T 9 [.int .i64 a] h = some (.ptr i 0, h') ∧ MaskAt h' i j n (List.replicate ((n + 63) / 64) 0) ∧ (n : Int) = min (max 0 a) 4096 ∧ Keep [] h h' ∧ h.size ≤ i ∧ h.size ≤ j := by
  obtain ⟨m, hm⟩ : ∃ m : Nat, min (max 0 a) 4096 = (m : Int) := ⟨(min (max 0 a) 4096).toNat, by omega⟩
  have hw1 : IntKind.wrap .i64 ((m : Int) + 64) = (m : Int) + 64 := wrap_i64 (by omega) (by omega)
  have hw2 : IntKind.wrap .i64 ((m : Int) + 64 - 1) = (m : Int) + 63 := by rw [wrap_i64 (by omega) (by omega)]; omega
  obtain ⟨k, hk⟩ : ∃ k : Nat, k = (m + 63) / 64 := ⟨_, rfl⟩
  have hd : ((m : Int) + 63).tdiv 64 = k := by rw [Int.tdiv_eq_ediv_of_nonneg (by omega)]; omega
  have hkb : (k : Int) ≤ 4096 := by omega
  have hw3 : IntKind.wrap .i64 (k : Int) = k := wrap_i64 (by omega) (by omega)
  have hb : (k : Int) * 8 ≤ bigA ∧ k ≤ bigA := by simp only [bigA]; omega
  have hz : rep k [AV.int .u64 0] = natsA (List.replicate k 0) := by rw [rep_one]; simp [natsA]
  refine ⟨(h.push (.cells false (natsA (List.replicate k 0)) none)).push (.cells false [.int .i64 (m : Int), .slice h.size 0 k (.exact k)] none), h.size + 1, h.size, m, run_eq T_9 ?_, ?_, hm.symm, Keep.push.trans' Keep.push, by omega, by omega⟩
  · simp [F9, hm, hw1, hw2, hd, hw3, hb, hz]
  · refine ⟨by omega, Bits.zero (by omega), .exact k, none, none, ?_, ?_, ?_⟩
    · rw [← hk]
      simpa using get_push_new (h := h.push (.cells false (natsA (List.replicate k 0)) none)) (x := .cells false [.int .i64 (m : Int), .slice h.size 0 k (.exact k)] none)
    · rw [← hk]
      exact get_push_old get_push_new
    · simp [AHeap.within, hk]

theorem mask_len (m : MaskAt h i j n ws) : run T 16 [.ptr i 0] h = some (.int .i64 (n : Int), h) := by
  obtain ⟨ne, b, c, ri, rj, h1, h2, h3⟩ := m
  refine run_eq T_16 ?_
  simp [F16, h1]

theorem testBit_one (w r : Nat) : w.testBit r = decide (w >>> r &&& 1 = 1) := by
  rw [Nat.testBit, Nat.and_comm]
  rcases Nat.mod_two_eq_zero_or_one (w >>> r) with e | e <;> simp [Nat.and_one_is_mod, e]
theorem mask_has (m : MaskAt h i j n ws) (k : Nat) (hk : k < n) : run T 14 [.ptr i 0, .int .i64 (k : Int)] h = some (.bool (bit ws k), h) := by
  obtain ⟨ne, b, c, ri, rj, h1, h2, h3⟩ := m
  have hl := b.len
  have hq : k / 64 < ws.length := by omega
  have hd : (k : Int).tdiv 64 = ((k / 64 : Nat) : Int) := by rw [Int.tdiv_eq_ediv_of_nonneg (by omega)]; omega
  have hm : (k : Int).tmod 64 = ((k % 64 : Nat) : Int) := by rw [Int.tmod_eq_emod_of_nonneg (by omega)]; omega
  have hle := b.le
  have hw : IntKind.wrap .i64 ((k / 64 : Nat) : Int) = ((k / 64 : Nat) : Int) := wrap_i64 (by omega) (by omega)
  have hx := natsA_get hq
  have hs := shr_nat (ws.getD (k / 64) 0) (k % 64) (by omega) .i64
  have hbit : bit ws k = decide ((ws.getD (k / 64) 0) >>> (k % 64) &&& 1 = 1) := testBit_one _ _
  have hle := b.le
  generalize ws.getD (k / 64) 0 = w at *
  generalize k / 64 = q at *
  generalize k % 64 = r at *
  have ha : binV .and (.int .u64 ((w >>> r : Nat) : Int)) (.int .u64 1) = some (.int .u64 ((w >>> r &&& 1 : Nat) : Int)) := and_nat (w >>> r) 1 (by omega)
  generalize w >>> r &&& 1 = y at *
  generalize w >>> r = z at *
  have hi : idxAddrV 1 none (.slice j 0 ws.length c) (.int .i64 (q : Int)) = some (.ptr j q) := by
    simp only [idxAddrV]
    rw [if_pos (by omega)]
    simp
  have hkn : (k : Int) < n := by omega
  have hy : decide ((y : Int) = 1) = decide (y = 1) := by
    by_cases h : y = 1
    · simp [h]
    · have : ¬ (y : Int) = 1 := by omega
      simp [h, this]
  rw [hbit]
  refine run_eq T_14 ?_
  simp [F14, h1, h2, hkn, hd, hw, hi, hx, hm, hs, ha, hy]
theorem mask_hasnt (m : MaskAt h i j n ws) (k : Int) (hk : k < 0 ∨ (n : Int) ≤ k) : run T 14 [.ptr i 0, .int .i64 k] h = some (.bool false, h) := by
  obtain ⟨ne, b, c, ri, rj, h1, h2, h3⟩ := m
  refine run_eq T_14 ?_
  by_cases h0 : 0 ≤ k
  · have : ¬ k < n := by omega
    simp [F14, h1, h0, this]
  · simp [F14, h1, h0]

theorem turn_yes (m : MaskAt h i j n ws) {k : Nat} (hk : k < n) {was : Bool} (hb : bit ws k = was) : ∃ h', run T 34 [.ptr i 0, .int .i64 (k : Int), .bool was] h = some (.bool true, h') ∧ MaskAt h' i j n (flip ws k) ∧ Keep [j] h h' := by
  have eh := mask_has m k hk
  obtain ⟨ne, b, c, ri, rj, h1, h2, h3⟩ := m
  have hl := b.len
  have hle := b.le
  have hq : k / 64 < ws.length := by omega
  have hd : (k : Int).tdiv 64 = ((k / 64 : Nat) : Int) := by rw [Int.tdiv_eq_ediv_of_nonneg (by omega)]; omega
  have hm : (k : Int).tmod 64 = ((k % 64 : Nat) : Int) := by rw [Int.tmod_eq_emod_of_nonneg (by omega)]; omega
  have hw : IntKind.wrap .i64 ((k / 64 : Nat) : Int) = ((k / 64 : Nat) : Int) := wrap_i64 (by omega) (by omega)
  have hx := natsA_get hq
  have hs := shl_one (k % 64) (by omega) .i64
  have hxr := xor_nat (ws.getD (k / 64) 0) (2 ^ (k % 64)) (b.get _) (Nat.pow_lt_pow_right (by omega) (by omega))
  have hset := natsA_set (ws := ws) (k := k / 64) (x := (ws.getD (k / 64) 0) ^^^ 2 ^ (k % 64)) hq
  have hfl : ws.set (k / 64) ((ws.getD (k / 64) 0) ^^^ 2 ^ (k % 64)) = flip ws k := rfl
  rw [hfl] at hset
  have bf := b.flip hk
  have hfll : (flip ws k).length = ws.length := by simp
  generalize flip ws k = ws' at *
  generalize ws.getD (k / 64) 0 ^^^ 2 ^ (k % 64) = z at *
  generalize 2 ^ (k % 64) = y at *
  generalize ws.getD (k / 64) 0 = w at *
  generalize k / 64 = q at *
  generalize k % 64 = r at *
  have hi : idxAddrV 1 none (.slice j 0 ws.length c) (.int .i64 (q : Int)) = some (.ptr j q) := by
    simp only [idxAddrV]
    rw [if_pos (by omega)]
    simp
  have hkn : (k : Int) < n := by omega
  have hqs : q + 1 ≤ ws.length := by omega
  have h0k : ¬ (k : Int) < 0 := by omega
  refine ⟨h.put j (.cells false (natsA ws') rj), run_eq T_34 ?_, ⟨ne, bf, c, ri, rj, ?_, by rw [get_put_same, h2]; rfl, ?_⟩, Keep.put (by simp)⟩
  · simp [F34, h1, h2, hkn, h0k, Int.not_le.2 hkn, eh, hb, hd, hw, hi, hx, hm, hs, hxr, hset, hqs]
  · rw [get_put_ne ne, h1, hfll]
  · rw [hfll]
    exact within_keep h3 (Keep.put (F := [j]) (by simp))
theorem turn_no (m : MaskAt h i j n ws) {k : Int} {was : Bool} (hb : k < 0 ∨ (n : Int) ≤ k ∨ bit ws k.toNat ≠ was) : run T 34 [.ptr i 0, .int .i64 k, .bool was] h = some (.bool false, h) := by
  refine run_eq T_34 ?_
  by_cases h0 : k < 0
  · simp [F34, h0]
  · obtain ⟨k, rfl⟩ : ∃ c : Nat, k = c := ⟨k.toNat, by omega⟩
    by_cases hkn : k < n
    · have eh := mask_has m k hkn
      have hne : bit ws k ≠ was := by
        rcases hb with h | h | h
        · omega
        · omega
        · simpa using h
      obtain ⟨ne, b, c, ri, rj, h1, h2, h3⟩ := m
      have hki : (k : Int) < n := by omega
      have hbe : (bit ws k == was) = false := by simp [hne]
      simp [F34, h0, h1, hki, Int.not_le.2 hki, eh, hbe]
    · obtain ⟨ne, b, c, ri, rj, h1, h2, h3⟩ := m
      have hki : (n : Int) ≤ k := by omega
      simp [F34, h0, h1, hki]

theorem put_yes (m : MaskAt h i j n ws) {k : Nat} (hk : k < n) (hb : bit ws k = false) : ∃ h', run T 10 [.ptr i 0, .int .i64 (k : Int)] h = some (.bool true, h') ∧ MaskAt h' i j n (flip ws k) ∧ Keep [j] h h' := by
  obtain ⟨h', e, m', k'⟩ := turn_yes m hk hb
  exact ⟨h', run_eq T_10 (by simp [F10, e]), m', k'⟩
theorem put_no (m : MaskAt h i j n ws) {k : Int} (hb : k < 0 ∨ (n : Int) ≤ k ∨ bit ws k.toNat = true) : run T 10 [.ptr i 0, .int .i64 k] h = some (.bool false, h) := by
  have e := turn_no m (k := k) (was := false) (by rcases hb with h | h | h <;> simp [h])
  exact run_eq T_10 (by simp [F10, e])
theorem take_yes (m : MaskAt h i j n ws) {k : Nat} (hk : k < n) (hb : bit ws k = true) : ∃ h', run T 13 [.ptr i 0, .int .i64 (k : Int)] h = some (.bool true, h') ∧ MaskAt h' i j n (flip ws k) ∧ Keep [j] h h' := by
  obtain ⟨h', e, m', k'⟩ := turn_yes m hk hb
  exact ⟨h', run_eq T_13 (by simp [F13, e]), m', k'⟩
theorem take_no (m : MaskAt h i j n ws) {k : Int} (hb : k < 0 ∨ (n : Int) ≤ k ∨ bit ws k.toNat = false) : run T 13 [.ptr i 0, .int .i64 k] h = some (.bool false, h) := by
  have e := turn_no m (k := k) (was := true) (by rcases hb with h | h | h <;> simp [h])
  exact run_eq T_13 (by simp [F13, e])

/-! ## How many -/

def popW (ws : List Nat) : Nat := (ws.map (popN 64)).sum
theorem popN_le : ∀ n x, popN n x ≤ n
  | 0, _ => by simp [popN]
  | n + 1, x => by
    have := popN_le n (x / 2)
    simp only [popN]
    omega
theorem popW_le : ∀ ws : List Nat, popW ws ≤ 64 * ws.length
  | [] => by simp [popW]
  | w :: ws => by
    have := popW_le ws
    have := popN_le 64 w
    simp only [popW] at *
    simp
    omega
def CountI (h : AHeap) (s : AV) (ws : List Nat) (m : Nat) (fr : FF) (g : AHeap) : Prop := ∃ c : Nat, c + m = ws.length ∧ g = h ∧ fr.get 3 = .int .i64 ((popW (ws.take c) : Nat) : Int) ∧ fr.get 9 = s ∧ fr.get 10 = .int .i64 ws.length ∧ fr.get 11 = .int .i64 c
theorem mask_count (m : MaskAt h i j n ws) : run T 11 [.ptr i 0] h = some (.int .i64 ((popW ws : Nat) : Int), h) := by
  obtain ⟨ne, b, c, ri, rj, h1, h2, h3⟩ := m
  have hl := b.len
  have hle := b.le
  refine run_eq T_11 ?_
  simp [F11, h1]
  refine Wp.loop (CountI h (.slice j 0 ws.length c) ws) ws.length (lt_rounds (by omega)) ?_ ?_
  · exact ⟨0, by simp, rfl, by simp [popW], by simp⟩
  rintro m fr g ⟨d, hd, rfl, s3, s9, s10, s11⟩
  by_cases hdl : d < ws.length
  · have hx := natsA_get hdl
    have hi : idxAddrV 1 none (.slice j 0 ws.length c) (.int .i64 (d : Int)) = some (.ptr j d) := by
      simp only [idxAddrV]
      rw [if_pos (by omega)]
      simp
    have eo := ones_run g (ws.getD d 0) (b.get d)
    have hsum : popW (ws.take (d + 1)) = popW (ws.take d) + popN 64 (ws.getD d 0) := by
      have e1 : ws[d]?.toList = [ws.getD d 0] := by simp [hdl]
      rw [List.take_add_one, e1]
      simp only [popW, List.map_append, List.map_cons, List.map_nil, List.sum_append, List.sum_cons, List.sum_nil, Nat.add_zero]
    have hp := popW_le (ws.take (d + 1))
    have hp2 : (ws.take (d + 1)).length ≤ ws.length := by simp; omega
    have hw : IntKind.wrap .i64 ((d : Int) + 1) = (d : Int) + 1 := wrap_nat (by omega)
    have hws : IntKind.wrap .i64 (((popW (ws.take d) : Nat) : Int) + ((popN 64 (ws.getD d 0) : Nat) : Int)) = ((popW (ws.take (d + 1)) : Nat) : Int) := by
      rw [hsum, wrap_i64 (by omega) (by omega)]
      omega
    generalize popN 64 (ws.getD d 0) = o at *
    generalize ws.getD d 0 = w at *
    simp [s3, s9, s10, s11, hdl, hi, hx, h2, eo, -Int.natCast_add, -getElem?_pos]
    exact ⟨m - 1, by omega, d + 1, by omega, rfl, by simp [hws], by simp [s9, s10, hw]⟩
  · have hdx : d = ws.length := by omega
    rw [hdx, List.take_length] at s3
    simp [s3, s9, s10, s11, hdl]

/-! ## The next one -/

/-- The least number that is in, above another one; -1: there is none. -/
def IsNext (ws : List Nat) (v r : Int) : Prop := (r = -1 ∧ ∀ k : Nat, v < k → bit ws k = false) ∨ ∃ k : Nat, r = k ∧ v < k ∧ bit ws k = true ∧ ∀ t : Nat, v < t → t < k → bit ws t = false

def NextI (h : AHeap) (i n : Nat) (ws : List Nat) (v0 : Int) (m : Nat) (fr : FF) (g : AHeap) : Prop := ∃ v : Int, -1 ≤ v ∧ v ≤ 5000000000 ∧ (v + m = n + 64 ∨ (n : Int) + 64 ≤ v) ∧ g = h ∧ (∀ k : Nat, v0 < k → (k : Int) ≤ v → bit ws k = false) ∧ v0 ≤ v ∧ fr.get 0 = .ptr i 0 ∧ fr.get 1 = .int .i64 v

theorem mask_next (m : MaskAt h i j n ws) (hg : h.get 0 = some (.cells true glob0 none)) (v0 : Int) (hv : v0 ≤ 4294967296) : ∃ r, run T 15 [.ptr i 0, .int .i64 v0] h = some (.int .i64 r, h) ∧ IsNext ws v0 r := by
  obtain ⟨ne, b, c, ri, rj, h1, h2, h3⟩ := m
  have hl := b.len
  have hle := b.le
  suffices hw : ∃ v' h', run T 15 [.ptr i 0, .int .i64 v0] h = some (v', h') ∧ ∃ r, v' = .int .i64 r ∧ h' = h ∧ IsNext ws v0 r by
    obtain ⟨v', h', e, r, rfl, rfl, hr⟩ := hw
    exact ⟨r, e, hr⟩
  refine run_wp T_15 ?_
  simp [F15]
  refine Wp.loop (NextI h i n ws v0) (n + 64 - max v0 (-1)).toNat (lt_rounds (by omega)) ?_ ?_
  · exact ⟨max v0 (-1), by omega, by omega, by omega, rfl, fun k h1 h2 => by omega, by omega, by simp⟩
  rintro m fr g ⟨v, v1, v2, vm, rfl, vz, v0v, s0, s1⟩
  have hwn : IntKind.wrap .i64 ((n : Int) - 1) = (n : Int) - 1 := wrap_i64 (by omega) (by omega)
  by_cases hvn : v < (n : Int) - 1
  · obtain ⟨p, hp⟩ : ∃ p : Nat, v + 1 = p := ⟨(v + 1).toNat, by omega⟩
    have hw1 : IntKind.wrap .i64 (v + 1) = (p : Int) := by rw [wrap_i64 (by omega) (by omega), hp]
    have hpn : p < n := by omega
    have hq : p / 64 < ws.length := by omega
    have hd : (p : Int).tdiv 64 = ((p / 64 : Nat) : Int) := by rw [Int.tdiv_eq_ediv_of_nonneg (by omega)]; omega
    have hm : (p : Int).tmod 64 = ((p % 64 : Nat) : Int) := by rw [Int.tmod_eq_emod_of_nonneg (by omega)]; omega
    have hw : IntKind.wrap .i64 ((p / 64 : Nat) : Int) = ((p / 64 : Nat) : Int) := wrap_i64 (by omega) (by omega)
    have hx := natsA_get hq
    have hwl := b.get (p / 64)
    have hs := shr_nat (ws.getD (p / 64) 0) (p % 64) (by omega) .i64
    have hrl : (ws.getD (p / 64) 0) >>> (p % 64) < 2 ^ 64 := by
      rw [Nat.shiftRight_eq_div_pow]
      exact Nat.lt_of_le_of_lt (Nat.div_le_self _ _) hwl
    have hbit : ∀ t, p % 64 + t < 64 → bit ws (p + t) = ((ws.getD (p / 64) 0) >>> (p % 64)).testBit t := fun t ht => by
      rw [Nat.testBit_shiftRight, bit, show (p + t) / 64 = p / 64 by omega, show (p + t) % 64 = p % 64 + t by omega]
    have hi : idxAddrV 1 none (.slice j 0 ws.length c) (.int .i64 ((p / 64 : Nat) : Int)) = some (.ptr j (p / 64)) := idx_sl hq
    have hor := or_i64 p (by omega)
    have hhigh : ∀ t, 64 ≤ p % 64 + t → ((ws.getD (p / 64) 0) >>> (p % 64)).testBit t = false := fun t ht => by
      rw [Nat.testBit_shiftRight]
      exact Nat.testBit_lt_two_pow (Nat.lt_of_lt_of_le hwl (Nat.pow_le_pow_right (by omega) ht))
    generalize hz : ws.getD (p / 64) 0 >>> (p % 64) = z at *
    generalize ws.getD (p / 64) 0 = w at *
    by_cases h0 : z = 0
    · subst h0
      simp [s0, s1, h1, h2, hwn, hvn, hw1, hd, hw, hi, hx, hm, hs, hor, -Int.natCast_add, -Int.natCast_mul, -Int.natCast_ediv, -Int.natCast_emod]
      refine ⟨(n + 64 - ((p / 64 * 64 + 63 : Nat) : Int)).toNat, by omega, ((p / 64 * 64 + 63 : Nat) : Int), by omega, by omega, by omega, rfl, fun k k1 k2 => ?_, by omega, by simp [s0]⟩
      by_cases hkv : (k : Int) ≤ v
      · exact vz k k1 hkv
      · have := hbit (k - p) (by omega)
        rw [show p + (k - p) = k by omega] at this
        rw [this]
        simp
    · obtain ⟨t, ht⟩ := low_ex h0 hrl
      have et := tz_run hg hrl ht
      have ht1 := ht.2.1
      have htl : p % 64 + t < 64 := by
        rcases Nat.lt_or_ge (p % 64 + t) 64 with h | h
        · exact h
        · rw [hhigh t h] at ht1
          cases ht1
      have hz0 : ¬ (z : Int) = 0 := by omega
      have hwt : IntKind.wrap .i64 ((p : Int) + t) = (p : Int) + t := wrap_i64 (by omega) (by omega)
      simp [s0, s1, h1, h2, hwn, hvn, hw1, hd, hw, hi, hx, hm, hs, h0, hz0, et, hwt, -Int.natCast_add, -Int.natCast_mul, -Int.natCast_ediv, -Int.natCast_emod]
      refine Or.inr ⟨p + t, by omega, by omega, by rw [hbit t htl, ht1], fun u u1 u2 => ?_⟩
      by_cases huv : (u : Int) ≤ v
      · exact vz u u1 huv
      · have := hbit (u - p) (by omega)
        rw [show p + (u - p) = u by omega] at this
        rw [this]
        exact ht.2.2 _ (by omega)
  · simp [s0, s1, h1, hwn, hvn]
    refine Or.inl ⟨rfl, fun k hk => ?_⟩
    by_cases hkv : (k : Int) ≤ v
    · exact vz k hk hkv
    · exact b.out k (by omega)

theorem mask_first (m : MaskAt h i j n ws) (hg : h.get 0 = some (.cells true glob0 none)) : ∃ r, run T 12 [.ptr i 0] h = some (.int .i64 r, h) ∧ IsNext ws (-1) r := by
  obtain ⟨r, e, hr⟩ := mask_next m hg (-1) (by omega)
  exact ⟨r, run_eq T_12 (by simp [F12, e]), hr⟩

theorem clone64_ok {cs : List AV} {F : List Nat} {s : AV} (v : View h 1 cs F s) (ho : cs.all AV.one = true) (hb : cs.length ≤ 1000000) : ∃ s' h' F', run T 37 [s] h = some (s', h') ∧ Vec h' 1 cs F' s' ∧ Keep [] h h' ∧ ∀ t ∈ F', h.size ≤ t := by
  have hnil : s = .nilslice ∨ ∃ j o n c, s = .slice j o n c := by cases v <;> simp
  rcases hnil with rfl | ⟨j, o, n, c, rfl⟩
  · cases v with
    | nil e =>
      refine ⟨.nilslice, h, [], run_eq T_37 ?_, .nil e, Keep.refl, by simp⟩
      simp [F37]
  · have vn : Vec (h.push (.cells false [] none)) 1 [] [h.size] (.slice h.size 0 0 (.exact 0)) := Vec.new (m := 0) get_push_new (by simp)
    obtain ⟨s', h', F', e, v', k', f'⟩ := vn.append1 (bytes := 8) (v.keep (Keep.push (F := [])) (by simp)) ho (by simp [bigA]; omega) (by simp [bigA]; omega)
    refine ⟨s', h', F', run_eq T_37 ?_, by simpa using v', (Keep.push (F := [])).trans k' (by simp), fun t ht => ?_⟩
    · simp [F37, e]
    · have := f' t ht
      simp at this
      omega

theorem MaskAt.view (m : MaskAt h i j n ws) : ∃ c ri, h.get i = some (.cells false [.int .i64 (n : Int), .slice j 0 ws.length c] ri) ∧ View h 1 (natsA ws) [j] (.slice j 0 ws.length c) := by
  obtain ⟨ne, b, c, ri, rj, h1, h2, h3⟩ := m
  exact ⟨c, ri, h1, .mk h2 (by simp) (by rw [List.drop_zero, List.take_of_length_le (by simp)]) h3⟩

theorem mask_words (m : MaskAt h i j n ws) : ∃ s' h' F', run T 17 [.ptr i 0] h = some (s', h') ∧ Vec h' 1 (natsA ws) F' s' ∧ Keep [] h h' ∧ ∀ t ∈ F', h.size ≤ t := by
  have b := m.2.1
  have hl := b.len
  have hle := b.le
  obtain ⟨c, ri, h1, v⟩ := m.view
  obtain ⟨s', h', F', e, v', k', f'⟩ := clone64_ok v natsA_one (by simp; omega)
  exact ⟨s', h', F', run_eq T_17 (by simp [F17, h1, e]), v', k', f'⟩

end

/-! ## The numbers that are in, in a row -/

theorem popN_count : ∀ n x, popN n x = (List.range n).countP x.testBit
  | 0, x => by simp [popN]
  | n + 1, x => by
    have e : ∀ k, (x.testBit ∘ Nat.succ) k = (x / 2).testBit k := fun k => by simp [Nat.testBit_succ]
    rw [List.range_succ_eq_map, List.countP_cons, List.countP_map, popN, popN_count n (x / 2), Nat.testBit_zero]
    rw [show x.testBit ∘ Nat.succ = (x / 2).testBit from funext e]
    rcases Nat.mod_two_eq_zero_or_one x with h | h <;> simp [h]
    omega
theorem range_add (a b : Nat) : List.range (a + b) = List.range a ++ (List.range b).map (a + ·) := by
  apply List.ext_getElem?
  intro k
  by_cases hk : k < a
  · rw [List.getElem?_append_left (by simpa using hk), List.getElem?_range (by omega), List.getElem?_range hk]
  · rw [List.getElem?_append_right (by simp; omega)]
    by_cases hk2 : k < a + b
    · rw [List.getElem?_range hk2, List.length_range, List.getElem?_map, List.getElem?_range (by omega)]
      simp
      omega
    · rw [List.getElem?_eq_none (by simp; omega), List.getElem?_eq_none (by simp; omega)]
theorem popW_count : ∀ ws : List Nat, popW ws = (List.range (64 * ws.length)).countP (bit ws)
  | [] => by simp [popW]
  | w :: ws => by
    have e1 : ∀ k ∈ List.range 64, w.testBit k = bit (w :: ws) k := fun k hk => by
      have hk := List.mem_range.1 hk
      simp [bit, Nat.div_eq_of_lt hk, Nat.mod_eq_of_lt hk]
    have e2 : (bit (w :: ws)) ∘ (64 + ·) = bit ws := funext fun k => by
      simp only [Function.comp, bit]
      rw [show (64 + k) / 64 = k / 64 + 1 by omega, show (64 + k) % 64 = k % 64 by omega]
      simp
    have := popW_count ws
    have hpw : popW (w :: ws) = popN 64 w + popW ws := by simp [popW]
    rw [hpw, this, popN_count, List.length_cons, show 64 * (ws.length + 1) = 64 + 64 * ws.length by omega, range_add, List.countP_append, List.countP_map, e2]
    rw [show (List.range 64).countP w.testBit = (List.range 64).countP (bit (w :: ws)) from List.countP_congr fun k hk => by rw [e1 k hk]]

def mem (ws : List Nat) : List Nat := (List.range (64 * ws.length)).filter (bit ws)
theorem popW_mem (ws : List Nat) : popW ws = (mem ws).length := by rw [popW_count, mem, List.countP_eq_length_filter]
theorem bit_lt {ws : List Nat} {k : Nat} (h : bit ws k = true) : k < 64 * ws.length := by
  by_cases hk : k / 64 < ws.length
  · omega
  · simp [bit, Nat.le_of_not_lt hk] at h
theorem mem_iff {ws : List Nat} {k : Nat} : k ∈ mem ws ↔ bit ws k = true := by
  simp only [mem, List.mem_filter, List.mem_range]
  exact ⟨fun h => h.2, fun h => ⟨bit_lt h, h⟩⟩
theorem mem_sorted (ws : List Nat) : (mem ws).Pairwise (· < ·) := List.Pairwise.filter _ List.pairwise_lt_range
theorem mem_flip_take {ws : List Nat} {k : Nat} (h : bit ws k = true) : mem (flip ws k) = (mem ws).filter fun x => decide (x ≠ k) := by
  have hk := bit_lt h
  simp only [mem, flip_len, List.filter_filter]
  apply List.filter_congr
  intro x _
  rw [bit_flip (by omega)]
  by_cases hx : x = k
  · subst hx
    simp [h]
  · simp [hx]
theorem mem_flip_head {ws : List Nat} {k : Nat} {L : List Nat} (h : mem ws = k :: L) : mem (flip ws k) = L := by
  have hk : bit ws k = true := mem_iff.1 (by rw [h]; simp)
  have hs := mem_sorted ws
  rw [h, List.pairwise_cons] at hs
  rw [mem_flip_take hk, h, List.filter_cons_of_neg (by simp), List.filter_eq_self.2]
  intro x hx
  have := hs.1 x hx
  simp
  omega
theorem next_nil {ws : List Nat} {r : Int} (h : mem ws = []) (hr : IsNext ws (-1) r) : r = -1 := by
  rcases hr with h1 | ⟨k, rfl, _, hb, _⟩
  · exact h1.1
  · have := mem_iff.2 hb
    rw [h] at this
    simp at this
theorem next_head {ws : List Nat} {k : Nat} {L : List Nat} {r : Int} (h : mem ws = k :: L) (hr : IsNext ws (-1) r) : r = k := by
  have hk : bit ws k = true := mem_iff.1 (by rw [h]; simp)
  have hs := mem_sorted ws
  rw [h, List.pairwise_cons] at hs
  rcases hr with ⟨_, h1⟩ | ⟨x, rfl, _, hb, hl⟩
  · rw [h1 k (by omega)] at hk
    cases hk
  · have hx := mem_iff.2 hb
    rw [h] at hx
    rcases List.mem_cons.1 hx with rfl | hx
    · rfl
    · have h2 := hs.1 x hx
      rw [hl k (by omega) h2] at hk
      cases hk
/-- What is put is one more. -/
theorem mem_flip_put {ws : List Nat} {k : Nat} (hk : k / 64 < ws.length) (h : bit ws k = false) : (mem (flip ws k)).length = (mem ws).length + 1 := by
  have hb : bit (flip ws k) k = true := by rw [bit_flip hk, if_pos rfl, h]; rfl
  have hm := mem_iff.2 hb
  have e : mem ws = (mem (flip ws k)).filter fun x => decide (x ≠ k) := by
    simp only [mem, flip_len, List.filter_filter]
    apply List.filter_congr
    intro x _
    rw [bit_flip hk]
    by_cases hx : x = k
    · subst hx
      simp [h]
    · simp [hx]
  have hnd : (mem (flip ws k)).Nodup := (mem_sorted _).imp (fun h => by omega)
  obtain ⟨a, b, hab⟩ := List.append_of_mem hm
  rw [hab] at hnd e
  rw [List.nodup_append] at hnd
  obtain ⟨n1, n2, n3⟩ := hnd
  rw [List.nodup_cons] at n2
  rw [e, hab, List.filter_append, List.filter_cons_of_neg (by simp), List.filter_eq_self.2, List.filter_eq_self.2]
  · simp
    omega
  · intro x hx
    have : x ≠ k := fun h => n2.1 (h ▸ hx)
    simpa using this
  · intro x hx
    have : x ≠ k := n3 x hx k (by simp)
    simpa using this
theorem mem_zero (n : Nat) : mem (List.replicate n 0) = [] := by
  simp only [mem, List.filter_eq_nil_iff]
  intro x _
  simp only [bit]
  by_cases hk : x / 64 < n
  · simp [List.getElem?_replicate, hk]
  · simp [List.getElem?_replicate, hk]

end Go.Proofs.YtkceclemfhbclaaDoor.Ev
