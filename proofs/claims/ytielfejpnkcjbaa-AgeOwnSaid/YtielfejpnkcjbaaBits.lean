/- Plain facts on addresses' bits. No program. -/
import Derived.Test.YtielfejpnkcjbaaCore
set_option linter.unusedVariables false
set_option linter.unusedSimpArgs false
namespace Go.Proofs.Ytielfejpnkcjbaa
theorem ofInt_nat (A : Nat) : BitVec.ofInt IntKind.u32.bits (A : Int) = BitVec.ofNat 32 A := by
  show BitVec.ofInt 32 (A : Int) = _
  rw [BitVec.ofInt_natCast]
theorem wrap32_nat (A : Nat) (h : A < 4294967296) : IntKind.u32.wrap (A : Int) = (A : Int) := by
  show (if (false && decide ((A : Int) % 4294967296 ≥ 2147483648)) = true then (A : Int) % 4294967296 - 4294967296 else (A : Int) % 4294967296) = _
  simp only [Bool.false_and, Bool.false_eq_true, if_false]
  omega
theorem wrap64_in (n : Int) (h : -9223372036854775808 ≤ n) (h' : n ≤ 9223372036854775807) : IntKind.i64.wrap n = n := by
  show (if (true && decide (n % 18446744073709551616 ≥ 9223372036854775808)) = true then n % 18446744073709551616 - 18446744073709551616 else n % 18446744073709551616) = n
  simp only [Bool.true_and, decide_eq_true_eq]
  split <;> omega
theorem wrapU64_in (n : Int) (h : 0 ≤ n) (h' : n < 18446744073709551616) : IntKind.u64.wrap n = n := by
  show (if (false && decide (n % 18446744073709551616 ≥ 9223372036854775808)) = true then n % 18446744073709551616 - 18446744073709551616 else n % 18446744073709551616) = n
  simp only [Bool.false_and, Bool.false_eq_true, if_false]
  omega
theorem wrap64_nat (n : Int) (m : Nat) (h : n = (m : Int)) (h' : m ≤ 9223372036854775807) : IntKind.i64.wrap n = (m : Int) := by rw [h, wrap64_in _ (by omega) (by omega)]
/-- The bit i, from the highest on. -/
def bitI (A i : Nat) : Bool := A.testBit (31 - i)
theorem and_one (x : Nat) : x &&& 1 = x % 2 := Nat.and_one_is_mod x
theorem fdiv_pow (A k : Nat) : Int.fdiv (A : Int) (2 ^ k) = ((A / 2 ^ k : Nat) : Int) := by
  have : ((2 : Int) ^ k) = ((2 ^ k : Nat) : Int) := by simp
  rw [this, Int.fdiv_eq_ediv_of_nonneg _ (Int.natCast_nonneg _)]
  exact (Int.natCast_ediv _ _).symm
theorem bit_eq (A i : Nat) (hA : A < 4294967296) (hi : i ≤ 31) :
    IntKind.i64.wrap (IntKind.u32.wrap (BitVec.ofInt IntKind.u32.bits (Int.fdiv (A : Int) (2 ^ (min (31 - i) IntKind.u32.bits))) &&& BitVec.ofInt IntKind.u32.bits 1).toNat) = if bitI A i then 1 else 0 := by
  have hm : min (31 - i) IntKind.u32.bits = 31 - i := by show min (31 - i) 32 = _; omega
  rw [hm, fdiv_pow]
  change IntKind.i64.wrap (IntKind.u32.wrap ((BitVec.ofInt 32 ((A / 2 ^ (31 - i) : Nat) : Int) &&& BitVec.ofInt 32 1).toNat : Int)) = _
  rw [BitVec.ofInt_natCast, show BitVec.ofInt 32 1 = BitVec.ofNat 32 1 from rfl]
  have hlt : A / 2 ^ (31 - i) < 4294967296 := Nat.lt_of_le_of_lt (Nat.div_le_self _ _) hA
  have h2 : (BitVec.ofNat 32 (A / 2 ^ (31 - i)) &&& BitVec.ofNat 32 1).toNat = A / 2 ^ (31 - i) % 2 := by
    rw [BitVec.toNat_and, BitVec.toNat_ofNat, BitVec.toNat_ofNat, Nat.mod_eq_of_lt hlt]
    exact and_one _
  rw [h2]
  have hb : bitI A i = decide (A / 2 ^ (31 - i) % 2 = 1) := by unfold bitI; rw [Nat.testBit_eq_decide_div_mod_eq]
  have hlt2 : A / 2 ^ (31 - i) % 2 < 2 := Nat.mod_lt _ (by decide)
  rw [wrap32_nat _ (by omega), wrap64_in _ (by omega) (by omega), hb]
  by_cases h : A / 2 ^ (31 - i) % 2 = 1
  · simp [h]
  · have : A / 2 ^ (31 - i) % 2 = 0 := by omega
    simp [this]
/-- The mask of so many bits. -/
def maskNat (m : Nat) : Nat := 4294967296 - 2 ^ (32 - m)
theorem maskNat_lt (m : Nat) : maskNat m < 4294967296 := by unfold maskNat; have : 0 < 2 ^ (32 - m) := Nat.pos_of_ne_zero (by simp); omega
theorem maskNat_bit : ∀ m : Nat, m ≤ 32 → ∀ j : Nat, j < 32 → (maskNat m).testBit j = decide (32 - m ≤ j) := by decide
/-- An address's first m bits, the others 0. -/
def cut (A m : Nat) : Nat := A &&& maskNat m
theorem cut_bit (A m : Nat) (hA : A < 4294967296) (hm : m ≤ 32) (i : Nat) (hi : i ≤ 31) : bitI (cut A m) i = (bitI A i && decide (i < m)) := by
  unfold bitI cut
  rw [Nat.testBit_and, maskNat_bit m hm (31 - i) (by omega)]
  congr 1
  simp; omega
theorem cut_lt (A m : Nat) (hA : A < 4294967296) : cut A m < 4294967296 := Nat.lt_of_le_of_lt Nat.and_le_left hA
theorem eq_of_bits (A B : Nat) (hA : A < 4294967296) (hB : B < 4294967296) (h : ∀ i, i ≤ 31 → bitI A i = bitI B i) : A = B := by
  apply Nat.eq_of_testBit_eq
  intro j
  rcases Nat.lt_or_ge j 32 with hj | hj
  · have := h (31 - j) (by omega)
    unfold bitI at this
    rwa [show 31 - (31 - j) = j by omega] at this
  · have h32 : (4294967296 : Nat) ≤ 2 ^ j := by
      have : 2 ^ 32 ≤ 2 ^ j := Nat.pow_le_pow_right (by decide) hj
      exact this
    rw [Nat.testBit_lt_two_pow (Nat.lt_of_lt_of_le hA h32), Nat.testBit_lt_two_pow (Nat.lt_of_lt_of_le hB h32)]
/-- The way that an address's first m bits take. -/
def path (A : Nat) : Nat → List Bool
  | 0 => []
  | m + 1 => path A m ++ [bitI A m]
theorem path_length (A m : Nat) : (path A m).length = m := by induction m with
  | zero => rfl
  | succ m ih => simp [path, ih]
theorem path_eq_iff (A B m : Nat) : path A m = path B m ↔ ∀ i, i < m → bitI A i = bitI B i := by
  induction m with
  | zero => simp [path]
  | succ m ih =>
    simp only [path]
    constructor
    · intro h i hi
      have h1 := List.append_inj h (by simp [path_length])
      rcases Nat.lt_succ_iff_lt_or_eq.1 hi with h2 | h2
      · exact ih.1 h1.1 i h2
      · subst h2; simpa using h1.2
    · intro h
      rw [ih.2 (fun i hi => h i (by omega)), h m (by omega)]
theorem path_cut (A m k : Nat) (hA : A < 4294967296) (hm : m ≤ 32) (hk : k ≤ m) : path (cut A m) k = path A k := by
  rw [path_eq_iff]
  intro i hi
  rw [cut_bit A m hA hm i (by omega)]
  simp; omega
theorem cut_eq_iff (A B m : Nat) (hA : A < 4294967296) (hB : B < 4294967296) (hm : m ≤ 32) : cut A m = cut B m ↔ path A m = path B m := by
  rw [path_eq_iff]
  constructor
  · intro h i hi
    have h1 := cut_bit A m hA hm i (by omega)
    have h2 := cut_bit B m hB hm i (by omega)
    rw [h] at h1
    rw [h1] at h2
    simpa [hi] using h2
  · intro h
    refine eq_of_bits _ _ (cut_lt A m hA) (cut_lt B m hB) fun i hi => ?_
    rw [cut_bit A m hA hm i hi, cut_bit B m hB hm i hi]
    by_cases h1 : i < m
    · rw [h i h1]
    · simp [h1]
end Go.Proofs.Ytielfejpnkcjbaa
