/- Part of an executor of given code on symbolic values, with its proof of soundness: what is proved stands in each theorem. -/
import Derived.Test.YtnnmofebjfpcnaaGreatSxLoop
set_option linter.unusedVariables false
set_option linter.unusedSimpArgs false

namespace Go.Sx
instance allNil : Decidable (All []) := .isTrue trivial
instance allCons {p : Prop} {ps : List Prop} [Decidable p] [Decidable (All ps)] : Decidable (All (p :: ps)) := inferInstanceAs (Decidable (p ∧ All ps))
abbrev u64 (n : Nat) : SV := .int .u64 (n : Int)
abbrev u32 (n : Nat) : SV := .int .u32 (n : Int)
abbrev u8 (n : Nat) : SV := .int .u8 (n : Int)
abbrev i64 (n : Int) : SV := .int .i64 n

theorem w64 (n : Int) : IntKind.u64.wrap n = n % 18446744073709551616 := by
  simp [IntKind.wrap, IntKind.bits, IntKind.signed]
theorem w32 (n : Int) : IntKind.u32.wrap n = n % 4294967296 := by
  simp [IntKind.wrap, IntKind.bits, IntKind.signed]
theorem w8 (n : Int) : IntKind.u8.wrap n = n % 256 := by
  simp [IntKind.wrap, IntKind.bits, IntKind.signed]
theorem w64n (n : Nat) : IntKind.u64.wrap (n : Int) = ((n % 18446744073709551616 : Nat) : Int) := by rw [w64]; omega
theorem w32n (n : Nat) : IntKind.u32.wrap (n : Int) = ((n % 4294967296 : Nat) : Int) := by rw [w32]; omega
theorem w8n (n : Nat) : IntKind.u8.wrap (n : Int) = ((n % 256 : Nat) : Int) := by rw [w8]; omega
theorem w64_lt {n : Nat} (h : n < 18446744073709551616) : IntKind.u64.wrap (n : Int) = n := by rw [w64n, Nat.mod_eq_of_lt h]
theorem wi64_in {n : Int} (h : -9223372036854775808 ≤ n) (h2 : n < 9223372036854775808) : IntKind.i64.wrap n = n := by
  rw [IntKind.wrap_i64]; omega
theorem w64_add (a b : Nat) : IntKind.u64.wrap ((a : Int) + b) = (((a + b) % 18446744073709551616 : Nat) : Int) := by rw [← w64n]; simp
theorem w64_mul (a b : Nat) : IntKind.u64.wrap ((a : Int) * b) = (((a * b) % 18446744073709551616 : Nat) : Int) := by rw [← w64n]; simp
theorem w32_add (a b : Nat) : IntKind.u32.wrap ((a : Int) + b) = (((a + b) % 4294967296 : Nat) : Int) := by rw [← w32n]; simp
theorem w32_mul (a b : Nat) : IntKind.u32.wrap ((a : Int) * b) = (((a * b) % 4294967296 : Nat) : Int) := by rw [← w32n]; simp
theorem w64_sub (a b : Nat) (h : b ≤ 18446744073709551616) : IntKind.u64.wrap ((a : Int) - b) = (((a + (18446744073709551616 - b)) % 18446744073709551616 : Nat) : Int) := by rw [w64]; omega
theorem w64_and (a b : Nat) : IntKind.u64.wrap (((BitVec.ofInt 64 (a : Int) &&& BitVec.ofInt 64 (b : Int)).toNat : Nat) : Int) = (((a &&& b) % 18446744073709551616 : Nat) : Int) := by
  rw [w64n, BitVec.ofInt_natCast, BitVec.ofInt_natCast, BitVec.toNat_and, BitVec.toNat_ofNat, BitVec.toNat_ofNat, ← Nat.and_mod_two_pow]
  simp
theorem w64_or (a b : Nat) : IntKind.u64.wrap (((BitVec.ofInt 64 (a : Int) ||| BitVec.ofInt 64 (b : Int)).toNat : Nat) : Int) = (((a ||| b) % 18446744073709551616 : Nat) : Int) := by
  rw [w64n, BitVec.ofInt_natCast, BitVec.ofInt_natCast, BitVec.toNat_or, BitVec.toNat_ofNat, BitVec.toNat_ofNat, ← Nat.or_mod_two_pow]
  simp
theorem w64_xor (a b : Nat) : IntKind.u64.wrap (((BitVec.ofInt 64 (a : Int) ^^^ BitVec.ofInt 64 (b : Int)).toNat : Nat) : Int) = (((a ^^^ b) % 18446744073709551616 : Nat) : Int) := by
  rw [w64n, BitVec.ofInt_natCast, BitVec.ofInt_natCast, BitVec.toNat_xor, BitVec.toNat_ofNat, BitVec.toNat_ofNat, ← Nat.xor_mod_two_pow]
  simp
theorem w32_xor (a b : Nat) : IntKind.u32.wrap (((BitVec.ofInt 32 (a : Int) ^^^ BitVec.ofInt 32 (b : Int)).toNat : Nat) : Int) = (((a ^^^ b) % 4294967296 : Nat) : Int) := by
  rw [w32n, BitVec.ofInt_natCast, BitVec.ofInt_natCast, BitVec.toNat_xor, BitVec.toNat_ofNat, BitVec.toNat_ofNat, ← Nat.xor_mod_two_pow]
  simp
theorem fd (a k : Nat) : (a : Int).fdiv (2 ^ k) = ((a / 2 ^ k : Nat) : Int) := by
  have h : (0 : Int) ≤ 2 ^ k := Int.le_of_lt (Int.pow_pos (by decide))
  rw [Int.fdiv_eq_ediv_of_nonneg _ h]
  rw [Int.natCast_ediv, Int.natCast_pow]
  rfl
theorem and32 (a : Nat) : a &&& 4294967295 = a % 4294967296 := by
  have := Nat.and_two_pow_sub_one_eq_mod a 32
  simpa using this
/-- a 128-bit number -/
def U (n : Nat) : SV := .agg [u64 (n / 18446744073709551616), u64 (n % 18446744073709551616)]

/-- the high word of a product, by halves -/
theorem mul_hi (a b : Nat) (ha : a < 18446744073709551616) (hb : b < 18446744073709551616) (a1 a0 b1 b0 t w1 : Nat) (h1 : a1 = a / 4294967296) (h0 : a0 = a % 4294967296) (k1 : b1 = b / 4294967296) (k0 : b0 = b % 4294967296)
    (ht : t = a1 * b0 + a0 * b0 / 4294967296) (hw : w1 = t % 4294967296 + a0 * b1) : a1 * b1 + t / 4294967296 + w1 / 4294967296 = a * b / 18446744073709551616 := by
  have ea : a = a1 * 4294967296 + a0 := by omega
  have eb : b = b1 * 4294967296 + b0 := by omega
  have la : a0 < 4294967296 := by omega
  have lb : b0 < 4294967296 := by omega
  generalize hp : a1 * b1 = p at *
  generalize hq : a1 * b0 = q at *
  generalize hr : a0 * b1 = r at *
  generalize hs : a0 * b0 = s at *
  have key : a * b = p * 18446744073709551616 + (q + r) * 4294967296 + s := by
    rw [ea, eb, ← hp, ← hq, ← hr, ← hs]
    rw [Nat.add_mul, Nat.mul_add, Nat.mul_add]
    have e1 : a1 * 4294967296 * (b1 * 4294967296) = a1 * b1 * 18446744073709551616 := by
      rw [Nat.mul_mul_mul_comm]
    have e2 : a1 * 4294967296 * b0 = a1 * b0 * 4294967296 := Nat.mul_right_comm _ _ _
    have e3 : a0 * (b1 * 4294967296) = a0 * b1 * 4294967296 := (Nat.mul_assoc _ _ _).symm
    rw [e1, e2, e3, Nat.add_mul]
    omega
  rw [key]
  omega
theorem sv64 {a : Int} {b : Nat} (h : a = (b : Int)) : SV.int .u64 a = SV.int .u64 (b : Int) := by rw [h]
theorem svi {k : IntKind} {a b : Int} (h : a = b) : SV.int k a = SV.int k b := by rw [h]
theorem svb {a b : Bool} (h : a = b) : SV.bool a = SV.bool b := by rw [h]
theorem and32_ob (a : Nat) : IntKind.u64.wrap (((BitVec.ofInt 64 (a : Int) &&& BitVec.ofInt 64 (4294967295 : Int)).toNat : Nat) : Int) = ((a % 4294967296 : Nat) : Int) := by
  have := w64_and a 4294967295
  rw [and32, Nat.mod_eq_of_lt (Nat.lt_of_lt_of_le (Nat.mod_lt _ (by decide)) (by decide))] at this
  exact this
theorem fd32 (a : Nat) : (a : Int).fdiv ((2 : Int) ^ (32 : Nat)) = ((a / 4294967296 : Nat) : Int) := fd a 32
theorem sq_le {a b : Nat} (ha : a < 4294967296) (hb : b < 4294967296) : a * b ≤ 18446744065119617025 :=
  Nat.mul_le_mul (Nat.le_of_lt_succ ha : a ≤ 4294967295) (Nat.le_of_lt_succ hb : b ≤ 4294967295)
theorem w64_lt' {a : Int} {n : Nat} (h : a = (n : Int)) (hn : n < 18446744073709551616) : IntKind.u64.wrap a = (n : Int) := by rw [h]; exact w64_lt hn
theorem mul_cast (a b : Nat) : (a : Int) * (b : Int) = ((a * b : Nat) : Int) := by simp
theorem add_cast (a b : Nat) : (a : Int) + (b : Int) = ((a + b : Nat) : Int) := by simp
theorem eq0_false {b : Nat} (h : 0 < b) : ((b : Int) == (0 : Int)) = false := by simp; omega
theorem tmodn (a b : Nat) : (a : Int).tmod (b : Int) = ((a % b : Nat) : Int) := rfl
theorem ne0 {b : Nat} (h : 0 < b) : (b : Int) ≠ (0 : Int) := by omega
end Go.Sx
