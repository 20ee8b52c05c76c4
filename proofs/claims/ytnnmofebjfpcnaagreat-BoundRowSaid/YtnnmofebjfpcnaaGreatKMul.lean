/- What functions of the program answer: contracts, each proved by the executor. -/
import Derived.Test.YtnnmofebjfpcnaaGreatSeatD
import Derived.Test.YtnnmofebjfpcnaaGreatSxCut
import Derived.Test.YtnnmofebjfpcnaaGreatSxArith
import Derived.Test.YtnnmofebjfpcnaaGreatPlBound
import Derived.Test.YtnnmofebjfpcnaaGreatKMulRaw
set_option linter.unusedVariables false
set_option linter.unusedSimpArgs false

namespace Go.Sx
open Go.Proofs
set_option maxRecDepth 100000
theorem mul64 (a b : Nat) (ha : a < 18446744073709551616) (hb : b < 18446744073709551616) : Pure Tryz.prog 31 [u64 a, u64 b] (.tup [u64 (a * b / 18446744073709551616), u64 (a * b % 18446744073709551616)]) := by
  have la : a % 4294967296 < 4294967296 := Nat.mod_lt _ (by decide)
  have lb : b % 4294967296 < 4294967296 := Nat.mod_lt _ (by decide)
  have ka : a / 4294967296 < 4294967296 := by omega
  have kb : b / 4294967296 < 4294967296 := by omega
  have h00 := sq_le la lb
  have h10 := sq_le ka lb
  have h01 := sq_le la kb
  have h11 := sq_le ka kb
  have hhi := mul_hi a b ha hb (a / 4294967296) (a % 4294967296) (b / 4294967296) (b % 4294967296) _ _ rfl rfl rfl rfl rfl rfl
  have hlt : a * b / 18446744073709551616 < 18446744073709551616 := by
    rw [Nat.div_lt_iff_lt_mul (by decide)]
    exact Nat.mul_lt_mul'' ha hb
  have hlo := w64_mul a b
  have o1 := and32_ob a
  have o2 := fd32 a
  have o3 := and32_ob b
  have o4 := fd32 b
  generalize hA0 : a % 4294967296 = a0 at *
  generalize hA1 : a / 4294967296 = a1 at *
  generalize hB0 : b % 4294967296 = b0 at *
  generalize hB1 : b / 4294967296 = b1 at *
  generalize hH : a * b / 18446744073709551616 = H at *
  generalize hL : a * b % 18446744073709551616 = L at *
  clear hA0 hA1 hB0 hB1 hH hL ha hb
  obtain ⟨w0, hw0⟩ : ∃ w0, w0 = a0 * b0 := ⟨_, rfl⟩
  obtain ⟨q, hq⟩ : ∃ q, q = a1 * b0 := ⟨_, rfl⟩
  obtain ⟨r, hr⟩ : ∃ r, r = a0 * b1 := ⟨_, rfl⟩
  obtain ⟨s, hs⟩ : ∃ s, s = a1 * b1 := ⟨_, rfl⟩
  rw [← hw0, ← hq, ← hr, ← hs] at hhi
  rw [← hw0] at h00
  rw [← hq] at h10
  rw [← hr] at h01
  rw [← hs] at h11
  refine pure_of L0 200 _ (mul64_raw a b a0 a1 b0 b1 w0 (q + w0 / 4294967296) ((q + w0 / 4294967296) % 4294967296) ((q + w0 / 4294967296) / 4294967296) ((q + w0 / 4294967296) % 4294967296 + r) H L)
    ⟨svi o1, svi o2, svi o3, svi o4, svi ?_, svi ?_, svi (and32_ob _), svi (fd32 _), svi ?_, svi ?_, svi hlo, trivial⟩ rfl rfl
  · rw [mul_cast, ← hw0]; exact w64_lt (by omega)
  · rw [mul_cast, ← hq, w64_lt (by omega), fd32, add_cast]; exact w64_lt (by omega)
  · rw [mul_cast, ← hr, w64_lt (by omega), add_cast]; exact w64_lt (by omega)
  · rw [mul_cast, ← hs, w64_lt (by omega), add_cast, w64_lt (by omega), fd32, add_cast, hhi]; exact w64_lt hlt

theorem full (a b : Nat) (ha : a < 18446744073709551616) (hb : b < 18446744073709551616) : Pure Tryz.prog 18 [u64 a, u64 b] (U (a * b)) :=
  pure_of L0 200 _ (full_raw a b (a * b / 18446744073709551616) (a * b % 18446744073709551616)) ⟨mul64 a b ha hb, trivial⟩ rfl rfl

theorem bound_rest (b : Nat) (h0 : 0 < b) (hb : b < 18446744073709551616) : Pure Tryz.prog 19 [u64 b] (u64 (Bd.rst b)) := by
  refine pure_of L0 200 _ (rest_raw b (18446744073709551616 - b) (Bd.rst b)) ⟨svi ?_, svi ?_, ne0 h0, trivial⟩ rfl rfl
  · have := w64_sub 0 b (Nat.le_of_lt hb)
    rw [Nat.zero_add, Nat.mod_eq_of_lt (by omega)] at this
    exact this
  · rw [tmodn]
    have h1 : (18446744073709551616 - b) % 18446744073709551616 % b = Bd.rst b := Bd.rst_neg h0 hb
    have h2 : (18446744073709551616 - b) % 18446744073709551616 = 18446744073709551616 - b := Nat.mod_eq_of_lt (by omega)
    rw [h2] at h1
    rw [h1]
theorem ref_Rest (b : Nat) (h0 : 0 < b) (hb : b < 18446744073709551616) : Pure Tryz.prog 21 [u64 b] (u64 (Bd.rst b)) := by
  have hlt := Nat.mod_lt 18446744073709551615 h0
  refine pure_of L0 200 _ (rrest_raw b (18446744073709551615 % b) (18446744073709551615 % b + 1) (Bd.rst b)) ⟨svi (tmodn 18446744073709551615 b), ne0 h0, svi ?_, svi ?_, ne0 h0, trivial⟩ rfl rfl
  · exact w64_lt (n := 18446744073709551615 % b + 1) (by omega)
  · rw [tmodn]
    exact congrArg _ (Bd.rst_ref h0)

/-- what Accept answers -/
def accV (x b : Nat) : Nat := if 0 < b ∧ Bd.took x b = true then Bd.tell x b else 0
def accB (x b : Nat) : Bool := decide (0 < b) && Bd.took x b

theorem bound_Accept (x b : Nat) (hx : x < 18446744073709551616) (hb : b < 18446744073709551616) : Pure Tryz.prog 6 [u64 x, u64 b] (.tup [u64 (accV x b), .bool (accB x b)]) := by
  by_cases h0 : 0 < b
  · have hr : x * b % 18446744073709551616 < Bd.rst b ↔ Bd.took x b = false := by unfold Bd.took; simp
    cases ht : Bd.took x b with
    | false =>
      have e1 : accV x b = 0 := by simp [accV, ht]
      have e2 : accB x b = false := by simp [accB, ht]
      rw [e1, e2]
      exact (pure_of L0 200 _ (acc1_raw x b (x * b / 18446744073709551616) (x * b % 18446744073709551616) (Bd.rst b)) ⟨svb (eq0_false h0), full x b hx hb, bound_rest b h0 hb, svb (decide_eq_true (by have := hr.2 ht; omega)), trivial⟩ rfl rfl).ans (fun _ => rfl)
    | true =>
      have e1 : accV x b = x * b / 18446744073709551616 := by simp [accV, ht, h0, Bd.tell]
      have e2 : accB x b = true := by simp [accB, ht, h0]
      rw [e1, e2]
      exact pure_of L0 200 _ (acc2_raw x b (x * b / 18446744073709551616) (x * b % 18446744073709551616) (Bd.rst b)) ⟨svb (eq0_false h0), full x b hx hb, bound_rest b h0 hb, svb (decide_eq_false (by
        intro h; have := hr.1 (by omega); rw [ht] at this; cases this)), trivial⟩ rfl rfl
  · have hz : b = 0 := by omega
    subst hz
    exact (pure_of L0 200 _ (acc0_raw x) trivial rfl rfl).soft rfl rfl
end Go.Sx
