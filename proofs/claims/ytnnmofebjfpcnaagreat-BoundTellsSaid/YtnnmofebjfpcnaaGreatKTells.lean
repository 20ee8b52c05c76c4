/- What functions of the program answer: contracts, each proved by the executor. -/
import Derived.Test.YtnnmofebjfpcnaaGreatKAwake18
import Derived.Test.YtnnmofebjfpcnaaGreatKMul
import Derived.Test.YtnnmofebjfpcnaaGreatKRMul
import Derived.Test.YtnnmofebjfpcnaaGreatKTellsRaw
namespace Go.Sx
open Go.Proofs
set_option maxRecDepth 100000
theorem ref_Accept (x b : Nat) (hx : x < 18446744073709551616) (hb : b < 18446744073709551616) : Pure Tryz.prog 7 [u64 x, u64 b] (.tup [u64 (accV x b), .bool (accB x b)]) := by
  have hm : Con Tryz.prog 20 [.agg [.int .u64 (0 : Int), u64 x], .agg [.int .u64 (0 : Int), u64 b]] [] (.agg [u64 (x * b / 18446744073709551616), u64 (x * b % 18446744073709551616)]) [] := by
    have h := ref_Mul x b (by omega) (by omega)
    have h2 : x * b < 340282366920938463463374607431768211456 := Nat.mul_lt_mul'' hx hb
    rw [Nat.mod_eq_of_lt h2] at h
    have e : ∀ n, n < 18446744073709551616 → U n = .agg [.int .u64 (0 : Int), u64 n] := by
      intro n hn
      have h1 : n / 18446744073709551616 = 0 := by omega
      have h2 : n % 18446744073709551616 = n := by omega
      simp [U, h1, h2]
    rw [e x hx, e b hb] at h
    exact h
  by_cases h0 : 0 < b
  · have hr : x * b % 18446744073709551616 < Bd.rst b ↔ Bd.took x b = false := by unfold Bd.took; simp
    cases ht : Bd.took x b with
    | false =>
      have e1 : accV x b = 0 := by simp [accV, ht]
      have e2 : accB x b = false := by simp [accB, ht]
      rw [e1, e2]
      exact (pure_of L0 200 _ (racc1_raw x b (x * b / 18446744073709551616) (x * b % 18446744073709551616) (Bd.rst b)) ⟨svb (eq0_false h0), hm, ref_Rest b h0 hb, svb (decide_eq_true (by have := hr.2 ht; omega)), trivial⟩ rfl rfl).ans (fun _ => rfl)
    | true =>
      have e1 : accV x b = x * b / 18446744073709551616 := by simp [accV, ht, h0, Bd.tell]
      have e2 : accB x b = true := by simp [accB, ht, h0]
      rw [e1, e2]
      exact pure_of L0 200 _ (racc2_raw x b (x * b / 18446744073709551616) (x * b % 18446744073709551616) (Bd.rst b)) ⟨svb (eq0_false h0), hm, ref_Rest b h0 hb, svb (decide_eq_false (by
        intro h; have := hr.1 (by omega); rw [ht] at this; cases this)), trivial⟩ rfl rfl
  · have hz : b = 0 := by omega
    subst hz
    exact (pure_of L0 200 _ (racc0_raw x) trivial rfl rfl).soft rfl rfl

theorem accV_lt {x b : Nat} (hx : x < 18446744073709551616) (ht : accB x b = true) : accV x b < b := by
  simp only [accB, Bool.and_eq_true, decide_eq_true_eq] at ht
  have e1 : accV x b = x * b / 18446744073709551616 := by simp [accV, ht.1, ht.2, Bd.tell]
  rw [e1, Nat.div_lt_iff_lt_mul (by decide), Nat.mul_comm]
  exact (Nat.mul_lt_mul_left ht.1).2 hx

theorem law_BoundTells (x b : Nat) (hx : x < 18446744073709551616) (hb : b < 18446744073709551616) : Pure Tryz.prog 3 [u64 x, u64 b] (.bool true) := by
  have h1 := bound_Accept x b hx hb
  have h2 := ref_Accept x b hx hb
  cases ht : accB x b with
  | true =>
    have hlt := accV_lt hx ht
    rw [ht] at h1 h2
    exact pure_of L0 200 _ (tells_t x b (accV x b)) ⟨awake18, h1, h2, svb (by simp), svb (decide_eq_true (by omega)), trivial⟩ rfl rfl
  | false =>
    rw [ht] at h1 h2
    exact pure_of L0 200 _ (tells_f x b (accV x b)) ⟨awake18, h1, h2, svb (by simp), trivial⟩ rfl rfl
end Go.Sx
