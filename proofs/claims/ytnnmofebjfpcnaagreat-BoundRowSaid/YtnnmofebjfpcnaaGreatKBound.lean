/- What functions of the program answer: contracts, each proved by the executor. -/
import Derived.Test.YtnnmofebjfpcnaaGreatKMul
import Derived.Test.YtnnmofebjfpcnaaGreatKDiv
import Derived.Test.YtnnmofebjfpcnaaGreatKBoundRaw
set_option linter.unusedVariables false
set_option linter.unusedSimpArgs false

namespace Go.Sx
open Go.Proofs
set_option maxRecDepth 100000
theorem eq0_true {b : Nat} (h : b = 0) : ((b : Int) == (0 : Int)) = true := by simp; omega
theorem ne_self (x : Nat) : ((x : Int) != (x : Int)) = false := by simp
theorem ne_true {a b : Nat} (h : a ≠ b) : ((a : Int) != (b : Int)) = true := by simp; omega
theorem ne_false {a b : Nat} (h : a = b) : ((a : Int) != (b : Int)) = false := by simp; omega
theorem ne0_true {a : Nat} (h : a ≠ 0) : ((a : Int) != (0 : Int)) = true := by simp; omega
theorem ne0_false {a : Nat} (h : a = 0) : ((a : Int) != (0 : Int)) = false := by simp; omega
theorem pure_cast {P : Program} {f : FuncId} {xs : List SV} {v w : SV} (h : Pure P f xs v) (e : v = w) : Pure P f xs w := e ▸ h

theorem wide_Of (n : Nat) (h : n < 18446744073709551616) : Pure Tryz.prog 10 [u64 n] (U n) := by
  have h1 := pure_of L0 200 _ (of_raw n) trivial rfl rfl
  have h2 : n / 18446744073709551616 = 0 := by omega
  have h3 : n % 18446744073709551616 = n := by omega
  have e : U n = .agg [.int .u64 (0 : Int), u64 n] := by simp [U, h2, h3]
  rw [e]
  exact h1.soft rfl rfl

def carries (a b : Nat) : Bool := decide (340282366920938463463374607431768211456 ≤ a + b)
theorem wide_Add (a b : Nat) (ha : a < 340282366920938463463374607431768211456) (hb : b < 340282366920938463463374607431768211456) :
    Pure Tryz.prog 9 [U a, U b] (.tup [U ((a + b) % 340282366920938463463374607431768211456), .bool (carries a b)]) := by
  have q1 : (a % 18446744073709551616 + b % 18446744073709551616 + 0) % 18446744073709551616 = (a + b) % 340282366920938463463374607431768211456 % 18446744073709551616 := by omega
  have q2 : (a / 18446744073709551616 + b / 18446744073709551616 + (a % 18446744073709551616 + b % 18446744073709551616 + 0) / 18446744073709551616) % 18446744073709551616 = (a + b) % 340282366920938463463374607431768211456 / 18446744073709551616 := by omega
  have q3 : 0 < (a / 18446744073709551616 + b / 18446744073709551616 + (a % 18446744073709551616 + b % 18446744073709551616 + 0) / 18446744073709551616) / 18446744073709551616 ↔ 340282366920938463463374607431768211456 ≤ a + b := by omega
  refine pure_of L0 200 _ (add_raw (a / 18446744073709551616) (a % 18446744073709551616) (b / 18446744073709551616) (b % 18446744073709551616) _ ((a % 18446744073709551616 + b % 18446744073709551616 + 0) / 18446744073709551616) _
    ((a / 18446744073709551616 + b / 18446744073709551616 + (a % 18446744073709551616 + b % 18446744073709551616 + 0) / 18446744073709551616) / 18446744073709551616) (carries a b))
    ⟨svi (congrArg Int.ofNat q1), rfl, ?_, svi (congrArg Int.ofNat q2), rfl, svb ?_, trivial⟩ rfl rfl
  · rw [Int.toNat_natCast]; omega
  · unfold carries
    apply decide_eq_decide.2
    omega

theorem wide_Mul (a b : Nat) : Pure Tryz.prog 11 [U a, U b] (U (a * b % 340282366920938463463374607431768211456)) := by
  have l1 : a % 18446744073709551616 < 18446744073709551616 := Nat.mod_lt _ (by decide)
  have l2 : b % 18446744073709551616 < 18446744073709551616 := Nat.mod_lt _ (by decide)
  have ea : a = a / 18446744073709551616 * 18446744073709551616 + a % 18446744073709551616 := by omega
  have eb : b = b / 18446744073709551616 * 18446744073709551616 + b % 18446744073709551616 := by omega
  have hf := full (a % 18446744073709551616) (b % 18446744073709551616) l1 l2
  have hz : a % 18446744073709551616 * (b % 18446744073709551616) < 340282366920938463463374607431768211456 := Nat.mul_lt_mul'' l1 l2
  have key : ∀ a1 a0 b1 b0 : Nat, (a1 * 18446744073709551616 + a0) * (b1 * 18446744073709551616 + b0) = a1 * b1 * 340282366920938463463374607431768211456 + (a1 * b0 + a0 * b1) * 18446744073709551616 + a0 * b0 := by
    intro a1 a0 b1 b0
    have e : (340282366920938463463374607431768211456 : Nat) = 18446744073709551616 * 18446744073709551616 := by decide
    rw [e]
    simp only [Nat.add_mul, Nat.mul_add]
    ac_rfl
  have e := key (a / 18446744073709551616) (a % 18446744073709551616) (b / 18446744073709551616) (b % 18446744073709551616)
  rw [← ea, ← eb] at e
  unfold U at hf ⊢
  generalize a / 18446744073709551616 = a1 at *
  generalize a % 18446744073709551616 = a0 at *
  generalize b / 18446744073709551616 = b1 at *
  generalize b % 18446744073709551616 = b0 at *
  refine pure_of L0 200 _ (mul_raw a1 a0 b1 b0 (a0 * b0 / 18446744073709551616) _ (a1 * b0 % 18446744073709551616) (a0 * b1 % 18446744073709551616) ((a1 * b0 + a0 * b1) % 18446744073709551616) _)
    ⟨?_, svi (w64_mul a1 b0), svi (w64_mul a0 b1), svi ((w64_add _ _).trans (by rw [← Nat.add_mod])), svi ((w64_add _ _).trans ?_), trivial⟩ rfl rfl
  · have e2 : a * b % 340282366920938463463374607431768211456 % 18446744073709551616 = a0 * b0 % 18446744073709551616 := by
      rw [e]
      generalize a1 * b1 = x
      generalize a1 * b0 + a0 * b1 = y
      generalize a0 * b0 = z at *
      omega
    rw [e2]
    exact hf
  · rw [e]
    generalize a1 * b1 = x
    generalize a1 * b0 + a0 * b1 = y
    generalize a0 * b0 = z at *
    congr 1
    omega

def cmpI (a b : Nat) : Int := if a < b then -1 else if b < a then 1 else 0
theorem compare (x y : Nat) : Pure Tryz.prog 24 [u64 x, u64 y] (.int .i64 (cmpI x y)) := by
  unfold cmpI
  by_cases h : x < y
  · rw [if_pos h]
    exact (pure_of L0 200 _ (cmp_l x y) ⟨svb (ne_self x), svb (ne_self y), svb (decide_eq_true (by omega)), trivial⟩ rfl rfl).soft rfl rfl
  · rw [if_neg h]
    by_cases h2 : y < x
    · rw [if_pos h2]
      exact (pure_of L0 200 _ (cmp_g x y) ⟨svb (ne_self x), svb (ne_self y), svb (decide_eq_false (by omega)), svb (decide_eq_true (by omega)), trivial⟩ rfl rfl).soft rfl rfl
    · rw [if_neg h2]
      exact (pure_of L0 200 _ (cmp_e x y) ⟨svb (ne_self x), svb (ne_self y), svb (decide_eq_false (by omega)), svb (decide_eq_false (by omega)), trivial⟩ rfl rfl).soft rfl rfl
theorem wide_Cmp (a b : Nat) : Pure Tryz.prog 12 [U a, U b] (.int .i64 (cmpI a b)) := by
  by_cases h : a / 18446744073709551616 = b / 18446744073709551616
  · have e : cmpI a b = cmpI (a % 18446744073709551616) (b % 18446744073709551616) := by
      unfold cmpI
      split <;> split <;> (try split) <;> (try split) <;> first | rfl | omega
    rw [e]
    exact pure_of L0 200 _ (wcmp_l _ _ _ _ _) ⟨svb (ne_false h), compare _ _, trivial⟩ rfl rfl
  · have e : cmpI a b = cmpI (a / 18446744073709551616) (b / 18446744073709551616) := by
      unfold cmpI
      split <;> split <;> (try split) <;> (try split) <;> first | rfl | omega
    rw [e]
    exact pure_of L0 200 _ (wcmp_h _ _ _ _ _) ⟨svb (ne_true h), compare _ _, trivial⟩ rfl rfl

theorem bound_first (v b : Nat) (hv : v < b) (hb : b < 18446744073709551616) : Pure Tryz.prog 22 [u64 v, u64 b] (u64 (Bd.low v b)) := by
  have h0 : 0 < b := by omega
  have hd := div64 v 0 b hv hb (by decide)
  rw [Nat.add_zero] at hd
  have hx := Bd.low_found (x := v * 18446744073709551616 / b + (if 0 < v * 18446744073709551616 % b then 1 else 0)) h0 hb hv rfl
  have hq : v * 18446744073709551616 / b < 18446744073709551616 := by
    have := hx.1
    exact Nat.lt_of_le_of_lt (Nat.le_add_right _ _) this
  generalize v * 18446744073709551616 / b = q at *
  generalize v * 18446744073709551616 % b = l at *
  by_cases hl : 0 < l
  · rw [if_pos hl] at hx
    obtain ⟨hx1, hx2, hx3⟩ := hx
    have ha := bound_Accept (q + 1) b hx1 hb
    cases ht : Bd.took (q + 1) b with
    | true =>
      have eb : accB (q + 1) b = true := by simp [accB, ht, h0]
      rw [if_pos ht] at hx2
      rw [eb] at ha
      rw [← hx2]
      exact pure_of L0 200 _ (first_raw v b q l (q + 1) 0 (accV (q + 1) b)) ⟨hd, svb (decide_eq_true (by omega)), svi (add_ob q 1 hx1), ha, trivial⟩ rfl rfl
    | false =>
      have eb : accB (q + 1) b = false := by simp [accB, ht]
      rw [if_neg (by rw [ht]; simp)] at hx2
      rw [eb] at ha
      rw [← hx2]
      exact pure_of L0 200 _ (first_ra2 v b q l (q + 1) (q + 1 + 1) (accV (q + 1) b)) ⟨hd, svb (decide_eq_true (by omega)), svi (add_ob q 1 hx1), ha, svi (add_ob (q + 1) 1 (hx3 ht)), trivial⟩ rfl rfl
  · rw [if_neg hl, Nat.add_zero] at hx
    obtain ⟨hx1, hx2, hx3⟩ := hx
    have ha := bound_Accept q b hx1 hb
    cases ht : Bd.took q b with
    | true =>
      have eb : accB q b = true := by simp [accB, ht, h0]
      rw [if_pos ht] at hx2
      rw [eb] at ha
      rw [← hx2]
      exact pure_of L0 200 _ (first_ra3 v b q l 0 (accV q b)) ⟨hd, svb (decide_eq_false (by omega)), ha, trivial⟩ rfl rfl
    | false =>
      have eb : accB q b = false := by simp [accB, ht]
      rw [if_neg (by rw [ht]; simp)] at hx2
      rw [eb] at ha
      rw [← hx2]
      exact pure_of L0 200 _ (first_ra4 v b q l (q + 1) (accV q b)) ⟨hd, svb (decide_eq_false (by omega)), ha, svi (add_ob q 1 (hx3 ht)), trivial⟩ rfl rfl

theorem Range_zero (v : Nat) : Pure Tryz.prog 8 [u64 v, u64 0] (.tup [u64 0, u64 0, .int .i64 (8 : Int)]) :=
  (pure_of L0 200 _ (range_0 v) trivial rfl rfl).soft rfl rfl
theorem Range_arg (v b : Nat) (h0 : 0 < b) (h : b ≤ v) : Pure Tryz.prog 8 [u64 v, u64 b] (.tup [u64 0, u64 0, .int .i64 (1 : Int)]) :=
  (pure_of L0 200 _ (range_1 v b) ⟨svb (eq0_false h0), svb (decide_eq_true (by omega)), trivial⟩ rfl rfl).soft rfl rfl
theorem Range_in (v b : Nat) (hv : v < b) (hb : b < 18446744073709551616) :
    Pure Tryz.prog 8 [u64 v, u64 b] (.tup [u64 (Bd.low v b), u64 (Bd.low v b + (Bd.many b - 1)), .int .i64 (0 : Int)]) := by
  have h0 : 0 < b := by omega
  have hf := bound_first v b hv hb
  have hr := bound_rest b h0 hb
  have ht := Bd.low_top h0 hv
  have hm := Bd.many_pos h0 hb
  have he := Bd.more_eq h0 hb
  have hk : 18446744073709551615 / b < 18446744073709551616 := Nat.lt_of_le_of_lt (Nat.div_le_self _ _) (by decide)
  have hM1 : Bd.M - 1 = 18446744073709551615 := rfl
  have hMM : Bd.M = 18446744073709551616 := rfl
  rw [hM1] at he
  rw [hMM] at ht
  by_cases hn : Bd.rst b ≠ 0
  · rw [if_pos hn] at he
    refine (pure_of L0 200 _ (range_2 v b (Bd.low v b) (18446744073709551615 / b) (Bd.many b - 1) (Bd.rst b) (Bd.low v b + (Bd.many b - 1)))
      ⟨svb (eq0_false h0), svb (decide_eq_false (by omega)), hf, svi (tdiv_ob 18446744073709551615 b (by decide)), ne0 h0, hr, svb (ne0_true hn), svi ?_, svi (add_ob _ _ (by omega)), trivial⟩ rfl rfl).soft rfl rfl
    have h1 : 0 < 18446744073709551615 / b := Nat.div_pos (by omega) h0
    rw [← he]
    exact w64_lt' (n := 18446744073709551615 / b - 1) (by omega) (by omega)
  · have hz : Bd.rst b = 0 := by omega
    rw [if_neg hn] at he
    refine (pure_of L0 200 _ (range_3 v b (Bd.low v b) (Bd.many b - 1) (Bd.rst b) (Bd.low v b + (Bd.many b - 1)))
      ⟨svb (eq0_false h0), svb (decide_eq_false (by omega)), hf, svi ?_, ne0 h0, hr, svb (ne0_false hz), svi (add_ob _ _ (by omega)), trivial⟩ rfl rfl).soft rfl rfl
    rw [← he]
    exact tdiv_ob 18446744073709551615 b (by decide)
end Go.Sx
