/- Plain laws of numbers, with no program in sight. -/

set_option linter.unusedVariables false
set_option linter.unusedSimpArgs false
/-! Division of two words by one, digit by digit of 32 bits: plain numbers. -/
namespace Go.Sx.Dv


section
variable {u y d : Nat}

/-- the true digit, and what is left -/
def Q (u y d : Nat) : Nat := (u * 4294967296 + d) / y
def R (u y d : Nat) : Nat := (u * 4294967296 + d) % y

theorem split_y (y : Nat) : y = y / 4294967296 * 4294967296 + y % 4294967296 := by omega

theorem Q_le_iff (h0 : 0 < y) {q : Nat} : q ≤ Q u y d ↔ q * y ≤ u * 4294967296 + d := by
  unfold Q; rw [Nat.le_div_iff_mul_le h0]

theorem mul_split (q y : Nat) : q * y = q * (y / 4294967296) * 4294967296 + q * (y % 4294967296) := by
  conv => lhs; rw [split_y y, Nat.mul_add, ← Nat.mul_assoc]

theorem Q_lt_B (h : u < y) (hd : d < 4294967296) : Q u y d < 4294967296 := by
  unfold Q
  rw [Nat.div_lt_iff_lt_mul (by omega)]
  have : (u + 1) * 4294967296 ≤ y * 4294967296 := Nat.mul_le_mul_right _ h
  rw [Nat.add_mul, Nat.one_mul] at this
  rw [Nat.mul_comm 4294967296 y]
  omega

/-- too great a digit is seen -/
theorem seen {q r : Nat} (hu : q * (y / 4294967296) + r = u) (h0 : 0 < y) (hq : Q u y d < q) (hqB : q < 4294967296) : 4294967296 * r + d < q * (y % 4294967296) := by
  rw [← Nat.not_le]
  intro hle
  have : q ≤ Q u y d := by
    rw [Q_le_iff h0, mul_split, ← hu, Nat.add_mul]
    rw [Nat.mul_comm r 4294967296]
    omega
  omega
/-- the true one is let by -/
theorem let_by {r : Nat} (h0 : 0 < y) (hu : Q u y d * (y / 4294967296) + r = u) : Q u y d * (y % 4294967296) ≤ 4294967296 * r + d := by
  have h1 := (Q_le_iff (u := u) (d := d) h0).1 (Nat.le_refl _)
  rw [mul_split] at h1
  generalize Q u y d = q at *
  have : u * 4294967296 = q * (y / 4294967296) * 4294967296 + r * 4294967296 := by rw [← hu, Nat.add_mul]
  rw [Nat.mul_comm r 4294967296] at this
  omega
/-- where what is left has a digit more it is the true one -/
theorem done {q r : Nat} (h0 : 0 < y) (hu : q * (y / 4294967296) + r = u) (hr : 4294967296 ≤ r) (hq : q ≤ 4294967296) : q ≤ Q u y d := by
  rw [Q_le_iff h0, mul_split]
  have h1 : q * (y % 4294967296) ≤ 4294967296 * (4294967295) := Nat.mul_le_mul hq (by omega)
  have h2 : 4294967296 * 4294967296 ≤ r * 4294967296 := Nat.mul_le_mul_right _ hr
  have : u * 4294967296 = q * (y / 4294967296) * 4294967296 + r * 4294967296 := by rw [← hu, Nat.add_mul]
  have e : 4294967296 * (4294967295) + 4294967296 = 4294967296 * 4294967296 := by decide
  omega
/-- the first guess -/
theorem guess_ge (h1 : 0 < y / 4294967296) (h : u < y) : Q u y d ≤ u / (y / 4294967296) ∨ 4294967296 ≤ d := by
  by_cases hd : 4294967296 ≤ d
  · exact .inr hd
  · left
    rw [Nat.le_div_iff_mul_le h1]
    have h0 : 0 < y := by omega
    have h2 := (Q_le_iff (u := u) (d := d) h0).1 (Nat.le_refl _)
    rw [mul_split] at h2
    generalize Q u y d = q at *
    have hu : q * (y / 4294967296) * 4294967296 ≤ u * 4294967296 + d := Nat.le_trans (Nat.le_add_right _ _) h2
    generalize q * (y / 4294967296) = p at hu ⊢
    clear h2
    have hd' : d < 4294967296 := by omega
    omega
theorem guess_le (h1 : 2147483648 ≤ y / 4294967296) (h : u < y) : u / (y / 4294967296) ≤ 4294967297 := by
  rw [← Nat.lt_succ_iff, Nat.div_lt_iff_lt_mul (by omega)]
  have := split_y y
  have hlt : y % 4294967296 < 4294967296 := Nat.mod_lt _ (by decide)
  generalize y / 4294967296 = a at *
  show u < 4294967298 * a
  generalize y % 4294967296 = m at *
  omega
theorem rest_eq (u y d : Nat) : Q u y d * y + R u y d = u * 4294967296 + d := by
  unfold Q R
  have := Nat.div_add_mod (u * 4294967296 + d) y
  rw [Nat.mul_comm] at this
  exact this
end

/-- two digits -/
theorem two {u y d1 d0 : Nat} (h0 : 0 < y) : (u * 18446744073709551616 + (d1 * 4294967296 + d0)) / y = Q u y d1 * 4294967296 + Q (R u y d1) y d0 ∧ (u * 18446744073709551616 + (d1 * 4294967296 + d0)) % y = R (R u y d1) y d0 := by
  have e1 := rest_eq u y d1
  have e2 := rest_eq (R u y d1) y d0
  have e : u * 18446744073709551616 + (d1 * 4294967296 + d0) = R (R u y d1) y d0 + y * (Q u y d1 * 4294967296 + Q (R u y d1) y d0) := by
    have : u * 18446744073709551616 = u * 4294967296 * 4294967296 := by rw [Nat.mul_assoc]
    have e3 : (Q u y d1 * y + R u y d1) * 4294967296 = (u * 4294967296 + d1) * 4294967296 := by rw [e1]
    rw [Nat.add_mul, Nat.add_mul] at e3
    rw [Nat.mul_add, ← Nat.mul_assoc, Nat.mul_comm y (Q u y d1), Nat.mul_comm y (Q _ y d0), this]
    calc u * 4294967296 * 4294967296 + (d1 * 4294967296 + d0) = (u * 4294967296 * 4294967296 + d1 * 4294967296) + d0 := (Nat.add_assoc _ _ _).symm
      _ = (Q u y d1 * y * 4294967296 + R u y d1 * 4294967296) + d0 := by rw [e3]
      _ = Q u y d1 * y * 4294967296 + (R u y d1 * 4294967296 + d0) := Nat.add_assoc _ _ _
      _ = Q u y d1 * y * 4294967296 + (Q (R u y d1) y d0 * y + R (R u y d1) y d0) := by rw [e2]
      _ = R (R u y d1) y d0 + (Q u y d1 * y * 4294967296 + Q (R u y d1) y d0 * y) := by ac_rfl
  have hlt : R (R u y d1) y d0 < y := Nat.mod_lt _ h0
  rw [e]
  refine ⟨?_, ?_⟩
  · rw [Nat.add_mul_div_left _ _ h0, Nat.div_eq_of_lt hlt, Nat.zero_add]
  · rw [Nat.add_mul_mod_self_left, Nat.mod_eq_of_lt hlt]

/-- moved up by s bits: the quotient is the same, what is left is moved up -/
theorem moved {hi lo y s : Nat} (hs : s < 64) (hlo : lo < 18446744073709551616) (h0 : 0 < y) :
    let u := hi * 2 ^ s + lo / 2 ^ (64 - s)
    let d := lo * 2 ^ s % 18446744073709551616
    (u * 18446744073709551616 + d) / (y * 2 ^ s) = (hi * 18446744073709551616 + lo) / y ∧ (u * 18446744073709551616 + d) % (y * 2 ^ s) = (hi * 18446744073709551616 + lo) % y * 2 ^ s := by
  intro u d
  have hp : 0 < 2 ^ s := Nat.two_pow_pos s
  have e : u * 18446744073709551616 + d = (hi * 18446744073709551616 + lo) * 2 ^ s := by
    show (hi * 2 ^ s + lo / 2 ^ (64 - s)) * 18446744073709551616 + lo * 2 ^ s % 18446744073709551616 = _
    have hM : 18446744073709551616 = 2 ^ (64 - s) * 2 ^ s := by
      rw [← Nat.pow_add, Nat.sub_add_cancel (Nat.le_of_lt hs)]
    have h1 : lo * 2 ^ s / 18446744073709551616 = lo / 2 ^ (64 - s) := by rw [hM, Nat.mul_div_mul_right _ _ hp]
    rw [← h1]
    have := Nat.div_add_mod (lo * 2 ^ s) 18446744073709551616
    rw [Nat.add_mul, Nat.add_mul, Nat.mul_right_comm]
    rw [Nat.mul_comm (lo * 2 ^ s / 18446744073709551616) 18446744073709551616, Nat.add_assoc, this]
  rw [e]
  exact ⟨Nat.mul_div_mul_right _ _ hp, Nat.mul_mod_mul_right _ _ _⟩
end Go.Sx.Dv
