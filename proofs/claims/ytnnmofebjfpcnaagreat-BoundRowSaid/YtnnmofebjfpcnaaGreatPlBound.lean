/- Plain laws of numbers, with no program in sight. -/

set_option linter.unusedVariables false
set_option linter.unusedSimpArgs false
/-! Words, bounds, and which words tell which number: plain numbers. -/
namespace Go.Sx.Bd

/-- 2^64 -/
abbrev M : Nat := 18446744073709551616

/-- what is left of 2^64 by b -/
def rst (b : Nat) : Nat := M % b
theorem rst_neg {b : Nat} (h0 : 0 < b) (h : b < M) : ((M - b) % M) % b = rst b := by
  have h1 : (M - b) % M = M - b := Nat.mod_eq_of_lt (by omega)
  rw [h1]
  exact (Nat.mod_eq_sub_mod (by omega)).symm
theorem rst_ref {b : Nat} (h0 : 0 < b) : ((M - 1) % b + 1) % b = rst b := by
  rw [Nat.mod_add_mod]
  rfl
theorem rst_lt {b : Nat} (h0 : 0 < b) : rst b < b := Nat.mod_lt _ h0

/-- what a word tells, and is it taken -/
def tell (x b : Nat) : Nat := x * b / M
def took (x b : Nat) : Bool := !decide (x * b % M < rst b)

/-- rounded up -/
def up (a b : Nat) : Nat := (a + (b - 1)) / b
theorem up_le {a b x : Nat} (h0 : 0 < b) : up a b ≤ x ↔ a ≤ x * b := by
  unfold up
  rw [← Nat.lt_succ_iff, Nat.div_lt_iff_lt_mul h0, Nat.succ_mul]
  omega

/-- how many words tell each number -/
def many (b : Nat) : Nat := M / b
/-- the first of them -/
def low (v b : Nat) : Nat := up (v * M + rst b) b

theorem low_le {v b x : Nat} (h0 : 0 < b) : low v b ≤ x ↔ v * M + rst b ≤ x * b := up_le h0
theorem M_eq (b : Nat) : M = many b * b + rst b := by
  have := Nat.div_add_mod M b
  rw [Nat.mul_comm] at this
  exact this.symm
theorem low_hi {v b x : Nat} (h0 : 0 < b) : low v b + many b ≤ x ↔ (v + 1) * M ≤ x * b := by
  constructor
  · intro h
    have h1 : low v b ≤ x - many b := by omega
    have h2 := (low_le h0).1 h1
    have h3 : (x - many b) * b + many b * b = x * b := by rw [← Nat.add_mul]; congr 1; omega
    have h4 := M_eq b
    rw [Nat.add_mul, Nat.one_mul]
    omega
  · intro h
    have h4 := M_eq b
    rw [Nat.add_mul, Nat.one_mul] at h
    have h5 : many b ≤ x := by
      refine Nat.le_of_mul_le_mul_right (c := b) ?_ h0
      omega
    have h3 : (x - many b) * b + many b * b = x * b := by rw [← Nat.add_mul]; congr 1; omega
    have : low v b ≤ x - many b := (low_le h0).2 (by omega)
    omega

/-- the words that tell v stand in a row -/
theorem tell_iff {v b x : Nat} (h0 : 0 < b) : (took x b = true ∧ tell x b = v) ↔ (low v b ≤ x ∧ x < low v b + many b) := by
  have hM : 0 < M := by decide
  have hr : rst b ≤ M := Nat.mod_le _ _
  rw [← Nat.not_le (a := low v b + many b), low_hi h0, low_le h0]
  unfold took tell
  have hd := Nat.div_add_mod (x * b) M
  have hlt := Nat.mod_lt (x * b) hM
  generalize hq : x * b / M = q at *
  generalize hs : x * b % M = s at *
  simp only [Bool.not_eq_true', decide_eq_false_iff_not, Nat.not_lt]
  rw [← hd]
  constructor
  · rintro ⟨h1, rfl⟩
    rw [Nat.add_mul, Nat.one_mul, Nat.mul_comm]
    omega
  · rintro ⟨h1, h2⟩
    rw [Nat.add_mul, Nat.one_mul] at h2
    have h3 : q = v := by
      rcases Nat.lt_trichotomy q v with h | h | h
      · exfalso
        have : M * (q + 1) ≤ M * v := Nat.mul_le_mul_left _ h
        rw [Nat.mul_add, Nat.mul_one] at this
        rw [Nat.mul_comm v M] at h1
        omega
      · exact h
      · exfalso
        have : M * (v + 1) ≤ M * q := Nat.mul_le_mul_left _ h
        rw [Nat.mul_add, Nat.mul_one] at this
        rw [Nat.mul_comm v M] at h2
        omega
    subst h3
    rw [Nat.mul_comm] at h1
    exact ⟨by omega, rfl⟩

theorem many_pos {b : Nat} (h0 : 0 < b) (h : b < M) : 0 < many b := Nat.div_pos (by omega) h0
theorem low_top {v b : Nat} (h0 : 0 < b) (hv : v < b) : low v b + many b ≤ M := by
  rw [low_hi h0]
  have := Nat.mul_le_mul_right M (show v + 1 ≤ b by omega)
  rw [Nat.mul_comm M b]
  exact this

/-- the first word, as it is found: the quotient, one more where something is left, one more where that is not taken -/
theorem low_found {v b x : Nat} (h0 : 0 < b) (h : b < M) (hv : v < b) (hx0 : x = v * M / b + (if 0 < v * M % b then 1 else 0)) :
    x < M ∧ (if took x b = true then x else x + 1) = low v b ∧ (took x b = false → x + 1 < M) := by
  have hx : x = up (v * M) b := by
    rw [hx0]
    unfold up
    have hd := Nat.div_add_mod (v * M) b
    have hlt := Nat.mod_lt (v * M) h0
    generalize v * M = a at *
    generalize hq : a / b = q at *
    generalize hs : a % b = s at *
    subst hd
    rw [Nat.add_assoc, Nat.mul_add_div h0]
    congr 1
    split
    · rename_i h1
      symm
      rw [Nat.div_eq_iff h0]
      omega
    · symm
      rw [Nat.div_eq_iff h0]
      omega
  have hle : ∀ y, x ≤ y ↔ v * M ≤ y * b := fun y => by rw [hx]; exact up_le h0
  have hup : x * b < v * M + b := by
    rcases Nat.eq_zero_or_pos x with h1 | h1
    · rw [h1]; omega
    · have : ¬ v * M ≤ (x - 1) * b := fun hh => by have := (hle (x - 1)).2 hh; omega
      have h3 : (x - 1) * b + b = x * b := by
        have := Nat.succ_mul (x - 1) b
        rw [← this]; congr 1; omega
      omega
  have hlo := (hle x).1 (Nat.le_refl _)
  have hr := rst_lt (b := b) h0
  have htell : tell x b = v ∧ x * b % M = x * b - v * M := by
    unfold tell
    have h1 : x * b / M = v := by
      rw [Nat.div_eq_iff (by decide)]
      omega
    refine ⟨h1, ?_⟩
    have := Nat.div_add_mod (x * b) M
    rw [h1, Nat.mul_comm] at this
    omega
  have ht : took x b = true ↔ v * M + rst b ≤ x * b := by
    unfold took
    rw [htell.2]
    simp only [Bool.not_eq_true', decide_eq_false_iff_not, Nat.not_lt]
    omega
  have hlow : (if took x b = true then x else x + 1) = low v b := by
    split
    · rename_i h1
      refine Nat.le_antisymm ?_ ((low_le h0).2 (ht.1 h1))
      refine (hle _).2 ?_
      exact Nat.le_trans (Nat.le_add_right _ _) ((low_le (v := v) (b := b) h0).1 (Nat.le_refl _))
    · rename_i h1
      rw [ht] at h1
      refine Nat.le_antisymm ?_ ((low_le h0).2 ?_)
      · have h2 : ¬ low v b ≤ x := fun hh => h1 ((low_le h0).1 hh)
        omega
      · rw [Nat.add_mul, Nat.one_mul]; exact Nat.add_le_add hlo (Nat.le_of_lt hr)
  have htop := low_top h0 hv
  have hm := many_pos h0 h
  refine ⟨?_, hlow, fun h1 => ?_⟩
  · have : x ≤ low v b := by rw [← hlow]; split <;> omega
    omega
  · rw [if_neg (by rw [h1]; simp)] at hlow
    omega

/-- how many more there are -/
theorem more_eq {b : Nat} (h0 : 0 < b) (h : b < M) : (if rst b ≠ 0 then (M - 1) / b - 1 else (M - 1) / b) = many b - 1 := by
  have hM := M_eq b
  have hm := many_pos h0 h
  have hr := rst_lt (b := b) h0
  have key : (M - 1) / b = if rst b ≠ 0 then many b else many b - 1 := by
    split
    · rename_i hne
      rw [Nat.div_eq_iff h0]
      have : b * many b = many b * b := Nat.mul_comm _ _
      omega
    · rename_i he
      simp only [ne_eq, Decidable.not_not] at he
      rw [Nat.div_eq_iff h0]
      have h2 : (many b - 1) * b + b = many b * b := by
        have := Nat.succ_mul (many b - 1) b
        rw [← this]; congr 1; omega
      omega
  rw [key]
  split <;> simp_all
end Go.Sx.Bd
