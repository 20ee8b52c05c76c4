/- What functions of the program answer: contracts, each proved by the executor. -/
import Derived.Test.YtnnmofebjfpcnaaGreatSeatD
import Derived.Test.YtnnmofebjfpcnaaGreatSxArith
import Derived.Test.YtnnmofebjfpcnaaGreatKLenRaw
set_option linter.unusedVariables false
set_option linter.unusedSimpArgs false

namespace Go.Sx
open Go.Proofs
set_option maxRecDepth 100000
/-- how many bits a number has -/
def bl (x : Nat) : Nat := if x = 0 then 0 else Nat.log2 x + 1
theorem bl_div {x : Nat} (k : Nat) (h : x / 2 ^ k ≠ 0) : bl x = bl (x / 2 ^ k) + k := by
  have hx : x ≠ 0 := by intro h0; subst h0; simp at h
  unfold bl
  rw [if_neg hx, if_neg h]
  have : Nat.log2 x = Nat.log2 (x / 2 ^ k) + k := by
    rw [Nat.log2_eq_iff hx]
    have h1 := (Nat.log2_eq_iff h).1 rfl
    have hp := Nat.two_pow_pos k
    rw [Nat.le_div_iff_mul_le hp, Nat.div_lt_iff_lt_mul hp, ← Nat.pow_add, ← Nat.pow_add] at h1
    refine ⟨h1.1, ?_⟩
    have e : Nat.log2 (x / 2 ^ k) + 1 + k = Nat.log2 (x / 2 ^ k) + k + 1 := by omega
    rw [← e]
    exact h1.2
  omega
theorem bl_le {x k : Nat} (h : x < 2 ^ k) : bl x ≤ k := by
  unfold bl
  split
  · omega
  · rename_i h0
    have := (Nat.log2_lt h0).2 h
    omega
theorem bl_top {x : Nat} (h : 0 < x) : 2 ^ (bl x - 1) ≤ x ∧ x < 2 ^ bl x ∧ 0 < bl x := by
  have h0 : x ≠ 0 := by omega
  have e : bl x = Nat.log2 x + 1 := by unfold bl; rw [if_neg h0]
  rw [e]
  have := (Nat.log2_eq_iff h0).1 rfl
  exact ⟨this.1, this.2, by omega⟩
def tabOK (s : ByteArray) : Bool := (List.range 256).all fun i => match s.data[i]? with | some b => Nat.beq b.toNat (bl i) | none => false
theorem ix_tab {P : Program} {t : TypeId} {s : ByteArray} (hu : P.underlying t = some .string) (h : tabOK s = true) {x : Nat} (hx : x < 256) : IxOK P t (.str s) (.int .u8 (x : Int)) (.int .u8 (bl x : Int)) := by
  have h1 := List.all_eq_true.1 h x (List.mem_range.2 hx)
  cases hb : s.data[x]? with
  | none => rw [hb] at h1; simp at h1
  | some b =>
    rw [hb] at h1
    have h2 := Nat.eq_of_beq_eq_true h1
    refine ⟨.int .u8 b.toNat, [(0 : Int) ≤ (x : Int)], ?_, by rw [h2], ?_⟩
    · simp only [xix, hu, Int.toNat_natCast, hb]
      rfl
    · intro p hp
      simp only [List.mem_singleton] at hp
      subst hp
      omega
theorem w8_lt {n : Nat} (h : n < 256) : IntKind.u8.wrap (n : Int) = n := by rw [w8n, Nat.mod_eq_of_lt h]
theorem wi_nat {n : Nat} (h : n < 9223372036854775808) : IntKind.i64.wrap (n : Int) = n := wi64_in (by omega) (by omega)

theorem len64 (x : Nat) (hx : x < 18446744073709551616) : Pure Tryz.prog 53 [u64 x] (.int .i64 (bl x : Int)) := by
  by_cases h0 : 4294967296 ≤ x
  · have k0 : x / 2 ^ 32 ≠ 0 := by omega
    have e0 := bl_div (x := x) 32 k0
    by_cases h1 : 65536 ≤ (x / 2 ^ 32)
    · have k1 : (x / 2 ^ 32) / 2 ^ 16 ≠ 0 := by omega
      have e1 := bl_div (x := (x / 2 ^ 32)) 16 k1
      by_cases h2 : 256 ≤ ((x / 2 ^ 32) / 2 ^ 16)
      · have k2 : ((x / 2 ^ 32) / 2 ^ 16) / 2 ^ 8 ≠ 0 := by omega
        have e2 := bl_div (x := ((x / 2 ^ 32) / 2 ^ 16)) 8 k2
        have hlt : (((x / 2 ^ 32) / 2 ^ 16) / 2 ^ 8) < 256 := by omega
        have hb8 := bl_le (x := (((x / 2 ^ 32) / 2 ^ 16) / 2 ^ 8)) (k := 8) (by omega)
        have he : bl x = bl (((x / 2 ^ 32) / 2 ^ 16) / 2 ^ 8) + 56 := by omega
        exact pure_of L0 200 _ (len_111 x (x / 2 ^ 32) ((x / 2 ^ 32) / 2 ^ 16) (((x / 2 ^ 32) / 2 ^ 16) / 2 ^ 8) (bl (((x / 2 ^ 32) / 2 ^ 16) / 2 ^ 8)) (bl x)) ⟨svb (decide_eq_true (by omega)),
          svi (fd _ 32),
          svb (decide_eq_true (by omega)),
          svi (fd _ 16),
          svb (decide_eq_true (by omega)),
          svi (fd _ 8),
          svi (w8_lt hlt),
          ix_tab (by kernel_rfl) (by decide +kernel) hlt,
          svi (wi_nat (by omega)),
          svi (Eq.trans (congrArg _ (show _ = ((bl x : Nat) : Int) by first | omega | (simp only [Int.ofNat_eq_natCast]; omega))) (wi_nat (by omega))),
          trivial⟩ rfl rfl
      · have hlt : ((x / 2 ^ 32) / 2 ^ 16) < 256 := by omega
        have hb8 := bl_le (x := ((x / 2 ^ 32) / 2 ^ 16)) (k := 8) (by omega)
        have he : bl x = bl ((x / 2 ^ 32) / 2 ^ 16) + 48 := by omega
        exact pure_of L0 200 _ (len_110 x (x / 2 ^ 32) ((x / 2 ^ 32) / 2 ^ 16) (bl ((x / 2 ^ 32) / 2 ^ 16)) (bl x)) ⟨svb (decide_eq_true (by omega)),
          svi (fd _ 32),
          svb (decide_eq_true (by omega)),
          svi (fd _ 16),
          svb (decide_eq_false (by omega)),
          svi (w8_lt hlt),
          ix_tab (by kernel_rfl) (by decide +kernel) hlt,
          svi (wi_nat (by omega)),
          svi (Eq.trans (congrArg _ (show _ = ((bl x : Nat) : Int) by first | omega | (simp only [Int.ofNat_eq_natCast]; omega))) (wi_nat (by omega))),
          trivial⟩ rfl rfl
    · by_cases h2 : 256 ≤ (x / 2 ^ 32)
      · have k2 : (x / 2 ^ 32) / 2 ^ 8 ≠ 0 := by omega
        have e2 := bl_div (x := (x / 2 ^ 32)) 8 k2
        have hlt : ((x / 2 ^ 32) / 2 ^ 8) < 256 := by omega
        have hb8 := bl_le (x := ((x / 2 ^ 32) / 2 ^ 8)) (k := 8) (by omega)
        have he : bl x = bl ((x / 2 ^ 32) / 2 ^ 8) + 40 := by omega
        exact pure_of L0 200 _ (len_101 x (x / 2 ^ 32) ((x / 2 ^ 32) / 2 ^ 8) (bl ((x / 2 ^ 32) / 2 ^ 8)) (bl x)) ⟨svb (decide_eq_true (by omega)),
          svi (fd _ 32),
          svb (decide_eq_false (by omega)),
          svb (decide_eq_true (by omega)),
          svi (fd _ 8),
          svi (w8_lt hlt),
          ix_tab (by kernel_rfl) (by decide +kernel) hlt,
          svi (wi_nat (by omega)),
          svi (Eq.trans (congrArg _ (show _ = ((bl x : Nat) : Int) by first | omega | (simp only [Int.ofNat_eq_natCast]; omega))) (wi_nat (by omega))),
          trivial⟩ rfl rfl
      · have hlt : (x / 2 ^ 32) < 256 := by omega
        have hb8 := bl_le (x := (x / 2 ^ 32)) (k := 8) (by omega)
        have he : bl x = bl (x / 2 ^ 32) + 32 := by omega
        exact pure_of L0 200 _ (len_100 x (x / 2 ^ 32) (bl (x / 2 ^ 32)) (bl x)) ⟨svb (decide_eq_true (by omega)),
          svi (fd _ 32),
          svb (decide_eq_false (by omega)),
          svb (decide_eq_false (by omega)),
          svi (w8_lt hlt),
          ix_tab (by kernel_rfl) (by decide +kernel) hlt,
          svi (wi_nat (by omega)),
          svi (Eq.trans (congrArg _ (show _ = ((bl x : Nat) : Int) by first | omega | (simp only [Int.ofNat_eq_natCast]; omega))) (wi_nat (by omega))),
          trivial⟩ rfl rfl
  · by_cases h1 : 65536 ≤ x
    · have k1 : x / 2 ^ 16 ≠ 0 := by omega
      have e1 := bl_div (x := x) 16 k1
      by_cases h2 : 256 ≤ (x / 2 ^ 16)
      · have k2 : (x / 2 ^ 16) / 2 ^ 8 ≠ 0 := by omega
        have e2 := bl_div (x := (x / 2 ^ 16)) 8 k2
        have hlt : ((x / 2 ^ 16) / 2 ^ 8) < 256 := by omega
        have hb8 := bl_le (x := ((x / 2 ^ 16) / 2 ^ 8)) (k := 8) (by omega)
        have he : bl x = bl ((x / 2 ^ 16) / 2 ^ 8) + 24 := by omega
        exact pure_of L0 200 _ (len_011 x (x / 2 ^ 16) ((x / 2 ^ 16) / 2 ^ 8) (bl ((x / 2 ^ 16) / 2 ^ 8)) (bl x)) ⟨svb (decide_eq_false (by omega)),
          svb (decide_eq_true (by omega)),
          svi (fd _ 16),
          svb (decide_eq_true (by omega)),
          svi (fd _ 8),
          svi (w8_lt hlt),
          ix_tab (by kernel_rfl) (by decide +kernel) hlt,
          svi (wi_nat (by omega)),
          svi (Eq.trans (congrArg _ (show _ = ((bl x : Nat) : Int) by first | omega | (simp only [Int.ofNat_eq_natCast]; omega))) (wi_nat (by omega))),
          trivial⟩ rfl rfl
      · have hlt : (x / 2 ^ 16) < 256 := by omega
        have hb8 := bl_le (x := (x / 2 ^ 16)) (k := 8) (by omega)
        have he : bl x = bl (x / 2 ^ 16) + 16 := by omega
        exact pure_of L0 200 _ (len_010 x (x / 2 ^ 16) (bl (x / 2 ^ 16)) (bl x)) ⟨svb (decide_eq_false (by omega)),
          svb (decide_eq_true (by omega)),
          svi (fd _ 16),
          svb (decide_eq_false (by omega)),
          svi (w8_lt hlt),
          ix_tab (by kernel_rfl) (by decide +kernel) hlt,
          svi (wi_nat (by omega)),
          svi (Eq.trans (congrArg _ (show _ = ((bl x : Nat) : Int) by first | omega | (simp only [Int.ofNat_eq_natCast]; omega))) (wi_nat (by omega))),
          trivial⟩ rfl rfl
    · by_cases h2 : 256 ≤ x
      · have k2 : x / 2 ^ 8 ≠ 0 := by omega
        have e2 := bl_div (x := x) 8 k2
        have hlt : (x / 2 ^ 8) < 256 := by omega
        have hb8 := bl_le (x := (x / 2 ^ 8)) (k := 8) (by omega)
        have he : bl x = bl (x / 2 ^ 8) + 8 := by omega
        exact pure_of L0 200 _ (len_001 x (x / 2 ^ 8) (bl (x / 2 ^ 8)) (bl x)) ⟨svb (decide_eq_false (by omega)),
          svb (decide_eq_false (by omega)),
          svb (decide_eq_true (by omega)),
          svi (fd _ 8),
          svi (w8_lt hlt),
          ix_tab (by kernel_rfl) (by decide +kernel) hlt,
          svi (wi_nat (by omega)),
          svi (Eq.trans (congrArg _ (show _ = ((bl x : Nat) : Int) by first | omega | (simp only [Int.ofNat_eq_natCast]; omega))) (wi_nat (by omega))),
          trivial⟩ rfl rfl
      · have hlt : x < 256 := by omega
        have hb8 := bl_le (x := x) (k := 8) (by omega)
        exact pure_of L0 200 _ (len_000 x  (bl x) (bl x)) ⟨svb (decide_eq_false (by omega)),
          svb (decide_eq_false (by omega)),
          svb (decide_eq_false (by omega)),
          svi (w8_lt hlt),
          ix_tab (by kernel_rfl) (by decide +kernel) hlt,
          svi (wi_nat (by omega)),
          svi (Eq.trans (congrArg _ (show _ = ((bl x : Nat) : Int) by first | omega | (simp only [Int.ofNat_eq_natCast]; omega))) (wi_nat (by omega))),
          trivial⟩ rfl rfl

theorem lead64 (x : Nat) (hx : x < 18446744073709551616) : Pure Tryz.prog 44 [u64 x] (.int .i64 ((64 - bl x : Nat) : Int)) := by
  have h := bl_le (x := x) (k := 64) (by omega)
  exact pure_of L0 200 _ (lead_raw x (bl x) (64 - bl x)) ⟨len64 x hx, svi (Eq.trans (congrArg _ (show _ = ((64 - bl x : Nat) : Int) by omega)) (wi_nat (by omega))), trivial⟩ rfl rfl
end Go.Sx
