/- What functions of the program answer: contracts, each proved by the executor. -/
import Derived.Test.YtnnmofebjfpcnaaGreatKAwake18
import Derived.Test.YtnnmofebjfpcnaaGreatKBound
import Derived.Test.YtnnmofebjfpcnaaGreatKRowRaw
set_option linter.unusedVariables false
set_option linter.unusedSimpArgs false

namespace Go.Sx
open Go.Proofs
set_option maxRecDepth 100000
theorem strongH {P : Program} {c : Code} {s0 s1 : St} {e : Ex} {L : Nat} {sl : List (Nat × SV)} (h : CodeOK P 0 c ⟨mkT L sl, []⟩ s1 e) (hl : s0.t.length = L) (hlow : lowOk 0 [] s0.h = true) (hts : matchT (tau []) sl (tgets s0.t (sl.map (·.1)))) (hnt : nmSl [] sl = true) : CodeOK P 0 c s0 s1 e :=
  CodeOK.strengthen (canon_of [] (hp := []) ⟨hl, hlow, hts, trivial⟩ hnt trivial rfl rfl) h
theorem loop_three {P : Program} {c : Code} {s0 s1 s2 s' : St} {e : Ex} (h0 : CodeOK P 0 c s0 s1 .normal) (h1 : CodeOK P 0 c s1 s2 .normal) (h2 : CodeOK P 0 c s2 s' e) (he : e ≠ .normal) : CodeOK P 0 (.loop c) s0 s' e :=
  loop_rule (fun i => match i with | 0 => s0 | 1 => s1 | _ + 2 => s2) 2 0 (fun i _ hi => by
    have : i = 0 ∨ i = 1 := by omega
    rcases this with rfl | rfl
    · exact h0
    · exact h1) h2 he
theorem eq_true' {a b : Nat} (h : a = b) : ((a : Int) == (b : Int)) = true := by simp [h]
theorem eq_false' {a b : Nat} (h : a ≠ b) : ((a : Int) == (b : Int)) = false := by simp; omega

/-- a word tells v just in its range -/
theorem acc_in {v b y : Nat} (h0 : 0 < b) (hb : b < 18446744073709551616) (ht : accB y b = true) : accV y b = v ↔ Bd.low v b ≤ y ∧ y < Bd.low v b + Bd.many b := by
  have hk : Bd.took y b = true := by
    simp only [accB, Bool.and_eq_true] at ht; exact ht.2
  have hv : accV y b = Bd.tell y b := by simp [accV, h0, hk]
  rw [hv, ← Bd.tell_iff h0]
  simp [hk]
theorem acc_range {v b y : Nat} (h0 : 0 < b) (h : Bd.low v b ≤ y ∧ y < Bd.low v b + Bd.many b) : accB y b = true ∧ accV y b = v := by
  obtain ⟨h1, h2⟩ := (Bd.tell_iff h0).2 h
  exact ⟨by simp [accB, h0, h1], by simp [accV, h0, h1, h2]⟩

theorem row_round0 (b v x low high y1 y2 : Nat) (h0 : 0 < b) (hb : b < 18446744073709551616) (hy : y1 < 18446744073709551616) (hl : low = Bd.low v b) (hh : high + 1 = low + Bd.many b) :
    CodeOK Tryz.prog 0 (loopB Tryz.prog 4 0) ⟨mkT 176 [(0, u64 b), (1, u64 v), (2, u64 x), (7, u64 low), (8, u64 high), (127, .agg [u64 y1, u64 y2]), (128, .num .i64 0)], []⟩ ⟨mkT 176 [(0, u64 b), (1, u64 v), (2, u64 x), (7, u64 low), (8, u64 high), (127, .agg [u64 y1, u64 y2]), (128, .num .i64 1)], []⟩ .normal := by
  have ha := bound_Accept y1 b hy hb
  cases ht : accB y1 b with
  | false =>
    rw [ht] at ha
    exact see0 L0 100 0 _ (rr0a b v x low high y1 y2 (accV y1 b)) ⟨ha, trivial⟩ ⟨rfl, rfl, rfl, rfl, rfl, rfl, rfl, trivial⟩ rfl
  | true =>
    rw [ht] at ha
    have hi := acc_in (v := v) h0 hb ht
    by_cases hv : accV y1 b = v
    · obtain ⟨k1, k2⟩ := hi.1 hv
      exact see0 L0 100 0 _ (rr0c b v x low high y1 y2 (accV y1 b)) ⟨ha, svb (eq_true' hv), svb (decide_eq_false (by omega)), svb (decide_eq_false (by omega)), trivial⟩ ⟨rfl, rfl, rfl, rfl, rfl, rfl, rfl, trivial⟩ rfl
    · exact see0 L0 100 0 _ (rr0b b v x low high y1 y2 (accV y1 b)) ⟨ha, svb (eq_false' hv), trivial⟩ ⟨rfl, rfl, rfl, rfl, rfl, rfl, rfl, trivial⟩ rfl

theorem row_round1 (b v x low high y1 y2 : Nat) (h0 : 0 < b) (hb : b < 18446744073709551616) (hy : y2 < 18446744073709551616) (hl : low = Bd.low v b) (hh : high + 1 = low + Bd.many b) :
    CodeOK Tryz.prog 0 (loopB Tryz.prog 4 0) ⟨mkT 176 [(0, u64 b), (1, u64 v), (2, u64 x), (7, u64 low), (8, u64 high), (127, .agg [u64 y1, u64 y2]), (128, .num .i64 1)], []⟩ ⟨mkT 176 [(0, u64 b), (1, u64 v), (2, u64 x), (7, u64 low), (8, u64 high), (127, .agg [u64 y1, u64 y2]), (128, .num .i64 2)], []⟩ .normal := by
  have ha := bound_Accept y2 b hy hb
  cases ht : accB y2 b with
  | false =>
    rw [ht] at ha
    exact see0 L0 100 0 _ (rr1a b v x low high y1 y2 (accV y2 b)) ⟨ha, trivial⟩ ⟨rfl, rfl, rfl, rfl, rfl, rfl, rfl, trivial⟩ rfl
  | true =>
    rw [ht] at ha
    have hi := acc_in (v := v) h0 hb ht
    by_cases hv : accV y2 b = v
    · obtain ⟨k1, k2⟩ := hi.1 hv
      exact see0 L0 100 0 _ (rr1c b v x low high y1 y2 (accV y2 b)) ⟨ha, svb (eq_true' hv), svb (decide_eq_false (by omega)), svb (decide_eq_false (by omega)), trivial⟩ ⟨rfl, rfl, rfl, rfl, rfl, rfl, rfl, trivial⟩ rfl
    · exact see0 L0 100 0 _ (rr1b b v x low high y1 y2 (accV y2 b)) ⟨ha, svb (eq_false' hv), trivial⟩ ⟨rfl, rfl, rfl, rfl, rfl, rfl, rfl, trivial⟩ rfl

theorem row_loop (b v x low high y1 y2 : Nat) (h0 : 0 < b) (hb : b < 18446744073709551616) (hy1 : y1 < 18446744073709551616) (hy2 : y2 < 18446744073709551616) (hl : low = Bd.low v b) (hh : high + 1 = low + Bd.many b) :
    CodeOK Tryz.prog 0 (cutAt Tryz.prog 4 0) ⟨mkT 176 [(0, u64 b), (1, u64 v), (2, u64 x), (7, u64 low), (8, u64 high), (127, .agg [u64 y1, u64 y2]), (128, .num .i64 0)], []⟩ ⟨mkT 176 [(0, u64 b), (1, u64 v), (2, u64 x), (7, u64 low), (8, u64 high)], []⟩ (.exit 0) := by
  have hc : cutAt Tryz.prog 4 0 = .loop (loopB Tryz.prog 4 0) := by kernel_rfl
  rw [hc]
  have hx : (Ex.exit 0) ≠ .normal := by intro h; cases h
  have e1 : CodeOK Tryz.prog 0 (loopB Tryz.prog 4 0) ⟨mkT 176 [(0, u64 b), (1, u64 v), (2, u64 x), (7, u64 low), (8, u64 high), (127, .agg [u64 y1, u64 y2]), (128, .num .i64 2)], []⟩ ⟨mkT 176 [(0, u64 b), (1, u64 v), (2, u64 x), (7, u64 low), (8, u64 high)], []⟩ (.exit 0) := see0 L0 100 0 _ (rr2 b v x low high y1 y2) trivial ⟨rfl, rfl, rfl, rfl, rfl, trivial⟩ rfl
  exact loop_three (row_round0 b v x low high y1 y2 h0 hb hy1 hl hh) (row_round1 b v x low high y1 y2 h0 hb hy2 hl hh) e1 hx

theorem U_top : U 18446744073709551616 = .agg [.int .u64 (1 : Int), .int .u64 (0 : Int)] := rfl

theorem row_in (b v x : Nat) (hv : v < b) (hb : b < 18446744073709551616) (hx : x < 18446744073709551616) : Pure Tryz.prog 4 [u64 b, u64 v, u64 x] (.bool true) := by
  have h0 : 0 < b := by omega
  have hR : Pure Tryz.prog 8 [u64 v, u64 b] (.tup [u64 (Bd.low v b), u64 (Bd.low v b + (Bd.many b - 1)), .num .i64 0]) := (Range_in v b hv hb).soft rfl rfl
  have ht := Bd.low_top h0 hv
  have hm := Bd.many_pos h0 hb
  have hr := Bd.rst_lt (b := b) h0
  have hM := Bd.M_eq b
  have hMM : Bd.M = 18446744073709551616 := rfl
  rw [hMM] at ht hM
  have hmM : Bd.many b ≤ 18446744073709551616 := by omega
  have A := wide_Of (Bd.many b - 1) (by omega)
  have A1 := wide_Of 1 (by decide)
  have A2 := wide_Add (Bd.many b - 1) 1 (by omega) (by decide)
  rw [show (Bd.many b - 1 + 1) % 340282366920938463463374607431768211456 = Bd.many b by omega] at A2
  have B1 := wide_Of b hb
  have B2 := wide_Mul (Bd.many b) b
  rw [show Bd.many b * b % 340282366920938463463374607431768211456 = Bd.many b * b from Nat.mod_eq_of_lt (by omega)] at B2
  have B3 := wide_Add (Bd.many b * b) b (by omega) (by omega)
  rw [show (Bd.many b * b + b) % 340282366920938463463374607431768211456 = Bd.many b * b + b from Nat.mod_eq_of_lt (by omega)] at B3
  have C1 := wide_Cmp (Bd.many b * b) 18446744073709551616
  have C2 := wide_Cmp (Bd.many b * b + b) 18446744073709551616
  rw [U_top] at C1 C2
  have c1 : decide (cmpI (Bd.many b * b) 18446744073709551616 > 0) = false := by
    unfold cmpI
    split
    · decide
    · rw [if_neg (by omega)]; decide
  have c2 : decide (cmpI (Bd.many b * b + b) 18446744073709551616 ≤ 0) = false := by
    unfold cmpI
    rw [if_neg (by omega), if_pos (by omega)]; decide
  have hX := bound_Accept x b hx hb
  have hin := fun ht => acc_in (v := v) (b := b) (y := x) h0 hb ht
  have har := fun y h => acc_range (v := v) (b := b) (y := y) h0 h
  have hacc := fun y h => bound_Accept y b h hb
  have hloop := fun low high y1 y2 h1 h2 h3 h4 => row_loop b v x low high y1 y2 h0 hb h1 h2 h3 h4
  generalize Bd.low v b = low at *
  generalize Bd.many b = many at *
  have lw := hloop low (low + (many - 1)) ((low + (18446744073709551616 - 1)) % 18446744073709551616) ((low + (many - 1) + 1) % 18446744073709551616) (Nat.mod_lt _ (by decide)) (Nat.mod_lt _ (by decide)) rfl (by omega)
  have oy1 : IntKind.u64.wrap ((low : Int) - ((1 : Nat) : Int)) = (((low + (18446744073709551616 - 1)) % 18446744073709551616 : Nat) : Int) := w64_sub low 1 (by decide)
  have oy2 : IntKind.u64.wrap (((low + (many - 1) : Nat) : Int) + ((1 : Nat) : Int)) = (((low + (many - 1) + 1) % 18446744073709551616 : Nat) : Int) := w64_add _ 1
  have od : IntKind.u64.wrap (((low + (many - 1) : Nat) : Int) - (low : Int)) = ((many - 1 : Nat) : Int) := w64_lt' (n := many - 1) (by omega) (by omega)
  by_cases hfull : many - 1 < 18446744073709551615
  · have hix : low + x % (many - 1 + 1) < low + many := by
      have := Nat.mod_lt x (show 0 < many - 1 + 1 by omega)
      omega
    obtain ⟨i1, i2⟩ := har (low + x % (many - 1 + 1)) ⟨by omega, hix⟩
    have hI := hacc (low + x % (many - 1 + 1)) (by omega)
    rw [i1, i2] at hI
    have od2 : IntKind.u64.wrap (((many - 1 : Nat) : Int) + ((1 : Nat) : Int)) = ((many - 1 + 1 : Nat) : Int) := add_ob _ 1 (by omega)
    have oi : IntKind.u64.wrap ((low : Int) + ((x % (many - 1 + 1) : Nat) : Int)) = ((low + x % (many - 1 + 1) : Nat) : Int) := add_ob _ _ (by omega)
    have of1 : decide (IntKind.u64.wrap (((low + (many - 1) : Nat) : Int) - (low : Int)) < 18446744073709551615) = true := by rw [od]; exact decide_eq_true (by omega)
    cases hacc2 : accB x b with
    | false =>
      rw [hacc2] at hX
      exact pure_of L0 200 _ (row_p1 b v x low (low + (many - 1)) (many - 1) ((many - 1) / 18446744073709551616) ((many - 1) % 18446744073709551616) (1 / 18446744073709551616) (1 % 18446744073709551616) (many / 18446744073709551616) (many % 18446744073709551616) (b / 18446744073709551616) (b % 18446744073709551616) (many * b / 18446744073709551616) (many * b % 18446744073709551616) ((many * b + b) / 18446744073709551616) ((many * b + b) % 18446744073709551616) ((low + (18446744073709551616 - 1)) % 18446744073709551616) ((low + (many - 1) + 1) % 18446744073709551616) (accV x b) (many - 1 + 1) (x % (many - 1 + 1)) (low + x % (many - 1 + 1)) (carries (many - 1) 1) (carries (many * b) b) (cmpI (many * b) 18446744073709551616) (cmpI (many * b + b) 18446744073709551616))
        ⟨awake18, hR, svb (eq0_false h0), svb (decide_eq_false (by omega)), svb (decide_eq_false (by omega)), svi od, A, A1, A2, B1, B2, B1, B3, C1, svb c1, C2, svb c2, svb of1, svi od, svi od2, svi (tmodn _ _), ne0 (by omega), svi oi, hI, svb (ne_self v), svi oy1, svi oy2, strongH lw rfl rfl ⟨rfl, rfl, rfl, rfl, rfl, rfl, rfl, trivial⟩ rfl, hX, trivial⟩ rfl rfl
    | true =>
      rw [hacc2] at hX
      have hin2 := hin hacc2
      by_cases hv2 : accV x b = v
      · obtain ⟨k1, k2⟩ := hin2.1 hv2
        exact pure_of L0 200 _ (row_p2 b v x low (low + (many - 1)) (many - 1) ((many - 1) / 18446744073709551616) ((many - 1) % 18446744073709551616) (1 / 18446744073709551616) (1 % 18446744073709551616) (many / 18446744073709551616) (many % 18446744073709551616) (b / 18446744073709551616) (b % 18446744073709551616) (many * b / 18446744073709551616) (many * b % 18446744073709551616) ((many * b + b) / 18446744073709551616) ((many * b + b) % 18446744073709551616) ((low + (18446744073709551616 - 1)) % 18446744073709551616) ((low + (many - 1) + 1) % 18446744073709551616) (accV x b) (many - 1 + 1) (x % (many - 1 + 1)) (low + x % (many - 1 + 1)) (carries (many - 1) 1) (carries (many * b) b) (cmpI (many * b) 18446744073709551616) (cmpI (many * b + b) 18446744073709551616))
          ⟨awake18, hR, svb (eq0_false h0), svb (decide_eq_false (by omega)), svb (decide_eq_false (by omega)), svi od, A, A1, A2, B1, B2, B1, B3, C1, svb c1, C2, svb c2, svb of1, svi od, svi od2, svi (tmodn _ _), ne0 (by omega), svi oi, hI, svb (ne_self v), svi oy1, svi oy2, strongH lw rfl rfl ⟨rfl, rfl, rfl, rfl, rfl, rfl, rfl, trivial⟩ rfl, hX, svb (eq_true' hv2), svb (decide_eq_true (by omega)), svb (decide_eq_true (by omega)), trivial⟩ rfl rfl
      · by_cases hlo : low ≤ x
        · have hno : ¬ x < low + many := fun h => hv2 (hin2.2 ⟨hlo, h⟩)
          exact pure_of L0 200 _ (row_p4 b v x low (low + (many - 1)) (many - 1) ((many - 1) / 18446744073709551616) ((many - 1) % 18446744073709551616) (1 / 18446744073709551616) (1 % 18446744073709551616) (many / 18446744073709551616) (many % 18446744073709551616) (b / 18446744073709551616) (b % 18446744073709551616) (many * b / 18446744073709551616) (many * b % 18446744073709551616) ((many * b + b) / 18446744073709551616) ((many * b + b) % 18446744073709551616) ((low + (18446744073709551616 - 1)) % 18446744073709551616) ((low + (many - 1) + 1) % 18446744073709551616) (accV x b) (many - 1 + 1) (x % (many - 1 + 1)) (low + x % (many - 1 + 1)) (carries (many - 1) 1) (carries (many * b) b) (cmpI (many * b) 18446744073709551616) (cmpI (many * b + b) 18446744073709551616))
            ⟨awake18, hR, svb (eq0_false h0), svb (decide_eq_false (by omega)), svb (decide_eq_false (by omega)), svi od, A, A1, A2, B1, B2, B1, B3, C1, svb c1, C2, svb c2, svb of1, svi od, svi od2, svi (tmodn _ _), ne0 (by omega), svi oi, hI, svb (ne_self v), svi oy1, svi oy2, strongH lw rfl rfl ⟨rfl, rfl, rfl, rfl, rfl, rfl, rfl, trivial⟩ rfl, hX, svb (eq_false' hv2), svb (decide_eq_true (by omega)), svb (decide_eq_false (by omega)), trivial⟩ rfl rfl
        · exact pure_of L0 200 _ (row_p3 b v x low (low + (many - 1)) (many - 1) ((many - 1) / 18446744073709551616) ((many - 1) % 18446744073709551616) (1 / 18446744073709551616) (1 % 18446744073709551616) (many / 18446744073709551616) (many % 18446744073709551616) (b / 18446744073709551616) (b % 18446744073709551616) (many * b / 18446744073709551616) (many * b % 18446744073709551616) ((many * b + b) / 18446744073709551616) ((many * b + b) % 18446744073709551616) ((low + (18446744073709551616 - 1)) % 18446744073709551616) ((low + (many - 1) + 1) % 18446744073709551616) (accV x b) (many - 1 + 1) (x % (many - 1 + 1)) (low + x % (many - 1 + 1)) (carries (many - 1) 1) (carries (many * b) b) (cmpI (many * b) 18446744073709551616) (cmpI (many * b + b) 18446744073709551616))
            ⟨awake18, hR, svb (eq0_false h0), svb (decide_eq_false (by omega)), svb (decide_eq_false (by omega)), svi od, A, A1, A2, B1, B2, B1, B3, C1, svb c1, C2, svb c2, svb of1, svi od, svi od2, svi (tmodn _ _), ne0 (by omega), svi oi, hI, svb (ne_self v), svi oy1, svi oy2, strongH lw rfl rfl ⟨rfl, rfl, rfl, rfl, rfl, rfl, rfl, trivial⟩ rfl, hX, svb (eq_false' hv2), svb (decide_eq_false (by omega)), trivial⟩ rfl rfl
  · have hlow0 : low = 0 := by omega
    obtain ⟨i1, i2⟩ := har x ⟨by omega, by omega⟩
    have hI := hacc x hx
    rw [i1, i2] at hI
    have of1 : decide (IntKind.u64.wrap (((low + (many - 1) : Nat) : Int) - (low : Int)) < 18446744073709551615) = false := by rw [od]; exact decide_eq_false (by omega)
    cases hacc2 : accB x b with
    | false =>
      rw [hacc2] at hX
      exact pure_of L0 200 _ (row_q1 b v x low (low + (many - 1)) (many - 1) ((many - 1) / 18446744073709551616) ((many - 1) % 18446744073709551616) (1 / 18446744073709551616) (1 % 18446744073709551616) (many / 18446744073709551616) (many % 18446744073709551616) (b / 18446744073709551616) (b % 18446744073709551616) (many * b / 18446744073709551616) (many * b % 18446744073709551616) ((many * b + b) / 18446744073709551616) ((many * b + b) % 18446744073709551616) ((low + (18446744073709551616 - 1)) % 18446744073709551616) ((low + (many - 1) + 1) % 18446744073709551616) (accV x b) (carries (many - 1) 1) (carries (many * b) b) (cmpI (many * b) 18446744073709551616) (cmpI (many * b + b) 18446744073709551616))
        ⟨awake18, hR, svb (eq0_false h0), svb (decide_eq_false (by omega)), svb (decide_eq_false (by omega)), svi od, A, A1, A2, B1, B2, B1, B3, C1, svb c1, C2, svb c2, svb of1, hI, svb (ne_self v), svi oy1, svi oy2, strongH lw rfl rfl ⟨rfl, rfl, rfl, rfl, rfl, rfl, rfl, trivial⟩ rfl, hX, trivial⟩ rfl rfl
    | true =>
      rw [hacc2] at hX
      have hin2 := hin hacc2
      by_cases hv2 : accV x b = v
      · obtain ⟨k1, k2⟩ := hin2.1 hv2
        exact pure_of L0 200 _ (row_q2 b v x low (low + (many - 1)) (many - 1) ((many - 1) / 18446744073709551616) ((many - 1) % 18446744073709551616) (1 / 18446744073709551616) (1 % 18446744073709551616) (many / 18446744073709551616) (many % 18446744073709551616) (b / 18446744073709551616) (b % 18446744073709551616) (many * b / 18446744073709551616) (many * b % 18446744073709551616) ((many * b + b) / 18446744073709551616) ((many * b + b) % 18446744073709551616) ((low + (18446744073709551616 - 1)) % 18446744073709551616) ((low + (many - 1) + 1) % 18446744073709551616) (accV x b) (carries (many - 1) 1) (carries (many * b) b) (cmpI (many * b) 18446744073709551616) (cmpI (many * b + b) 18446744073709551616))
          ⟨awake18, hR, svb (eq0_false h0), svb (decide_eq_false (by omega)), svb (decide_eq_false (by omega)), svi od, A, A1, A2, B1, B2, B1, B3, C1, svb c1, C2, svb c2, svb of1, hI, svb (ne_self v), svi oy1, svi oy2, strongH lw rfl rfl ⟨rfl, rfl, rfl, rfl, rfl, rfl, rfl, trivial⟩ rfl, hX, svb (eq_true' hv2), svb (decide_eq_true (by omega)), svb (decide_eq_true (by omega)), trivial⟩ rfl rfl
      · by_cases hlo : low ≤ x
        · have hno : ¬ x < low + many := fun h => hv2 (hin2.2 ⟨hlo, h⟩)
          exact pure_of L0 200 _ (row_q4 b v x low (low + (many - 1)) (many - 1) ((many - 1) / 18446744073709551616) ((many - 1) % 18446744073709551616) (1 / 18446744073709551616) (1 % 18446744073709551616) (many / 18446744073709551616) (many % 18446744073709551616) (b / 18446744073709551616) (b % 18446744073709551616) (many * b / 18446744073709551616) (many * b % 18446744073709551616) ((many * b + b) / 18446744073709551616) ((many * b + b) % 18446744073709551616) ((low + (18446744073709551616 - 1)) % 18446744073709551616) ((low + (many - 1) + 1) % 18446744073709551616) (accV x b) (carries (many - 1) 1) (carries (many * b) b) (cmpI (many * b) 18446744073709551616) (cmpI (many * b + b) 18446744073709551616))
            ⟨awake18, hR, svb (eq0_false h0), svb (decide_eq_false (by omega)), svb (decide_eq_false (by omega)), svi od, A, A1, A2, B1, B2, B1, B3, C1, svb c1, C2, svb c2, svb of1, hI, svb (ne_self v), svi oy1, svi oy2, strongH lw rfl rfl ⟨rfl, rfl, rfl, rfl, rfl, rfl, rfl, trivial⟩ rfl, hX, svb (eq_false' hv2), svb (decide_eq_true (by omega)), svb (decide_eq_false (by omega)), trivial⟩ rfl rfl
        · exact pure_of L0 200 _ (row_q3 b v x low (low + (many - 1)) (many - 1) ((many - 1) / 18446744073709551616) ((many - 1) % 18446744073709551616) (1 / 18446744073709551616) (1 % 18446744073709551616) (many / 18446744073709551616) (many % 18446744073709551616) (b / 18446744073709551616) (b % 18446744073709551616) (many * b / 18446744073709551616) (many * b % 18446744073709551616) ((many * b + b) / 18446744073709551616) ((many * b + b) % 18446744073709551616) ((low + (18446744073709551616 - 1)) % 18446744073709551616) ((low + (many - 1) + 1) % 18446744073709551616) (accV x b) (carries (many - 1) 1) (carries (many * b) b) (cmpI (many * b) 18446744073709551616) (cmpI (many * b + b) 18446744073709551616))
            ⟨awake18, hR, svb (eq0_false h0), svb (decide_eq_false (by omega)), svb (decide_eq_false (by omega)), svi od, A, A1, A2, B1, B2, B1, B3, C1, svb c1, C2, svb c2, svb of1, hI, svb (ne_self v), svi oy1, svi oy2, strongH lw rfl rfl ⟨rfl, rfl, rfl, rfl, rfl, rfl, rfl, trivial⟩ rfl, hX, svb (eq_false' hv2), svb (decide_eq_false (by omega)), trivial⟩ rfl rfl

theorem law_BoundRow (b v x : Nat) (hb : b < 18446744073709551616) (hv : v < 18446744073709551616) (hx : x < 18446744073709551616) : Pure Tryz.prog 4 [u64 b, u64 v, u64 x] (.bool true) := by
  by_cases h0 : 0 < b
  · by_cases h : v < b
    · exact row_in b v x h hb hx
    · exact pure_of L0 200 _ (row_1 b v x) ⟨awake18, (Range_arg v b h0 (by omega)).soft rfl rfl, svb (eq0_false h0), svb (decide_eq_true (by omega)), trivial⟩ rfl rfl
  · obtain rfl : b = 0 := by omega
    exact (pure_of L0 200 _ (row_0 v x) ⟨awake18, (Range_zero v).soft rfl rfl, trivial⟩ rfl rfl).soft rfl rfl
end Go.Sx
