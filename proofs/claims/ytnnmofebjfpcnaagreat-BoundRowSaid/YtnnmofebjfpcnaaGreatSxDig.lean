/- Part of an executor of given code on symbolic values, with its proof of soundness: what is proved stands in each theorem. -/
import Derived.Test.YtnnmofebjfpcnaaGreatSxCut
import Derived.Test.YtnnmofebjfpcnaaGreatSxArith
import Derived.Test.YtnnmofebjfpcnaaGreatPlDiv
set_option linter.unusedVariables false
set_option linter.unusedSimpArgs false

namespace Go.Sx
open Go.RowKit

section
variable {P : Program} {D : Dat} {b : Nat}

theorem loop_end {c : Code} {s s' : St} {e : Ex} (h : CodeOK P b c s s' e) (he : e ≠ .normal) : CodeOK P b (.loop c) s s' e :=
  loop_rule (fun _ => s) 0 0 (fun i _ h2 => absurd h2 (by omega)) h he
theorem loop_more {c : Code} {s s1 s' : St} {e : Ex} (h1 : CodeOK P b c s s1 .normal) (h2 : CodeOK P b c s1 s' e) (he : e ≠ .normal) : CodeOK P b (.loop c) s s' e :=
  loop_rule (fun i => match i with | 0 => s | _ + 1 => s1) 1 0 (fun i _ hi => by
    obtain rfl : i = 0 := by omega
    exact h1) h2 he
/-- A piece of code over a state with no memory. -/
theorem see0 (hL : LOK P D) {c : Code} {s : St} {e : Ex} {L : Nat} {sl : List (Nat × SV)} (n nx : Nat) (ds : Ds) {vs : List (Option SV)} {o : List Prop}
    (hv : view b (sl.map (·.1)) [] [] (runCode P D n b c s nx ds) = some (⟨e, L, vs, [], true⟩, o)) (ho : All o)
    (hvs : matchT (tau []) sl vs) (hnt : nmSl [] sl = true) : CodeOK P b c s ⟨mkT L sl, []⟩ e :=
  code_see hL [] n nx ds (hp := []) hv ho hvs trivial hnt trivial rfl rfl
theorem canon0 {s1 : St} {L : Nat} {sl : List (Nat × SV)} (hl : s1.t.length = L) (hh : s1.h = []) (hts : matchT (tau []) sl (tgets s1.t (sl.map (·.1)))) (hnt : nmSl [] sl = true) : Canon b s1 ⟨mkT L sl, []⟩ :=
  canon_of [] (hp := []) ⟨hl, by rw [hh]; rfl, hts, by rw [hh]; trivial⟩ hnt trivial rfl rfl

theorem strong0 {c : Code} {s0 s1 : St} {e : Ex} {L : Nat} {sl : List (Nat × SV)} (h : CodeOK P b c ⟨mkT L sl, []⟩ s1 e) (hl : s0.t.length = L) (hh : s0.h = []) (hts : matchT (tau []) sl (tgets s0.t (sl.map (·.1)))) (hnt : nmSl [] sl = true) : CodeOK P b c s0 s1 e :=
  CodeOK.strengthen (canon0 hl hh hts hnt) h

open Dv in
/-- One digit of a quotient: guessed, then put right by at most two. -/
theorem digit {c : Code} {k : Nat} (σ : Nat → Nat → St) (fin : Nat → St) {u y d : Nat} (hu : u < y) (hd : d < 4294967296) (ha : 2147483648 ≤ y / 4294967296) (hy : y < 18446744073709551616)
    (RN : ∀ q r, 0 < q → q ≤ 4294967297 → r < 4294967296 → (4294967296 ≤ q ∨ 4294967296 * r + d < q * (y % 4294967296)) → r + y / 4294967296 < 4294967296 → CodeOK P b c (σ q r) (σ (q - 1) (r + y / 4294967296)) .normal)
    (RE : ∀ q r, 0 < q → q ≤ 4294967297 → r < 4294967296 → (4294967296 ≤ q ∨ 4294967296 * r + d < q * (y % 4294967296)) → 4294967296 ≤ r + y / 4294967296 → CodeOK P b c (σ q r) (fin (q - 1)) (.exit k))
    (ST : ∀ q r, q < 4294967296 → r < 4294967296 → q * (y % 4294967296) ≤ 4294967296 * r + d → CodeOK P b c (σ q r) (fin q) (.exit k)) :
    CodeOK P b (.loop c) (σ (u / (y / 4294967296)) (u % (y / 4294967296))) (fin (Q u y d)) (.exit k) := by
  have h0 : 0 < y := by omega
  have ha0 : 0 < y / 4294967296 := by omega
  have haB : y / 4294967296 < 4294967296 := by omega
  have hge := (Dv.guess_ge (d := d) ha0 hu).resolve_right (by omega)
  have hle := Dv.guess_le ha hu
  have hQB := Dv.Q_lt_B hu hd
  have hr := Nat.mod_lt u ha0
  have he : u / (y / 4294967296) * (y / 4294967296) + u % (y / 4294967296) = u := by rw [Nat.mul_comm]; exact Nat.div_add_mod _ _
  have hseen := fun q r h1 h2 h3 => Dv.seen (d := d) (q := q) (r := r) (u := u) (y := y) h1 h0 h2 h3
  have hlet := fun r h1 => Dv.let_by (d := d) (r := r) (u := u) (y := y) h0 h1
  have hdone := fun q r h1 h2 h3 => Dv.done (d := d) (q := q) (r := r) (u := u) (y := y) h0 h1 h2 h3
  generalize hA : y / 4294967296 = a at *
  generalize hM : y % 4294967296 = m at *
  generalize u / a = q0 at *
  generalize u % a = r0 at *
  generalize Q u y d = q at *
  have hsub : ∀ p, 0 < p → (p - 1) * a + a = p * a := fun p hp => by
    have := Nat.succ_mul (p - 1) a
    rw [← this]; congr 1; omega
  have hx : (Ex.exit k) ≠ .normal := by intro h; cases h
  by_cases h1 : q = q0
  · subst h1
    exact loop_end (ST q r0 hQB (by omega) (hlet r0 he)) hx
  · have hlt : q < q0 := by omega
    have e1 := hsub q0 (by omega)
    have c1 : 4294967296 ≤ q0 ∨ 4294967296 * r0 + d < q0 * m := by
      by_cases h2 : 4294967296 ≤ q0
      · exact .inl h2
      · exact .inr (hseen q0 r0 he hlt (by omega))
    by_cases h2 : 4294967296 ≤ r0 + a
    · have h3 := hdone (q0 - 1) (r0 + a) (by omega) h2 (by omega)
      have h4 : q0 - 1 = q := by omega
      have := RE q0 r0 (by omega) hle (by omega) c1 h2
      rw [h4] at this
      exact loop_end this hx
    · have n1 := RN q0 r0 (by omega) hle (by omega) c1 (by omega)
      by_cases h3 : q = q0 - 1
      · have := ST (q0 - 1) (r0 + a) (by omega) (by omega) (by rw [← h3]; exact hlet (r0 + a) (by rw [h3]; omega))
        rw [← h3] at this n1
        exact loop_more n1 this hx
      · have e2 := hsub (q0 - 1) (by omega)
        have c2 : 4294967296 ≤ q0 - 1 ∨ 4294967296 * (r0 + a) + d < (q0 - 1) * m := by
          by_cases h4 : 4294967296 ≤ q0 - 1
          · exact .inl h4
          · exact .inr (hseen (q0 - 1) (r0 + a) (by omega) (by omega) (by omega))
        have h5 := hdone (q0 - 1 - 1) (r0 + a + a) (by omega) (by omega) (by omega)
        have h6 : q0 - 1 - 1 = q := by omega
        have := RE (q0 - 1) (r0 + a) (by omega) (by omega) (by omega) c2 (by omega)
        rw [h6] at this
        exact loop_more n1 this hx
end
end Go.Sx
