/- BoundRow is proved: whatever bound, number and word it is handed, each of 64 bits, the law answers true. No further condition. -/
import Derived.Test.YtnnmofebjfpcnaaGreatRows
import Derived.WalkKit
import Derived.ProofKit
import Derived.OpenShut
import Derived.ShutString
import Derived.ChangeOld
import Derived.Below
import Derived.JoinedOf
import Derived.KernelRfl
import Derived.Test.YtnnmofebjfpcnaaGreatKRow
set_option linter.unusedVariables false
set_option linter.unusedSimpArgs false

namespace Go.Proofs.YtnnmofebjfpcnaaGreat.BoundRow
open Go.ChangeShapes Go.WideShapes Go.ChangeAt Go.RowKit
set_option linter.unusedVariables false

theorem own : ownKnob Tryz.prog.godebug = none := by kernel_rfl
theorem laidOut : laidOutB Tryz.prog = true := by kernel_rfl

/-- The law answers true, and what was there is as it was. -/
theorem walk (a0 : Nat) (a1 : Nat) (a2 : Nat) (h0 : a0 < 18446744073709551616) (h1 : a1 < 18446744073709551616) (h2 : a2 < 18446744073709551616) (w : World) :
    Calls Tryz.prog 4 #[.int .u64 (a0 : Int), .int .u64 (a1 : Int), .int .u64 (a2 : Int)] w fun e w' => e = .returned (.bool true) ∧ Below w.heap.size w w' := by
  exact (Go.Sx.law_BoundRow a0 a1 a2 h0 h1 h2).calls (As := [.int .u64 (a0 : Int), .int .u64 (a1 : Int), .int .u64 (a2 : Int)]) (V := .bool true) rfl (fun _ => rfl) w

set_option maxRecDepth 100000 in
theorem lifted (os : Os) (started : os.Started) (H : Type) (enc : TypeId × Value → H) :
    ReturnsInHanded {} Tryz.checked os 4 .any (Rows.boundRowSpec.pre6 enc Tryz.prog Tryz.f4 Rows.boundRowRow.domain false) (Rows.boundRowSpec.post enc Tryz.prog Tryz.f4 false true false false) := by
  refine returnsInHanded_of_change (C := Tryz.checked) own started (by kernel_rfl) Tryz.func4
    (ChangeSpec.witness6 (enc := enc) (C := Tryz.checked) false ⟨#[], #[.int .u64 0, .int .u64 0, .int .u64 0], []⟩ 8 (by kernel_rfl) (by kernel_rfl) (by kernel_rfl) (by kernel_rfl)) ?_
  intro W base args ds gs before hval0 hW hcnd _
  have hval : ∀ (j : Nat) t v, Tryz.f4.params[j]? = some t → args[j]? = some v → Value.okWide Tryz.prog W .any base t v := hval0
  have hW' := hW
  obtain ⟨p, q, hA0, hV, rfl, hfz, hnd⟩ := hW
  have hA : DataW.TrodAll enc Tryz.prog W 0 (fun _ => true) true Tryz.f4.params.toList args.toList ds p := hA0
  rw [Tryz.params4] at hA hval
  obtain ⟨v0, vs0, d0, ds0, p0, q0, hargs, rfl, rfl, e0, r0⟩ := trodAll_cons hA
  obtain ⟨v1, vs1, d1, ds1, p1, q1, rfl, rfl, rfl, e1, r1⟩ := trodAll_cons r0
  obtain ⟨v2, vs2, d2, ds2, p2, q2, rfl, rfl, rfl, e2, r2⟩ := trodAll_cons r1
  obtain ⟨rfl, rfl, rfl⟩ := trodAll_nil r2
  obtain rfl : args = #[v0, v1, v2] := by cases args; simp_all
  obtain ⟨rfl, rfl⟩ := trodVars_none hV
  obtain ⟨a0, rfl, rfl, rfl, w0⟩ := open_int Tryz.underlying22 (hval 0 22 v0 rfl rfl) e0
  have b0 := bounds_u64 w0
  obtain ⟨n0, rfl⟩ := Int.eq_ofNat_of_zero_le b0.1
  obtain ⟨a1, rfl, rfl, rfl, w1⟩ := open_int Tryz.underlying22 (hval 1 22 v1 rfl rfl) e1
  have b1 := bounds_u64 w1
  obtain ⟨n1, rfl⟩ := Int.eq_ofNat_of_zero_le b1.1
  obtain ⟨a2, rfl, rfl, rfl, w2⟩ := open_int Tryz.underlying22 (hval 2 22 v2 rfl rfl) e2
  have b2 := bounds_u64 w2
  obtain ⟨n2, rfl⟩ := Int.eq_ofNat_of_zero_le b2.1
  clear hA0 hval0
  refine (walk n0 n1 n2 (by omega) (by omega) (by omega) W).mono fun e W' ⟨he, bel⟩ => ?_
  subst he
  exact ⟨_, rfl, _, _, _, [], _, [], hW', trodAll_mk1 (shut_bool Tryz.underlying4 _), (trodAll_cons_mk (shut_int Tryz.underlying22 w0) (trodAll_cons_mk (shut_int Tryz.underlying22 w1) (trodAll_cons_mk (shut_int Tryz.underlying22 w2) trodAll_mk0))), rfl, bel.frame _, fun h => by cases h⟩

theorem h_inPlace : (Rows.boundRowRow.inPlace == Tryz.prog.inPlace 4) = true := by kernel_rfl

theorem h_unfollowed : (Rows.boundRowRow.unfollowed == Tryz.prog.unfollowed 4) = true := by kernel_rfl

theorem h_recurses : (Rows.boundRowRow.recurses == Tryz.prog.recurses 4) = true := by kernel_rfl

theorem h_named : (Rows.boundRowRow.named == Tryz.prog.varsNamed 4) = true := by kernel_rfl

theorem closed : joinedFacts Tryz.prog 4 Tryz.f4 Rows.boundRowSpec Rows.boundRowRow = true := by
  unfold joinedFacts
  rw [h_inPlace, h_unfollowed, h_recurses, h_named]
  kernel_rfl
theorem wrapper : Tryz.f4.isWrapper Tryz.prog Rows.boundRowRow.wrapper Rows.boundRowRow.mainSum := by
  unfold Func.isWrapper; rw [if_neg (of_decide_eq_false (by kernel_rfl))]; exact ⟨rfl, rfl⟩
theorem instance_ : Tryz.f4.isInstance Tryz.prog Rows.boundRowRow.origin Rows.boundRowRow.targs := of_decide_eq_true (by kernel_rfl)
theorem named_ : Tryz.prog.funcNamed Rows.boundRowRow.func = some 4 := by kernel_rfl

theorem over : Rows.boundRowRow.holds Tryz.pinned (OpenSpec.ofChange Rows.boundRowSpec) :=
  OpenClaim.holds_of_wide (p := Tryz.pinned) 4 Tryz.f4 rfl rfl rfl rfl rfl rfl rfl ⟨rfl, rfl, rfl, rfl, rfl⟩ rfl rfl rfl rfl rfl named_ Tryz.func4 closed
    instance_ wrapper (fun os started H enc _ => lifted os started H enc)

/-- The given statement. -/
theorem proved : Rows.BoundRowSaid := over
end Go.Proofs.YtnnmofebjfpcnaaGreat.BoundRow
