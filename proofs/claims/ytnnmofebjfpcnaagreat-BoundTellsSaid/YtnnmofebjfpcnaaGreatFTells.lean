/- BoundTells is proved: whatever word and whatever bound it is handed, both of 64 bits, the law answers true. No further condition. -/
import Derived.Test.YtnnmofebjfpcnaaGreatRows
import Derived.WalkKit
import Derived.ProofKit
import Derived.OpenShut
import Derived.ShutString
import Derived.ChangeOld
import Derived.Below
import Derived.JoinedOf
import Derived.KernelRfl
import Derived.Test.YtnnmofebjfpcnaaGreatKTells
namespace Go.Proofs.YtnnmofebjfpcnaaGreat.BoundTells
open Go.ChangeShapes Go.WideShapes Go.ChangeAt Go.RowKit
set_option linter.unusedVariables false

theorem own : ownKnob Tryz.prog.godebug = none := by kernel_rfl
theorem laidOut : laidOutB Tryz.prog = true := by kernel_rfl

/-- The law answers true, and what was there is as it was. -/
theorem walk (a0 : Nat) (a1 : Nat) (h0 : a0 < 18446744073709551616) (h1 : a1 < 18446744073709551616) (w : World) :
    Calls Tryz.prog 3 #[.int .u64 (a0 : Int), .int .u64 (a1 : Int)] w fun e w' => e = .returned (.bool true) ∧ Below w.heap.size w w' := by
  exact (Go.Sx.law_BoundTells a0 a1 h0 h1).calls (As := [.int .u64 (a0 : Int), .int .u64 (a1 : Int)]) (V := .bool true) rfl (fun _ => rfl) w

set_option maxRecDepth 100000 in
theorem lifted (os : Os) (started : os.Started) (H : Type) (enc : TypeId × Value → H) :
    ReturnsInHanded {} Tryz.checked os 3 .any (Rows.boundTellsSpec.pre6 enc Tryz.prog Tryz.f3 Rows.boundTellsRow.domain false) (Rows.boundTellsSpec.post enc Tryz.prog Tryz.f3 false true false false) := by
  refine returnsInHanded_of_change (C := Tryz.checked) own started (by kernel_rfl) Tryz.func3
    (ChangeSpec.witness6 (enc := enc) (C := Tryz.checked) false ⟨#[], #[.int .u64 0, .int .u64 0], []⟩ 8 (by kernel_rfl) (by kernel_rfl) (by kernel_rfl) (by kernel_rfl)) ?_
  intro W base args ds gs before hval0 hW hcnd _
  have hval : ∀ (j : Nat) t v, Tryz.f3.params[j]? = some t → args[j]? = some v → Value.okWide Tryz.prog W .any base t v := hval0
  have hW' := hW
  obtain ⟨p, q, hA0, hV, rfl, hfz, hnd⟩ := hW
  have hA : DataW.TrodAll enc Tryz.prog W 0 (fun _ => true) true Tryz.f3.params.toList args.toList ds p := hA0
  rw [Tryz.params3] at hA hval
  obtain ⟨v0, vs0, d0, ds0, p0, q0, hargs, rfl, rfl, e0, r0⟩ := trodAll_cons hA
  obtain ⟨v1, vs1, d1, ds1, p1, q1, rfl, rfl, rfl, e1, r1⟩ := trodAll_cons r0
  obtain ⟨rfl, rfl, rfl⟩ := trodAll_nil r1
  obtain rfl : args = #[v0, v1] := by cases args; simp_all
  obtain ⟨rfl, rfl⟩ := trodVars_none hV
  obtain ⟨a0, rfl, rfl, rfl, w0⟩ := open_int Tryz.underlying22 (hval 0 22 v0 rfl rfl) e0
  have b0 := bounds_u64 w0
  obtain ⟨n0, rfl⟩ := Int.eq_ofNat_of_zero_le b0.1
  obtain ⟨a1, rfl, rfl, rfl, w1⟩ := open_int Tryz.underlying22 (hval 1 22 v1 rfl rfl) e1
  have b1 := bounds_u64 w1
  obtain ⟨n1, rfl⟩ := Int.eq_ofNat_of_zero_le b1.1
  clear hA0 hval0
  refine (walk n0 n1 (by omega) (by omega) W).mono fun e W' ⟨he, bel⟩ => ?_
  subst he
  exact ⟨_, rfl, _, _, _, [], _, [], hW', trodAll_mk1 (shut_bool Tryz.underlying4 _), (trodAll_cons_mk (shut_int Tryz.underlying22 w0) (trodAll_cons_mk (shut_int Tryz.underlying22 w1) trodAll_mk0)), rfl, bel.frame _, fun h => by cases h⟩

theorem h_inPlace : (Rows.boundTellsRow.inPlace == Tryz.prog.inPlace 3) = true := by kernel_rfl

theorem h_unfollowed : (Rows.boundTellsRow.unfollowed == Tryz.prog.unfollowed 3) = true := by kernel_rfl

theorem h_recurses : (Rows.boundTellsRow.recurses == Tryz.prog.recurses 3) = true := by kernel_rfl

theorem h_named : (Rows.boundTellsRow.named == Tryz.prog.varsNamed 3) = true := by kernel_rfl

theorem closed : joinedFacts Tryz.prog 3 Tryz.f3 Rows.boundTellsSpec Rows.boundTellsRow = true := by
  unfold joinedFacts
  rw [h_inPlace, h_unfollowed, h_recurses, h_named]
  kernel_rfl
theorem wrapper : Tryz.f3.isWrapper Tryz.prog Rows.boundTellsRow.wrapper Rows.boundTellsRow.mainSum := by
  unfold Func.isWrapper; rw [if_neg (of_decide_eq_false (by kernel_rfl))]; exact ⟨rfl, rfl⟩
theorem instance_ : Tryz.f3.isInstance Tryz.prog Rows.boundTellsRow.origin Rows.boundTellsRow.targs := of_decide_eq_true (by kernel_rfl)
theorem named_ : Tryz.prog.funcNamed Rows.boundTellsRow.func = some 3 := by kernel_rfl

theorem over : Rows.boundTellsRow.holds Tryz.pinned (OpenSpec.ofChange Rows.boundTellsSpec) :=
  OpenClaim.holds_of_wide (p := Tryz.pinned) 3 Tryz.f3 rfl rfl rfl rfl rfl rfl rfl ⟨rfl, rfl, rfl, rfl, rfl⟩ rfl rfl rfl rfl rfl named_ Tryz.func3 closed
    instance_ wrapper (fun os started H enc _ => lifted os started H enc)

/-- The given statement. -/
theorem proved : Rows.BoundTellsSaid := over
end Go.Proofs.YtnnmofebjfpcnaaGreat.BoundTells
