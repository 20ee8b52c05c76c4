/- What functions of the program answer: contracts, each proved by the executor. -/
import Derived.Test.YtnnmofebjfpcnaaGreatSeatD
import Derived.Test.YtnnmofebjfpcnaaGreatSxDig
import Derived.Test.YtnnmofebjfpcnaaGreatKLen
set_option linter.unusedVariables false
set_option linter.unusedSimpArgs false

namespace Go.Sx
open Go.Proofs
set_option maxRecDepth 100000
theorem lp1_tn (ys : Nat) (s : Nat) (a : Nat) (m : Nat) (u : Nat) (d1 : Nat) (d0 : Nat) (q : Nat) (r : Nat) (q2 : Nat) (r2 : Nat) : view (0 : Nat) [(2 : Nat), (8 : Nat), (9 : Nat), (10 : Nat), (11 : Nat), (13 : Nat), (14 : Nat), (15 : Nat), (16 : Nat)]
  [] []
  (runCode Tryz.prog D0 (100 : Nat) (0 : Nat) (loopB Tryz.prog (34 : Nat) (0 : Nat))
    {
      t :=
        mkT (135 : Nat)
          [((2 : Nat), u64 ys), ((8 : Nat), u64 s), ((9 : Nat), u64 a), ((10 : Nat), u64 m), ((11 : Nat), u64 u),
            ((13 : Nat), u64 d1), ((14 : Nat), u64 d0), ((15 : Nat), u64 q), ((16 : Nat), u64 r)],
      h := [] }
    (0 : Nat)
    [DE.op (68 : Nat) (Dir.eqv (SV.bool true)), DE.op (80 : Nat) (Dir.eqv (u64 q2)),
      DE.op (83 : Nat) (Dir.eqv (u64 r2)), DE.op (85 : Nat) (Dir.eqv (SV.bool false))]) =
  some
  ({ e := Ex.normal, len := (135 : Nat),
      vs :=
        [some (SV.int IntKind.u64 (↑ys : Int)), some (SV.int IntKind.u64 (↑s : Int)),
          some (SV.int IntKind.u64 (↑a : Int)), some (SV.int IntKind.u64 (↑m : Int)),
          some (SV.int IntKind.u64 (↑u : Int)), some (SV.int IntKind.u64 (↑d1 : Int)),
          some (SV.int IntKind.u64 (↑d0 : Int)), some (SV.int IntKind.u64 (↑q2 : Int)),
          some (SV.int IntKind.u64 (↑r2 : Int))],
      es := [], low := true },
    [SV.bool (decide ((↑q : Int) ≥ (4294967296 : Int))) = SV.bool true,
      SV.int IntKind.u64 (IntKind.u64.wrap ((↑q : Int) - (1 : Int))) = SV.int IntKind.u64 (↑q2 : Int),
      SV.int IntKind.u64 (IntKind.u64.wrap ((↑r : Int) + (↑a : Int))) = SV.int IntKind.u64 (↑r2 : Int),
      SV.bool (decide ((↑r2 : Int) ≥ (4294967296 : Int))) = SV.bool false]) := by kernel_rfl

theorem lp1_te (ys : Nat) (s : Nat) (a : Nat) (m : Nat) (u : Nat) (d1 : Nat) (d0 : Nat) (q : Nat) (r : Nat) (q2 : Nat) (r2 : Nat) : view (0 : Nat) [(2 : Nat), (8 : Nat), (9 : Nat), (10 : Nat), (11 : Nat), (13 : Nat), (14 : Nat), (15 : Nat)] [] []
  (runCode Tryz.prog D0 (100 : Nat) (0 : Nat) (loopB Tryz.prog (34 : Nat) (0 : Nat))
    {
      t :=
        mkT (135 : Nat)
          [((2 : Nat), u64 ys), ((8 : Nat), u64 s), ((9 : Nat), u64 a), ((10 : Nat), u64 m), ((11 : Nat), u64 u),
            ((13 : Nat), u64 d1), ((14 : Nat), u64 d0), ((15 : Nat), u64 q), ((16 : Nat), u64 r)],
      h := [] }
    (0 : Nat)
    [DE.op (68 : Nat) (Dir.eqv (SV.bool true)), DE.op (80 : Nat) (Dir.eqv (u64 q2)),
      DE.op (83 : Nat) (Dir.eqv (u64 r2)), DE.op (85 : Nat) (Dir.eqv (SV.bool true))]) =
  some
  ({ e := Ex.exit (0 : Nat), len := (135 : Nat),
      vs :=
        [some (SV.int IntKind.u64 (↑ys : Int)), some (SV.int IntKind.u64 (↑s : Int)),
          some (SV.int IntKind.u64 (↑a : Int)), some (SV.int IntKind.u64 (↑m : Int)),
          some (SV.int IntKind.u64 (↑u : Int)), some (SV.int IntKind.u64 (↑d1 : Int)),
          some (SV.int IntKind.u64 (↑d0 : Int)), some (SV.int IntKind.u64 (↑q2 : Int))],
      es := [], low := true },
    [SV.bool (decide ((↑q : Int) ≥ (4294967296 : Int))) = SV.bool true,
      SV.int IntKind.u64 (IntKind.u64.wrap ((↑q : Int) - (1 : Int))) = SV.int IntKind.u64 (↑q2 : Int),
      SV.int IntKind.u64 (IntKind.u64.wrap ((↑r : Int) + (↑a : Int))) = SV.int IntKind.u64 (↑r2 : Int),
      SV.bool (decide ((↑r2 : Int) ≥ (4294967296 : Int))) = SV.bool true]) := by kernel_rfl

theorem lp1_fn (ys : Nat) (s : Nat) (a : Nat) (m : Nat) (u : Nat) (d1 : Nat) (d0 : Nat) (q : Nat) (r : Nat) (q2 : Nat) (r2 : Nat) : view (0 : Nat) [(2 : Nat), (8 : Nat), (9 : Nat), (10 : Nat), (11 : Nat), (13 : Nat), (14 : Nat), (15 : Nat), (16 : Nat)]
  [] []
  (runCode Tryz.prog D0 (100 : Nat) (0 : Nat) (loopB Tryz.prog (34 : Nat) (0 : Nat))
    {
      t :=
        mkT (135 : Nat)
          [((2 : Nat), u64 ys), ((8 : Nat), u64 s), ((9 : Nat), u64 a), ((10 : Nat), u64 m), ((11 : Nat), u64 u),
            ((13 : Nat), u64 d1), ((14 : Nat), u64 d0), ((15 : Nat), u64 q), ((16 : Nat), u64 r)],
      h := [] }
    (0 : Nat)
    [DE.op (68 : Nat) (Dir.eqv (SV.bool false)), DE.op (77 : Nat) (Dir.eqv (SV.bool true)),
      DE.op (80 : Nat) (Dir.eqv (u64 q2)), DE.op (83 : Nat) (Dir.eqv (u64 r2)),
      DE.op (85 : Nat) (Dir.eqv (SV.bool false))]) =
  some
  ({ e := Ex.normal, len := (135 : Nat),
      vs :=
        [some (SV.int IntKind.u64 (↑ys : Int)), some (SV.int IntKind.u64 (↑s : Int)),
          some (SV.int IntKind.u64 (↑a : Int)), some (SV.int IntKind.u64 (↑m : Int)),
          some (SV.int IntKind.u64 (↑u : Int)), some (SV.int IntKind.u64 (↑d1 : Int)),
          some (SV.int IntKind.u64 (↑d0 : Int)), some (SV.int IntKind.u64 (↑q2 : Int)),
          some (SV.int IntKind.u64 (↑r2 : Int))],
      es := [], low := true },
    [SV.bool (decide ((↑q : Int) ≥ (4294967296 : Int))) = SV.bool false,
      SV.bool
          (decide
            (IntKind.u64.wrap ((↑q : Int) * (↑m : Int)) >
              IntKind.u64.wrap (IntKind.u64.wrap ((4294967296 : Int) * (↑r : Int)) + (↑d1 : Int)))) =
        SV.bool true,
      SV.int IntKind.u64 (IntKind.u64.wrap ((↑q : Int) - (1 : Int))) = SV.int IntKind.u64 (↑q2 : Int),
      SV.int IntKind.u64 (IntKind.u64.wrap ((↑r : Int) + (↑a : Int))) = SV.int IntKind.u64 (↑r2 : Int),
      SV.bool (decide ((↑r2 : Int) ≥ (4294967296 : Int))) = SV.bool false]) := by kernel_rfl

theorem lp1_fe (ys : Nat) (s : Nat) (a : Nat) (m : Nat) (u : Nat) (d1 : Nat) (d0 : Nat) (q : Nat) (r : Nat) (q2 : Nat) (r2 : Nat) : view (0 : Nat) [(2 : Nat), (8 : Nat), (9 : Nat), (10 : Nat), (11 : Nat), (13 : Nat), (14 : Nat), (15 : Nat)] [] []
  (runCode Tryz.prog D0 (100 : Nat) (0 : Nat) (loopB Tryz.prog (34 : Nat) (0 : Nat))
    {
      t :=
        mkT (135 : Nat)
          [((2 : Nat), u64 ys), ((8 : Nat), u64 s), ((9 : Nat), u64 a), ((10 : Nat), u64 m), ((11 : Nat), u64 u),
            ((13 : Nat), u64 d1), ((14 : Nat), u64 d0), ((15 : Nat), u64 q), ((16 : Nat), u64 r)],
      h := [] }
    (0 : Nat)
    [DE.op (68 : Nat) (Dir.eqv (SV.bool false)), DE.op (77 : Nat) (Dir.eqv (SV.bool true)),
      DE.op (80 : Nat) (Dir.eqv (u64 q2)), DE.op (83 : Nat) (Dir.eqv (u64 r2)),
      DE.op (85 : Nat) (Dir.eqv (SV.bool true))]) =
  some
  ({ e := Ex.exit (0 : Nat), len := (135 : Nat),
      vs :=
        [some (SV.int IntKind.u64 (↑ys : Int)), some (SV.int IntKind.u64 (↑s : Int)),
          some (SV.int IntKind.u64 (↑a : Int)), some (SV.int IntKind.u64 (↑m : Int)),
          some (SV.int IntKind.u64 (↑u : Int)), some (SV.int IntKind.u64 (↑d1 : Int)),
          some (SV.int IntKind.u64 (↑d0 : Int)), some (SV.int IntKind.u64 (↑q2 : Int))],
      es := [], low := true },
    [SV.bool (decide ((↑q : Int) ≥ (4294967296 : Int))) = SV.bool false,
      SV.bool
          (decide
            (IntKind.u64.wrap ((↑q : Int) * (↑m : Int)) >
              IntKind.u64.wrap (IntKind.u64.wrap ((4294967296 : Int) * (↑r : Int)) + (↑d1 : Int)))) =
        SV.bool true,
      SV.int IntKind.u64 (IntKind.u64.wrap ((↑q : Int) - (1 : Int))) = SV.int IntKind.u64 (↑q2 : Int),
      SV.int IntKind.u64 (IntKind.u64.wrap ((↑r : Int) + (↑a : Int))) = SV.int IntKind.u64 (↑r2 : Int),
      SV.bool (decide ((↑r2 : Int) ≥ (4294967296 : Int))) = SV.bool true]) := by kernel_rfl

theorem lp1_s (ys : Nat) (s : Nat) (a : Nat) (m : Nat) (u : Nat) (d1 : Nat) (d0 : Nat) (q : Nat) (r : Nat) : view (0 : Nat) [(2 : Nat), (8 : Nat), (9 : Nat), (10 : Nat), (11 : Nat), (13 : Nat), (14 : Nat), (15 : Nat)] [] []
  (runCode Tryz.prog D0 (100 : Nat) (0 : Nat) (loopB Tryz.prog (34 : Nat) (0 : Nat))
    {
      t :=
        mkT (135 : Nat)
          [((2 : Nat), u64 ys), ((8 : Nat), u64 s), ((9 : Nat), u64 a), ((10 : Nat), u64 m), ((11 : Nat), u64 u),
            ((13 : Nat), u64 d1), ((14 : Nat), u64 d0), ((15 : Nat), u64 q), ((16 : Nat), u64 r)],
      h := [] }
    (0 : Nat) [DE.op (68 : Nat) (Dir.eqv (SV.bool false)), DE.op (77 : Nat) (Dir.eqv (SV.bool false))]) =
  some
  ({ e := Ex.exit (0 : Nat), len := (135 : Nat),
      vs :=
        [some (SV.int IntKind.u64 (↑ys : Int)), some (SV.int IntKind.u64 (↑s : Int)),
          some (SV.int IntKind.u64 (↑a : Int)), some (SV.int IntKind.u64 (↑m : Int)),
          some (SV.int IntKind.u64 (↑u : Int)), some (SV.int IntKind.u64 (↑d1 : Int)),
          some (SV.int IntKind.u64 (↑d0 : Int)), some (SV.int IntKind.u64 (↑q : Int))],
      es := [], low := true },
    [SV.bool (decide ((↑q : Int) ≥ (4294967296 : Int))) = SV.bool false,
      SV.bool
          (decide
            (IntKind.u64.wrap ((↑q : Int) * (↑m : Int)) >
              IntKind.u64.wrap (IntKind.u64.wrap ((4294967296 : Int) * (↑r : Int)) + (↑d1 : Int)))) =
        SV.bool false]) := by kernel_rfl

theorem lp2_tn (ys : Nat) (s : Nat) (a : Nat) (m : Nat) (d0 : Nat) (q1 : Nat) (v : Nat) (q : Nat) (r : Nat) (q2 : Nat) (r2 : Nat) : view (0 : Nat) [(2 : Nat), (8 : Nat), (9 : Nat), (10 : Nat), (14 : Nat), (15 : Nat), (17 : Nat), (18 : Nat), (16 : Nat)]
  [] []
  (runCode Tryz.prog D0 (100 : Nat) (0 : Nat) (loopB Tryz.prog (34 : Nat) (1 : Nat))
    {
      t :=
        mkT (135 : Nat)
          [((2 : Nat), u64 ys), ((8 : Nat), u64 s), ((9 : Nat), u64 a), ((10 : Nat), u64 m), ((14 : Nat), u64 d0),
            ((15 : Nat), u64 q1), ((17 : Nat), u64 v), ((18 : Nat), u64 q), ((16 : Nat), u64 r)],
      h := [] }
    (0 : Nat)
    [DE.op (103 : Nat) (Dir.eqv (SV.bool true)), DE.op (115 : Nat) (Dir.eqv (u64 q2)),
      DE.op (118 : Nat) (Dir.eqv (u64 r2)), DE.op (120 : Nat) (Dir.eqv (SV.bool false))]) =
  some
  ({ e := Ex.normal, len := (135 : Nat),
      vs :=
        [some (SV.int IntKind.u64 (↑ys : Int)), some (SV.int IntKind.u64 (↑s : Int)),
          some (SV.int IntKind.u64 (↑a : Int)), some (SV.int IntKind.u64 (↑m : Int)),
          some (SV.int IntKind.u64 (↑d0 : Int)), some (SV.int IntKind.u64 (↑q1 : Int)),
          some (SV.int IntKind.u64 (↑v : Int)), some (SV.int IntKind.u64 (↑q2 : Int)),
          some (SV.int IntKind.u64 (↑r2 : Int))],
      es := [], low := true },
    [SV.bool (decide ((↑q : Int) ≥ (4294967296 : Int))) = SV.bool true,
      SV.int IntKind.u64 (IntKind.u64.wrap ((↑q : Int) - (1 : Int))) = SV.int IntKind.u64 (↑q2 : Int),
      SV.int IntKind.u64 (IntKind.u64.wrap ((↑r : Int) + (↑a : Int))) = SV.int IntKind.u64 (↑r2 : Int),
      SV.bool (decide ((↑r2 : Int) ≥ (4294967296 : Int))) = SV.bool false]) := by kernel_rfl

theorem lp2_te (ys : Nat) (s : Nat) (a : Nat) (m : Nat) (d0 : Nat) (q1 : Nat) (v : Nat) (q : Nat) (r : Nat) (q2 : Nat) (r2 : Nat) : view (0 : Nat) [(2 : Nat), (8 : Nat), (9 : Nat), (10 : Nat), (14 : Nat), (15 : Nat), (17 : Nat), (18 : Nat)] [] []
  (runCode Tryz.prog D0 (100 : Nat) (0 : Nat) (loopB Tryz.prog (34 : Nat) (1 : Nat))
    {
      t :=
        mkT (135 : Nat)
          [((2 : Nat), u64 ys), ((8 : Nat), u64 s), ((9 : Nat), u64 a), ((10 : Nat), u64 m), ((14 : Nat), u64 d0),
            ((15 : Nat), u64 q1), ((17 : Nat), u64 v), ((18 : Nat), u64 q), ((16 : Nat), u64 r)],
      h := [] }
    (0 : Nat)
    [DE.op (103 : Nat) (Dir.eqv (SV.bool true)), DE.op (115 : Nat) (Dir.eqv (u64 q2)),
      DE.op (118 : Nat) (Dir.eqv (u64 r2)), DE.op (120 : Nat) (Dir.eqv (SV.bool true))]) =
  some
  ({ e := Ex.exit (2 : Nat), len := (135 : Nat),
      vs :=
        [some (SV.int IntKind.u64 (↑ys : Int)), some (SV.int IntKind.u64 (↑s : Int)),
          some (SV.int IntKind.u64 (↑a : Int)), some (SV.int IntKind.u64 (↑m : Int)),
          some (SV.int IntKind.u64 (↑d0 : Int)), some (SV.int IntKind.u64 (↑q1 : Int)),
          some (SV.int IntKind.u64 (↑v : Int)), some (SV.int IntKind.u64 (↑q2 : Int))],
      es := [], low := true },
    [SV.bool (decide ((↑q : Int) ≥ (4294967296 : Int))) = SV.bool true,
      SV.int IntKind.u64 (IntKind.u64.wrap ((↑q : Int) - (1 : Int))) = SV.int IntKind.u64 (↑q2 : Int),
      SV.int IntKind.u64 (IntKind.u64.wrap ((↑r : Int) + (↑a : Int))) = SV.int IntKind.u64 (↑r2 : Int),
      SV.bool (decide ((↑r2 : Int) ≥ (4294967296 : Int))) = SV.bool true]) := by kernel_rfl

theorem lp2_fn (ys : Nat) (s : Nat) (a : Nat) (m : Nat) (d0 : Nat) (q1 : Nat) (v : Nat) (q : Nat) (r : Nat) (q2 : Nat) (r2 : Nat) : view (0 : Nat) [(2 : Nat), (8 : Nat), (9 : Nat), (10 : Nat), (14 : Nat), (15 : Nat), (17 : Nat), (18 : Nat), (16 : Nat)]
  [] []
  (runCode Tryz.prog D0 (100 : Nat) (0 : Nat) (loopB Tryz.prog (34 : Nat) (1 : Nat))
    {
      t :=
        mkT (135 : Nat)
          [((2 : Nat), u64 ys), ((8 : Nat), u64 s), ((9 : Nat), u64 a), ((10 : Nat), u64 m), ((14 : Nat), u64 d0),
            ((15 : Nat), u64 q1), ((17 : Nat), u64 v), ((18 : Nat), u64 q), ((16 : Nat), u64 r)],
      h := [] }
    (0 : Nat)
    [DE.op (103 : Nat) (Dir.eqv (SV.bool false)), DE.op (112 : Nat) (Dir.eqv (SV.bool true)),
      DE.op (115 : Nat) (Dir.eqv (u64 q2)), DE.op (118 : Nat) (Dir.eqv (u64 r2)),
      DE.op (120 : Nat) (Dir.eqv (SV.bool false))]) =
  some
  ({ e := Ex.normal, len := (135 : Nat),
      vs :=
        [some (SV.int IntKind.u64 (↑ys : Int)), some (SV.int IntKind.u64 (↑s : Int)),
          some (SV.int IntKind.u64 (↑a : Int)), some (SV.int IntKind.u64 (↑m : Int)),
          some (SV.int IntKind.u64 (↑d0 : Int)), some (SV.int IntKind.u64 (↑q1 : Int)),
          some (SV.int IntKind.u64 (↑v : Int)), some (SV.int IntKind.u64 (↑q2 : Int)),
          some (SV.int IntKind.u64 (↑r2 : Int))],
      es := [], low := true },
    [SV.bool (decide ((↑q : Int) ≥ (4294967296 : Int))) = SV.bool false,
      SV.bool
          (decide
            (IntKind.u64.wrap ((↑q : Int) * (↑m : Int)) >
              IntKind.u64.wrap (IntKind.u64.wrap ((4294967296 : Int) * (↑r : Int)) + (↑d0 : Int)))) =
        SV.bool true,
      SV.int IntKind.u64 (IntKind.u64.wrap ((↑q : Int) - (1 : Int))) = SV.int IntKind.u64 (↑q2 : Int),
      SV.int IntKind.u64 (IntKind.u64.wrap ((↑r : Int) + (↑a : Int))) = SV.int IntKind.u64 (↑r2 : Int),
      SV.bool (decide ((↑r2 : Int) ≥ (4294967296 : Int))) = SV.bool false]) := by kernel_rfl

theorem lp2_fe (ys : Nat) (s : Nat) (a : Nat) (m : Nat) (d0 : Nat) (q1 : Nat) (v : Nat) (q : Nat) (r : Nat) (q2 : Nat) (r2 : Nat) : view (0 : Nat) [(2 : Nat), (8 : Nat), (9 : Nat), (10 : Nat), (14 : Nat), (15 : Nat), (17 : Nat), (18 : Nat)] [] []
  (runCode Tryz.prog D0 (100 : Nat) (0 : Nat) (loopB Tryz.prog (34 : Nat) (1 : Nat))
    {
      t :=
        mkT (135 : Nat)
          [((2 : Nat), u64 ys), ((8 : Nat), u64 s), ((9 : Nat), u64 a), ((10 : Nat), u64 m), ((14 : Nat), u64 d0),
            ((15 : Nat), u64 q1), ((17 : Nat), u64 v), ((18 : Nat), u64 q), ((16 : Nat), u64 r)],
      h := [] }
    (0 : Nat)
    [DE.op (103 : Nat) (Dir.eqv (SV.bool false)), DE.op (112 : Nat) (Dir.eqv (SV.bool true)),
      DE.op (115 : Nat) (Dir.eqv (u64 q2)), DE.op (118 : Nat) (Dir.eqv (u64 r2)),
      DE.op (120 : Nat) (Dir.eqv (SV.bool true))]) =
  some
  ({ e := Ex.exit (2 : Nat), len := (135 : Nat),
      vs :=
        [some (SV.int IntKind.u64 (↑ys : Int)), some (SV.int IntKind.u64 (↑s : Int)),
          some (SV.int IntKind.u64 (↑a : Int)), some (SV.int IntKind.u64 (↑m : Int)),
          some (SV.int IntKind.u64 (↑d0 : Int)), some (SV.int IntKind.u64 (↑q1 : Int)),
          some (SV.int IntKind.u64 (↑v : Int)), some (SV.int IntKind.u64 (↑q2 : Int))],
      es := [], low := true },
    [SV.bool (decide ((↑q : Int) ≥ (4294967296 : Int))) = SV.bool false,
      SV.bool
          (decide
            (IntKind.u64.wrap ((↑q : Int) * (↑m : Int)) >
              IntKind.u64.wrap (IntKind.u64.wrap ((4294967296 : Int) * (↑r : Int)) + (↑d0 : Int)))) =
        SV.bool true,
      SV.int IntKind.u64 (IntKind.u64.wrap ((↑q : Int) - (1 : Int))) = SV.int IntKind.u64 (↑q2 : Int),
      SV.int IntKind.u64 (IntKind.u64.wrap ((↑r : Int) + (↑a : Int))) = SV.int IntKind.u64 (↑r2 : Int),
      SV.bool (decide ((↑r2 : Int) ≥ (4294967296 : Int))) = SV.bool true]) := by kernel_rfl

theorem lp2_s (ys : Nat) (s : Nat) (a : Nat) (m : Nat) (d0 : Nat) (q1 : Nat) (v : Nat) (q : Nat) (r : Nat) : view (0 : Nat) [(2 : Nat), (8 : Nat), (9 : Nat), (10 : Nat), (14 : Nat), (15 : Nat), (17 : Nat), (18 : Nat)] [] []
  (runCode Tryz.prog D0 (100 : Nat) (0 : Nat) (loopB Tryz.prog (34 : Nat) (1 : Nat))
    {
      t :=
        mkT (135 : Nat)
          [((2 : Nat), u64 ys), ((8 : Nat), u64 s), ((9 : Nat), u64 a), ((10 : Nat), u64 m), ((14 : Nat), u64 d0),
            ((15 : Nat), u64 q1), ((17 : Nat), u64 v), ((18 : Nat), u64 q), ((16 : Nat), u64 r)],
      h := [] }
    (0 : Nat) [DE.op (103 : Nat) (Dir.eqv (SV.bool false)), DE.op (112 : Nat) (Dir.eqv (SV.bool false))]) =
  some
  ({ e := Ex.exit (2 : Nat), len := (135 : Nat),
      vs :=
        [some (SV.int IntKind.u64 (↑ys : Int)), some (SV.int IntKind.u64 (↑s : Int)),
          some (SV.int IntKind.u64 (↑a : Int)), some (SV.int IntKind.u64 (↑m : Int)),
          some (SV.int IntKind.u64 (↑d0 : Int)), some (SV.int IntKind.u64 (↑q1 : Int)),
          some (SV.int IntKind.u64 (↑v : Int)), some (SV.int IntKind.u64 (↑q : Int))],
      es := [], low := true },
    [SV.bool (decide ((↑q : Int) ≥ (4294967296 : Int))) = SV.bool false,
      SV.bool
          (decide
            (IntKind.u64.wrap ((↑q : Int) * (↑m : Int)) >
              IntKind.u64.wrap (IntKind.u64.wrap ((4294967296 : Int) * (↑r : Int)) + (↑d0 : Int)))) =
        SV.bool false]) := by kernel_rfl

theorem div_main (hi : Nat) (lo : Nat) (y : Nat) (s : Nat) (ys : Nat) (a : Nat) (m : Nat) (h1 : Nat) (s2 : Nat) (l1 : Nat) (u : Nat) (w : Nat) (d1 : Nat) (d0 : Nat) (q0 : Nat) (qa : Nat) (r0 : Nat) (q1 : Nat) (ub : Nat) (ud : Nat) (qy : Nat) (v : Nat) (p0 : Nat) (pa : Nat) (r1 : Nat) (p1 : Nat) (qb : Nat) (qq : Nat) (vb : Nat) (vd : Nat) (py : Nat) (rr : Nat) (rm : Nat) : out1
  (callFn Tryz.prog D0 (200 : Nat) (34 : FuncId) [u64 hi, u64 lo, u64 y] [] (0 : Nat)
    (let y :=
      let y :=
        let y :=
          [DE.op (126 : Nat) (Dir.eqv (u64 vb)), DE.op (128 : Nat) (Dir.eqv (u64 vd)),
            DE.op (131 : Nat) (Dir.eqv (u64 py)), DE.op (132 : Nat) (Dir.eqv (u64 rr)),
            DE.op (134 : Nat) (Dir.eqv (u64 rm))];
        DE.op (101 : Nat) (Dir.eqv (u64 r1)) ::
          DE.cut
              {
                t :=
                  mkT (135 : Nat)
                    [((2 : Nat), u64 ys), ((8 : Nat), u64 s), ((9 : Nat), u64 a), ((10 : Nat), u64 m),
                      ((14 : Nat), u64 d0), ((15 : Nat), u64 q1), ((17 : Nat), u64 v), ((18 : Nat), u64 p1)],
                h := [] }
              (0 : Nat) (Ex.exit (2 : Nat)) ::
            DE.op (122 : Nat) (Dir.eqv (u64 qb)) :: DE.op (124 : Nat) (Dir.eqv (u64 qq)) :: y;
      let y :=
        DE.op (92 : Nat) (Dir.eqv (u64 qy)) ::
          DE.op (93 : Nat) (Dir.eqv (u64 v)) ::
            DE.op (96 : Nat) (Dir.eqv (u64 p0)) :: DE.op (100 : Nat) (Dir.eqv (u64 pa)) :: y;
      DE.op (66 : Nat) (Dir.eqv (u64 r0)) ::
        DE.cut
            {
              t :=
                mkT (135 : Nat)
                  [((2 : Nat), u64 ys), ((8 : Nat), u64 s), ((9 : Nat), u64 a), ((10 : Nat), u64 m),
                    ((11 : Nat), u64 u), ((13 : Nat), u64 d1), ((14 : Nat), u64 d0), ((15 : Nat), u64 q1)],
              h := [] }
            (0 : Nat) (Ex.exit (0 : Nat)) ::
          DE.op (87 : Nat) (Dir.eqv (u64 ub)) :: DE.op (89 : Nat) (Dir.eqv (u64 ud)) :: y;
    let y :=
      let y :=
        DE.op (54 : Nat) (Dir.eqv (u64 w)) ::
          DE.op (56 : Nat) (Dir.eqv (u64 d1)) ::
            DE.op (58 : Nat) (Dir.eqv (u64 d0)) ::
              DE.op (61 : Nat) (Dir.eqv (u64 q0)) :: DE.op (65 : Nat) (Dir.eqv (u64 qa)) :: y;
      DE.op (46 : Nat) (Dir.eqv (u64 h1)) ::
        DE.op (49 : Nat) (Dir.eqv (u64 s2)) ::
          DE.op (50 : Nat) (Dir.eqv (u64 l1)) :: DE.op (51 : Nat) (Dir.eqv (u64 u)) :: y;
    let y :=
      DE.op (36 : Nat) (Dir.eqv (u64 s)) ::
        DE.op (39 : Nat) (Dir.eqv (u64 ys)) ::
          DE.op (41 : Nat) (Dir.eqv (u64 a)) :: DE.op (43 : Nat) (Dir.eqv (u64 m)) :: y;
    DE.op (20 : Nat) (Dir.eqv (SV.bool false)) ::
      DE.op (24 : Nat) (Dir.eqv (SV.bool false)) ::
        DE.op (27 : Nat) (Dir.eqv (SV.bool false)) ::
          DE.op (35 : Nat) (Dir.con (SV.int IntKind.i64 (↑s : Int)) [] []) :: y)) =
  some
  (SV.tup [SV.int IntKind.u64 (↑qq : Int), SV.int IntKind.u64 (↑rm : Int)],
    [SV.bool ((↑y : Int) == (0 : Int)) = SV.bool false, SV.bool (decide ((↑y : Int) ≤ (↑hi : Int))) = SV.bool false,
      SV.bool ((↑hi : Int) == (0 : Int)) = SV.bool false,
      Con Tryz.prog (44 : Nat) [SV.int IntKind.u64 (↑y : Int)] [] (SV.int IntKind.i64 (↑s : Int)) [],
      SV.int IntKind.u64 (IntKind.u64.wrap (↑s : Int)) = SV.int IntKind.u64 (↑s : Int),
      SV.int IntKind.u64 (IntKind.u64.wrap ((↑y : Int) * (2 : Int) ^ min (↑s : Int).toNat (64 : Nat))) =
        SV.int IntKind.u64 (↑ys : Int),
      (0 : Int) ≤ (↑s : Int),
      SV.int IntKind.u64 ((↑ys : Int).fdiv ((2 : Int) ^ (32 : Nat))) = SV.int IntKind.u64 (↑a : Int),
      SV.int IntKind.u64
          (IntKind.u64.wrap
            (↑(BitVec.ofInt (64 : Nat) (↑ys : Int) &&& BitVec.ofInt (64 : Nat) (4294967295 : Int)).toNat : Int)) =
        SV.int IntKind.u64 (↑m : Int),
      SV.int IntKind.u64 (IntKind.u64.wrap ((↑hi : Int) * (2 : Int) ^ min (↑s : Int).toNat (64 : Nat))) =
        SV.int IntKind.u64 (↑h1 : Int),
      (0 : Int) ≤ (↑s : Int),
      SV.int IntKind.u64 (IntKind.u64.wrap ((64 : Int) - (↑s : Int))) = SV.int IntKind.u64 (↑s2 : Int),
      SV.int IntKind.u64 ((↑lo : Int).fdiv ((2 : Int) ^ min (↑s2 : Int).toNat (64 : Nat))) =
        SV.int IntKind.u64 (↑l1 : Int),
      (0 : Int) ≤ (↑s2 : Int),
      SV.int IntKind.u64
          (IntKind.u64.wrap
            (↑(BitVec.ofInt (64 : Nat) (↑h1 : Int) ||| BitVec.ofInt (64 : Nat) (↑l1 : Int)).toNat : Int)) =
        SV.int IntKind.u64 (↑u : Int),
      SV.int IntKind.u64 (IntKind.u64.wrap ((↑lo : Int) * (2 : Int) ^ min (↑s : Int).toNat (64 : Nat))) =
        SV.int IntKind.u64 (↑w : Int),
      (0 : Int) ≤ (↑s : Int),
      SV.int IntKind.u64 ((↑w : Int).fdiv ((2 : Int) ^ (32 : Nat))) = SV.int IntKind.u64 (↑d1 : Int),
      SV.int IntKind.u64
          (IntKind.u64.wrap
            (↑(BitVec.ofInt (64 : Nat) (↑w : Int) &&& BitVec.ofInt (64 : Nat) (4294967295 : Int)).toNat : Int)) =
        SV.int IntKind.u64 (↑d0 : Int),
      SV.int IntKind.u64 (IntKind.u64.wrap ((↑u : Int).tdiv (↑a : Int))) = SV.int IntKind.u64 (↑q0 : Int),
      (↑a : Int) ≠ (0 : Int),
      SV.int IntKind.u64 (IntKind.u64.wrap ((↑q0 : Int) * (↑a : Int))) = SV.int IntKind.u64 (↑qa : Int),
      SV.int IntKind.u64 (IntKind.u64.wrap ((↑u : Int) - (↑qa : Int))) = SV.int IntKind.u64 (↑r0 : Int),
      CodeOK Tryz.prog (0 : Nat) (cutAt Tryz.prog (34 : FuncId) (0 : Nat))
        {
          t :=
            [some (SV.int IntKind.u64 (↑hi : Int)), some (SV.int IntKind.u64 (↑lo : Int)),
              some (SV.int IntKind.u64 (↑ys : Int)), none, none, none, some (SV.num IntKind.u64 (0 : Int)),
              some (SV.num IntKind.u64 (0 : Int)), some (SV.int IntKind.u64 (↑s : Int)),
              some (SV.int IntKind.u64 (↑a : Int)), some (SV.int IntKind.u64 (↑m : Int)),
              some (SV.int IntKind.u64 (↑u : Int)), some (SV.int IntKind.u64 (↑w : Int)),
              some (SV.int IntKind.u64 (↑d1 : Int)), some (SV.int IntKind.u64 (↑d0 : Int)),
              some (SV.int IntKind.u64 (↑q0 : Int)), some (SV.int IntKind.u64 (↑r0 : Int)), none, none,
              some (SV.int IntKind.u64 (↑y : Int)), some (SV.bool false), none, some (SV.int IntKind.u64 (↑y : Int)),
              some (SV.int IntKind.u64 (↑hi : Int)), some (SV.bool false), none, some (SV.int IntKind.u64 (↑hi : Int)),
              some (SV.bool false), none, none, none, none, none, none, some (SV.int IntKind.u64 (↑y : Int)),
              some (SV.int IntKind.i64 (↑s : Int)), some (SV.int IntKind.u64 (↑s : Int)),
              some (SV.int IntKind.u64 (↑y : Int)), some (SV.int IntKind.u64 (↑s : Int)),
              some (SV.int IntKind.u64 (↑ys : Int)), some (SV.int IntKind.u64 (↑ys : Int)),
              some (SV.int IntKind.u64 (↑a : Int)), some (SV.int IntKind.u64 (↑ys : Int)),
              some (SV.int IntKind.u64 (↑m : Int)), some (SV.int IntKind.u64 (↑hi : Int)),
              some (SV.int IntKind.u64 (↑s : Int)), some (SV.int IntKind.u64 (↑h1 : Int)),
              some (SV.int IntKind.u64 (↑lo : Int)), some (SV.int IntKind.u64 (↑s : Int)),
              some (SV.int IntKind.u64 (↑s2 : Int)), some (SV.int IntKind.u64 (↑l1 : Int)),
              some (SV.int IntKind.u64 (↑u : Int)), some (SV.int IntKind.u64 (↑lo : Int)),
              some (SV.int IntKind.u64 (↑s : Int)), some (SV.int IntKind.u64 (↑w : Int)),
              some (SV.int IntKind.u64 (↑w : Int)), some (SV.int IntKind.u64 (↑d1 : Int)),
              some (SV.int IntKind.u64 (↑w : Int)), some (SV.int IntKind.u64 (↑d0 : Int)),
              some (SV.int IntKind.u64 (↑u : Int)), some (SV.int IntKind.u64 (↑a : Int)),
              some (SV.int IntKind.u64 (↑q0 : Int)), some (SV.int IntKind.u64 (↑u : Int)),
              some (SV.int IntKind.u64 (↑q0 : Int)), some (SV.int IntKind.u64 (↑a : Int)),
              some (SV.int IntKind.u64 (↑qa : Int)), some (SV.int IntKind.u64 (↑r0 : Int)), none, none, none, none,
              none, none, none, none, none, none, none, none, none, none, none, none, none, none, none, none, none,
              none, none, none, none, none, none, none, none, none, none, none, none, none, none, none, none, none,
              none, none, none, none, none, none, none, none, none, none, none, none, none, none, none, none, none,
              none, none, none, none, none, none, none, none, none, none, none, none, none],
          h := [] }
        {
          t :=
            [none, none, some (SV.int IntKind.u64 (↑ys : Int)), none, none, none, none, none,
              some (SV.int IntKind.u64 (↑s : Int)), some (SV.int IntKind.u64 (↑a : Int)),
              some (SV.int IntKind.u64 (↑m : Int)), some (SV.int IntKind.u64 (↑u : Int)), none,
              some (SV.int IntKind.u64 (↑d1 : Int)), some (SV.int IntKind.u64 (↑d0 : Int)),
              some (SV.int IntKind.u64 (↑q1 : Int)), none, none, none, none, none, none, none, none, none, none, none,
              none, none, none, none, none, none, none, none, none, none, none, none, none, none, none, none, none,
              none, none, none, none, none, none, none, none, none, none, none, none, none, none, none, none, none,
              none, none, none, none, none, none, none, none, none, none, none, none, none, none, none, none, none,
              none, none, none, none, none, none, none, none, none, none, none, none, none, none, none, none, none,
              none, none, none, none, none, none, none, none, none, none, none, none, none, none, none, none, none,
              none, none, none, none, none, none, none, none, none, none, none, none, none, none, none, none, none,
              none, none, none, none, none, none],
          h := [] }
        (Ex.exit (0 : Nat)),
      SV.int IntKind.u64 (IntKind.u64.wrap ((↑u : Int) * (4294967296 : Int))) = SV.int IntKind.u64 (↑ub : Int),
      SV.int IntKind.u64 (IntKind.u64.wrap ((↑ub : Int) + (↑d1 : Int))) = SV.int IntKind.u64 (↑ud : Int),
      SV.int IntKind.u64 (IntKind.u64.wrap ((↑q1 : Int) * (↑ys : Int))) = SV.int IntKind.u64 (↑qy : Int),
      SV.int IntKind.u64 (IntKind.u64.wrap ((↑ud : Int) - (↑qy : Int))) = SV.int IntKind.u64 (↑v : Int),
      SV.int IntKind.u64 (IntKind.u64.wrap ((↑v : Int).tdiv (↑a : Int))) = SV.int IntKind.u64 (↑p0 : Int),
      (↑a : Int) ≠ (0 : Int),
      SV.int IntKind.u64 (IntKind.u64.wrap ((↑p0 : Int) * (↑a : Int))) = SV.int IntKind.u64 (↑pa : Int),
      SV.int IntKind.u64 (IntKind.u64.wrap ((↑v : Int) - (↑pa : Int))) = SV.int IntKind.u64 (↑r1 : Int),
      CodeOK Tryz.prog (0 : Nat) (cutAt Tryz.prog (34 : FuncId) (1 : Nat))
        {
          t :=
            [none, none, some (SV.int IntKind.u64 (↑ys : Int)), none, none, none, none, none,
              some (SV.int IntKind.u64 (↑s : Int)), some (SV.int IntKind.u64 (↑a : Int)),
              some (SV.int IntKind.u64 (↑m : Int)), some (SV.int IntKind.u64 (↑u : Int)), none,
              some (SV.int IntKind.u64 (↑d1 : Int)), some (SV.int IntKind.u64 (↑d0 : Int)),
              some (SV.int IntKind.u64 (↑q1 : Int)), some (SV.int IntKind.u64 (↑r1 : Int)),
              some (SV.int IntKind.u64 (↑v : Int)), some (SV.int IntKind.u64 (↑p0 : Int)), none, none, none, none, none,
              none, none, none, none, none, none, none, none, none, none, none, none, none, none, none, none, none,
              none, none, none, none, none, none, none, none, none, none, none, none, none, none, none, none, none,
              none, none, none, none, none, none, none, none, none, none, none, none, none, none, none, none, none,
              none, none, none, none, none, none, none, none, none, none, none, some (SV.int IntKind.u64 (↑u : Int)),
              some (SV.int IntKind.u64 (↑ub : Int)), some (SV.int IntKind.u64 (↑d1 : Int)),
              some (SV.int IntKind.u64 (↑ud : Int)), some (SV.int IntKind.u64 (↑q1 : Int)),
              some (SV.int IntKind.u64 (↑ys : Int)), some (SV.int IntKind.u64 (↑qy : Int)),
              some (SV.int IntKind.u64 (↑v : Int)), some (SV.int IntKind.u64 (↑v : Int)),
              some (SV.int IntKind.u64 (↑a : Int)), some (SV.int IntKind.u64 (↑p0 : Int)),
              some (SV.int IntKind.u64 (↑v : Int)), some (SV.int IntKind.u64 (↑p0 : Int)),
              some (SV.int IntKind.u64 (↑a : Int)), some (SV.int IntKind.u64 (↑pa : Int)),
              some (SV.int IntKind.u64 (↑r1 : Int)), none, none, none, none, none, none, none, none, none, none, none,
              none, none, none, none, none, none, none, none, none, none, none, none, none, none, none, none, none,
              none, none, none, none, none],
          h := [] }
        {
          t :=
            [none, none, some (SV.int IntKind.u64 (↑ys : Int)), none, none, none, none, none,
              some (SV.int IntKind.u64 (↑s : Int)), some (SV.int IntKind.u64 (↑a : Int)),
              some (SV.int IntKind.u64 (↑m : Int)), none, none, none, some (SV.int IntKind.u64 (↑d0 : Int)),
              some (SV.int IntKind.u64 (↑q1 : Int)), none, some (SV.int IntKind.u64 (↑v : Int)),
              some (SV.int IntKind.u64 (↑p1 : Int)), none, none, none, none, none, none, none, none, none, none, none,
              none, none, none, none, none, none, none, none, none, none, none, none, none, none, none, none, none,
              none, none, none, none, none, none, none, none, none, none, none, none, none, none, none, none, none,
              none, none, none, none, none, none, none, none, none, none, none, none, none, none, none, none, none,
              none, none, none, none, none, none, none, none, none, none, none, none, none, none, none, none, none,
              none, none, none, none, none, none, none, none, none, none, none, none, none, none, none, none, none,
              none, none, none, none, none, none, none, none, none, none, none, none, none, none, none, none, none,
              none, none, none],
          h := [] }
        (Ex.exit (2 : Nat)),
      SV.int IntKind.u64 (IntKind.u64.wrap ((↑q1 : Int) * (4294967296 : Int))) = SV.int IntKind.u64 (↑qb : Int),
      SV.int IntKind.u64 (IntKind.u64.wrap ((↑qb : Int) + (↑p1 : Int))) = SV.int IntKind.u64 (↑qq : Int),
      SV.int IntKind.u64 (IntKind.u64.wrap ((↑v : Int) * (4294967296 : Int))) = SV.int IntKind.u64 (↑vb : Int),
      SV.int IntKind.u64 (IntKind.u64.wrap ((↑vb : Int) + (↑d0 : Int))) = SV.int IntKind.u64 (↑vd : Int),
      SV.int IntKind.u64 (IntKind.u64.wrap ((↑p1 : Int) * (↑ys : Int))) = SV.int IntKind.u64 (↑py : Int),
      SV.int IntKind.u64 (IntKind.u64.wrap ((↑vd : Int) - (↑py : Int))) = SV.int IntKind.u64 (↑rr : Int),
      SV.int IntKind.u64 ((↑rr : Int).fdiv ((2 : Int) ^ min (↑s : Int).toNat (64 : Nat))) =
        SV.int IntKind.u64 (↑rm : Int),
      (0 : Int) ≤ (↑s : Int)]) := by kernel_rfl

theorem div_zero (lo : Nat) (y : Nat) (q : Nat) (r : Nat) : out1
  (callFn Tryz.prog D0 (200 : Nat) (34 : FuncId) [SV.num IntKind.u64 (0 : Int), u64 lo, u64 y] [] (0 : Nat)
    [DE.op (20 : Nat) (Dir.eqv (SV.bool false)), DE.op (24 : Nat) (Dir.eqv (SV.bool false)),
      DE.op (30 : Nat) (Dir.eqv (u64 q)), DE.op (33 : Nat) (Dir.eqv (u64 r))]) =
  some
  (SV.tup [SV.int IntKind.u64 (↑q : Int), SV.int IntKind.u64 (↑r : Int)],
    [SV.bool ((↑y : Int) == (0 : Int)) = SV.bool false, SV.bool (decide ((↑y : Int) ≤ (0 : Int))) = SV.bool false,
      SV.int IntKind.u64 (IntKind.u64.wrap ((↑lo : Int).tdiv (↑y : Int))) = SV.int IntKind.u64 (↑q : Int),
      (↑y : Int) ≠ (0 : Int), SV.int IntKind.u64 ((↑lo : Int).tmod (↑y : Int)) = SV.int IntKind.u64 (↑r : Int),
      (↑y : Int) ≠ (0 : Int)]) := by kernel_rfl

end Go.Sx
