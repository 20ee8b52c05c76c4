/- What functions of the program answer: contracts, each proved by the executor. -/
import Derived.Test.YtnnmofebjfpcnaaGreatSeatD
import Derived.Test.YtnnmofebjfpcnaaGreatSxArith
set_option linter.unusedVariables false
set_option linter.unusedSimpArgs false

namespace Go.Sx
open Go.Proofs
set_option maxRecDepth 100000
theorem len_000 (x : Nat) (v : Nat) (n : Nat) : out1
  (callFn Tryz.prog D0 (200 : Nat) (53 : FuncId) [u64 x] [] (0 : Nat)
    [DE.op (4 : Nat) (Dir.eqv (SV.bool false)), DE.op (8 : Nat) (Dir.eqv (SV.bool false)),
      DE.op (14 : Nat) (Dir.eqv (SV.bool false)), DE.op (21 : Nat) (Dir.eqv (SV.int IntKind.u8 (↑x : Int))),
      DE.op (22 : Nat) (Dir.at_ (SV.int IntKind.u8 (↑v : Int))),
      DE.op (23 : Nat) (Dir.eqv (SV.int IntKind.i64 (↑v : Int))),
      DE.op (24 : Nat) (Dir.eqv (SV.int IntKind.i64 (↑n : Int)))]) =
  some
  (SV.int IntKind.i64 (↑n : Int),
    [SV.bool (decide ((↑x : Int) ≥ (4294967296 : Int))) = SV.bool false,
      SV.bool (decide ((↑x : Int) ≥ (65536 : Int))) = SV.bool false,
      SV.bool (decide ((↑x : Int) ≥ (256 : Int))) = SV.bool false,
      SV.int IntKind.u8 (IntKind.u8.wrap (↑x : Int)) = SV.int IntKind.u8 (↑x : Int),
      IxOK Tryz.prog (9 : Nat)
        (SV.str
          {
            data :=
              {
                toList :=
                  [(0 : UInt8), (1 : UInt8), (2 : UInt8), (2 : UInt8), (3 : UInt8), (3 : UInt8), (3 : UInt8),
                    (3 : UInt8), (4 : UInt8), (4 : UInt8), (4 : UInt8), (4 : UInt8), (4 : UInt8), (4 : UInt8),
                    (4 : UInt8), (4 : UInt8), (5 : UInt8), (5 : UInt8), (5 : UInt8), (5 : UInt8), (5 : UInt8),
                    (5 : UInt8), (5 : UInt8), (5 : UInt8), (5 : UInt8), (5 : UInt8), (5 : UInt8), (5 : UInt8),
                    (5 : UInt8), (5 : UInt8), (5 : UInt8), (5 : UInt8), (6 : UInt8), (6 : UInt8), (6 : UInt8),
                    (6 : UInt8), (6 : UInt8), (6 : UInt8), (6 : UInt8), (6 : UInt8), (6 : UInt8), (6 : UInt8),
                    (6 : UInt8), (6 : UInt8), (6 : UInt8), (6 : UInt8), (6 : UInt8), (6 : UInt8), (6 : UInt8),
                    (6 : UInt8), (6 : UInt8), (6 : UInt8), (6 : UInt8), (6 : UInt8), (6 : UInt8), (6 : UInt8),
                    (6 : UInt8), (6 : UInt8), (6 : UInt8), (6 : UInt8), (6 : UInt8), (6 : UInt8), (6 : UInt8),
                    (6 : UInt8), (7 : UInt8), (7 : UInt8), (7 : UInt8), (7 : UInt8), (7 : UInt8), (7 : UInt8),
                    (7 : UInt8), (7 : UInt8), (7 : UInt8), (7 : UInt8), (7 : UInt8), (7 : UInt8), (7 : UInt8),
                    (7 : UInt8), (7 : UInt8), (7 : UInt8), (7 : UInt8), (7 : UInt8), (7 : UInt8), (7 : UInt8),
                    (7 : UInt8), (7 : UInt8), (7 : UInt8), (7 : UInt8), (7 : UInt8), (7 : UInt8), (7 : UInt8),
                    (7 : UInt8), (7 : UInt8), (7 : UInt8), (7 : UInt8), (7 : UInt8), (7 : UInt8), (7 : UInt8),
                    (7 : UInt8), (7 : UInt8), (7 : UInt8), (7 : UInt8), (7 : UInt8), (7 : UInt8), (7 : UInt8),
                    (7 : UInt8), (7 : UInt8), (7 : UInt8), (7 : UInt8), (7 : UInt8), (7 : UInt8), (7 : UInt8),
                    (7 : UInt8), (7 : UInt8), (7 : UInt8), (7 : UInt8), (7 : UInt8), (7 : UInt8), (7 : UInt8),
                    (7 : UInt8), (7 : UInt8), (7 : UInt8), (7 : UInt8), (7 : UInt8), (7 : UInt8), (7 : UInt8),
                    (7 : UInt8), (7 : UInt8), (8 : UInt8), (8 : UInt8), (8 : UInt8), (8 : UInt8), (8 : UInt8),
                    (8 : UInt8), (8 : UInt8), (8 : UInt8), (8 : UInt8), (8 : UInt8), (8 : UInt8), (8 : UInt8),
                    (8 : UInt8), (8 : UInt8), (8 : UInt8), (8 : UInt8), (8 : UInt8), (8 : UInt8), (8 : UInt8),
                    (8 : UInt8), (8 : UInt8), (8 : UInt8), (8 : UInt8), (8 : UInt8), (8 : UInt8), (8 : UInt8),
                    (8 : UInt8), (8 : UInt8), (8 : UInt8), (8 : UInt8), (8 : UInt8), (8 : UInt8), (8 : UInt8),
                    (8 : UInt8), (8 : UInt8), (8 : UInt8), (8 : UInt8), (8 : UInt8), (8 : UInt8), (8 : UInt8),
                    (8 : UInt8), (8 : UInt8), (8 : UInt8), (8 : UInt8), (8 : UInt8), (8 : UInt8), (8 : UInt8),
                    (8 : UInt8), (8 : UInt8), (8 : UInt8), (8 : UInt8), (8 : UInt8), (8 : UInt8), (8 : UInt8),
                    (8 : UInt8), (8 : UInt8), (8 : UInt8), (8 : UInt8), (8 : UInt8), (8 : UInt8), (8 : UInt8),
                    (8 : UInt8), (8 : UInt8), (8 : UInt8), (8 : UInt8), (8 : UInt8), (8 : UInt8), (8 : UInt8),
                    (8 : UInt8), (8 : UInt8), (8 : UInt8), (8 : UInt8), (8 : UInt8), (8 : UInt8), (8 : UInt8),
                    (8 : UInt8), (8 : UInt8), (8 : UInt8), (8 : UInt8), (8 : UInt8), (8 : UInt8), (8 : UInt8),
                    (8 : UInt8), (8 : UInt8), (8 : UInt8), (8 : UInt8), (8 : UInt8), (8 : UInt8), (8 : UInt8),
                    (8 : UInt8), (8 : UInt8), (8 : UInt8), (8 : UInt8), (8 : UInt8), (8 : UInt8), (8 : UInt8),
                    (8 : UInt8), (8 : UInt8), (8 : UInt8), (8 : UInt8), (8 : UInt8), (8 : UInt8), (8 : UInt8),
                    (8 : UInt8), (8 : UInt8), (8 : UInt8), (8 : UInt8), (8 : UInt8), (8 : UInt8), (8 : UInt8),
                    (8 : UInt8), (8 : UInt8), (8 : UInt8), (8 : UInt8), (8 : UInt8), (8 : UInt8), (8 : UInt8),
                    (8 : UInt8), (8 : UInt8), (8 : UInt8), (8 : UInt8), (8 : UInt8), (8 : UInt8), (8 : UInt8),
                    (8 : UInt8), (8 : UInt8), (8 : UInt8), (8 : UInt8)] } })
        (SV.int IntKind.u8 (↑x : Int)) (SV.int IntKind.u8 (↑v : Int)),
      SV.int IntKind.i64 (IntKind.i64.wrap (↑v : Int)) = SV.int IntKind.i64 (↑v : Int),
      SV.int IntKind.i64 (IntKind.i64.wrap ((0 : Int) + (↑v : Int))) = SV.int IntKind.i64 (↑n : Int)]) := by kernel_rfl

theorem len_001 (x : Nat) (x3 : Nat) (v : Nat) (n : Nat) : out1
  (callFn Tryz.prog D0 (200 : Nat) (53 : FuncId) [u64 x] [] (0 : Nat)
    [DE.op (4 : Nat) (Dir.eqv (SV.bool false)), DE.op (8 : Nat) (Dir.eqv (SV.bool false)),
      DE.op (14 : Nat) (Dir.eqv (SV.bool true)), DE.op (16 : Nat) (Dir.eqv (u64 x3)),
      DE.op (21 : Nat) (Dir.eqv (SV.int IntKind.u8 (↑x3 : Int))),
      DE.op (22 : Nat) (Dir.at_ (SV.int IntKind.u8 (↑v : Int))),
      DE.op (23 : Nat) (Dir.eqv (SV.int IntKind.i64 (↑v : Int))),
      DE.op (24 : Nat) (Dir.eqv (SV.int IntKind.i64 (↑n : Int)))]) =
  some
  (SV.int IntKind.i64 (↑n : Int),
    [SV.bool (decide ((↑x : Int) ≥ (4294967296 : Int))) = SV.bool false,
      SV.bool (decide ((↑x : Int) ≥ (65536 : Int))) = SV.bool false,
      SV.bool (decide ((↑x : Int) ≥ (256 : Int))) = SV.bool true,
      SV.int IntKind.u64 ((↑x : Int).fdiv ((2 : Int) ^ (8 : Nat))) = SV.int IntKind.u64 (↑x3 : Int),
      SV.int IntKind.u8 (IntKind.u8.wrap (↑x3 : Int)) = SV.int IntKind.u8 (↑x3 : Int),
      IxOK Tryz.prog (9 : Nat)
        (SV.str
          {
            data :=
              {
                toList :=
                  [(0 : UInt8), (1 : UInt8), (2 : UInt8), (2 : UInt8), (3 : UInt8), (3 : UInt8), (3 : UInt8),
                    (3 : UInt8), (4 : UInt8), (4 : UInt8), (4 : UInt8), (4 : UInt8), (4 : UInt8), (4 : UInt8),
                    (4 : UInt8), (4 : UInt8), (5 : UInt8), (5 : UInt8), (5 : UInt8), (5 : UInt8), (5 : UInt8),
                    (5 : UInt8), (5 : UInt8), (5 : UInt8), (5 : UInt8), (5 : UInt8), (5 : UInt8), (5 : UInt8),
                    (5 : UInt8), (5 : UInt8), (5 : UInt8), (5 : UInt8), (6 : UInt8), (6 : UInt8), (6 : UInt8),
                    (6 : UInt8), (6 : UInt8), (6 : UInt8), (6 : UInt8), (6 : UInt8), (6 : UInt8), (6 : UInt8),
                    (6 : UInt8), (6 : UInt8), (6 : UInt8), (6 : UInt8), (6 : UInt8), (6 : UInt8), (6 : UInt8),
                    (6 : UInt8), (6 : UInt8), (6 : UInt8), (6 : UInt8), (6 : UInt8), (6 : UInt8), (6 : UInt8),
                    (6 : UInt8), (6 : UInt8), (6 : UInt8), (6 : UInt8), (6 : UInt8), (6 : UInt8), (6 : UInt8),
                    (6 : UInt8), (7 : UInt8), (7 : UInt8), (7 : UInt8), (7 : UInt8), (7 : UInt8), (7 : UInt8),
                    (7 : UInt8), (7 : UInt8), (7 : UInt8), (7 : UInt8), (7 : UInt8), (7 : UInt8), (7 : UInt8),
                    (7 : UInt8), (7 : UInt8), (7 : UInt8), (7 : UInt8), (7 : UInt8), (7 : UInt8), (7 : UInt8),
                    (7 : UInt8), (7 : UInt8), (7 : UInt8), (7 : UInt8), (7 : UInt8), (7 : UInt8), (7 : UInt8),
                    (7 : UInt8), (7 : UInt8), (7 : UInt8), (7 : UInt8), (7 : UInt8), (7 : UInt8), (7 : UInt8),
                    (7 : UInt8), (7 : UInt8), (7 : UInt8), (7 : UInt8), (7 : UInt8), (7 : UInt8), (7 : UInt8),
                    (7 : UInt8), (7 : UInt8), (7 : UInt8), (7 : UInt8), (7 : UInt8), (7 : UInt8), (7 : UInt8),
                    (7 : UInt8), (7 : UInt8), (7 : UInt8), (7 : UInt8), (7 : UInt8), (7 : UInt8), (7 : UInt8),
                    (7 : UInt8), (7 : UInt8), (7 : UInt8), (7 : UInt8), (7 : UInt8), (7 : UInt8), (7 : UInt8),
                    (7 : UInt8), (7 : UInt8), (8 : UInt8), (8 : UInt8), (8 : UInt8), (8 : UInt8), (8 : UInt8),
                    (8 : UInt8), (8 : UInt8), (8 : UInt8), (8 : UInt8), (8 : UInt8), (8 : UInt8), (8 : UInt8),
                    (8 : UInt8), (8 : UInt8), (8 : UInt8), (8 : UInt8), (8 : UInt8), (8 : UInt8), (8 : UInt8),
                    (8 : UInt8), (8 : UInt8), (8 : UInt8), (8 : UInt8), (8 : UInt8), (8 : UInt8), (8 : UInt8),
                    (8 : UInt8), (8 : UInt8), (8 : UInt8), (8 : UInt8), (8 : UInt8), (8 : UInt8), (8 : UInt8),
                    (8 : UInt8), (8 : UInt8), (8 : UInt8), (8 : UInt8), (8 : UInt8), (8 : UInt8), (8 : UInt8),
                    (8 : UInt8), (8 : UInt8), (8 : UInt8), (8 : UInt8), (8 : UInt8), (8 : UInt8), (8 : UInt8),
                    (8 : UInt8), (8 : UInt8), (8 : UInt8), (8 : UInt8), (8 : UInt8), (8 : UInt8), (8 : UInt8),
                    (8 : UInt8), (8 : UInt8), (8 : UInt8), (8 : UInt8), (8 : UInt8), (8 : UInt8), (8 : UInt8),
                    (8 : UInt8), (8 : UInt8), (8 : UInt8), (8 : UInt8), (8 : UInt8), (8 : UInt8), (8 : UInt8),
                    (8 : UInt8), (8 : UInt8), (8 : UInt8), (8 : UInt8), (8 : UInt8), (8 : UInt8), (8 : UInt8),
                    (8 : UInt8), (8 : UInt8), (8 : UInt8), (8 : UInt8), (8 : UInt8), (8 : UInt8), (8 : UInt8),
                    (8 : UInt8), (8 : UInt8), (8 : UInt8), (8 : UInt8), (8 : UInt8), (8 : UInt8), (8 : UInt8),
                    (8 : UInt8), (8 : UInt8), (8 : UInt8), (8 : UInt8), (8 : UInt8), (8 : UInt8), (8 : UInt8),
                    (8 : UInt8), (8 : UInt8), (8 : UInt8), (8 : UInt8), (8 : UInt8), (8 : UInt8), (8 : UInt8),
                    (8 : UInt8), (8 : UInt8), (8 : UInt8), (8 : UInt8), (8 : UInt8), (8 : UInt8), (8 : UInt8),
                    (8 : UInt8), (8 : UInt8), (8 : UInt8), (8 : UInt8), (8 : UInt8), (8 : UInt8), (8 : UInt8),
                    (8 : UInt8), (8 : UInt8), (8 : UInt8), (8 : UInt8), (8 : UInt8), (8 : UInt8), (8 : UInt8),
                    (8 : UInt8), (8 : UInt8), (8 : UInt8), (8 : UInt8)] } })
        (SV.int IntKind.u8 (↑x3 : Int)) (SV.int IntKind.u8 (↑v : Int)),
      SV.int IntKind.i64 (IntKind.i64.wrap (↑v : Int)) = SV.int IntKind.i64 (↑v : Int),
      SV.int IntKind.i64 (IntKind.i64.wrap (Int.ofNat (8 : Nat) + (↑v : Int))) = SV.int IntKind.i64 (↑n : Int)]) := by kernel_rfl

theorem len_010 (x : Nat) (x2 : Nat) (v : Nat) (n : Nat) : out1
  (callFn Tryz.prog D0 (200 : Nat) (53 : FuncId) [u64 x] [] (0 : Nat)
    [DE.op (4 : Nat) (Dir.eqv (SV.bool false)), DE.op (8 : Nat) (Dir.eqv (SV.bool true)),
      DE.op (10 : Nat) (Dir.eqv (u64 x2)), DE.op (14 : Nat) (Dir.eqv (SV.bool false)),
      DE.op (21 : Nat) (Dir.eqv (SV.int IntKind.u8 (↑x2 : Int))),
      DE.op (22 : Nat) (Dir.at_ (SV.int IntKind.u8 (↑v : Int))),
      DE.op (23 : Nat) (Dir.eqv (SV.int IntKind.i64 (↑v : Int))),
      DE.op (24 : Nat) (Dir.eqv (SV.int IntKind.i64 (↑n : Int)))]) =
  some
  (SV.int IntKind.i64 (↑n : Int),
    [SV.bool (decide ((↑x : Int) ≥ (4294967296 : Int))) = SV.bool false,
      SV.bool (decide ((↑x : Int) ≥ (65536 : Int))) = SV.bool true,
      SV.int IntKind.u64 ((↑x : Int).fdiv ((2 : Int) ^ (16 : Nat))) = SV.int IntKind.u64 (↑x2 : Int),
      SV.bool (decide ((↑x2 : Int) ≥ (256 : Int))) = SV.bool false,
      SV.int IntKind.u8 (IntKind.u8.wrap (↑x2 : Int)) = SV.int IntKind.u8 (↑x2 : Int),
      IxOK Tryz.prog (9 : Nat)
        (SV.str
          {
            data :=
              {
                toList :=
                  [(0 : UInt8), (1 : UInt8), (2 : UInt8), (2 : UInt8), (3 : UInt8), (3 : UInt8), (3 : UInt8),
                    (3 : UInt8), (4 : UInt8), (4 : UInt8), (4 : UInt8), (4 : UInt8), (4 : UInt8), (4 : UInt8),
                    (4 : UInt8), (4 : UInt8), (5 : UInt8), (5 : UInt8), (5 : UInt8), (5 : UInt8), (5 : UInt8),
                    (5 : UInt8), (5 : UInt8), (5 : UInt8), (5 : UInt8), (5 : UInt8), (5 : UInt8), (5 : UInt8),
                    (5 : UInt8), (5 : UInt8), (5 : UInt8), (5 : UInt8), (6 : UInt8), (6 : UInt8), (6 : UInt8),
                    (6 : UInt8), (6 : UInt8), (6 : UInt8), (6 : UInt8), (6 : UInt8), (6 : UInt8), (6 : UInt8),
                    (6 : UInt8), (6 : UInt8), (6 : UInt8), (6 : UInt8), (6 : UInt8), (6 : UInt8), (6 : UInt8),
                    (6 : UInt8), (6 : UInt8), (6 : UInt8), (6 : UInt8), (6 : UInt8), (6 : UInt8), (6 : UInt8),
                    (6 : UInt8), (6 : UInt8), (6 : UInt8), (6 : UInt8), (6 : UInt8), (6 : UInt8), (6 : UInt8),
                    (6 : UInt8), (7 : UInt8), (7 : UInt8), (7 : UInt8), (7 : UInt8), (7 : UInt8), (7 : UInt8),
                    (7 : UInt8), (7 : UInt8), (7 : UInt8), (7 : UInt8), (7 : UInt8), (7 : UInt8), (7 : UInt8),
                    (7 : UInt8), (7 : UInt8), (7 : UInt8), (7 : UInt8), (7 : UInt8), (7 : UInt8), (7 : UInt8),
                    (7 : UInt8), (7 : UInt8), (7 : UInt8), (7 : UInt8), (7 : UInt8), (7 : UInt8), (7 : UInt8),
                    (7 : UInt8), (7 : UInt8), (7 : UInt8), (7 : UInt8), (7 : UInt8), (7 : UInt8), (7 : UInt8),
                    (7 : UInt8), (7 : UInt8), (7 : UInt8), (7 : UInt8), (7 : UInt8), (7 : UInt8), (7 : UInt8),
                    (7 : UInt8), (7 : UInt8), (7 : UInt8), (7 : UInt8), (7 : UInt8), (7 : UInt8), (7 : UInt8),
                    (7 : UInt8), (7 : UInt8), (7 : UInt8), (7 : UInt8), (7 : UInt8), (7 : UInt8), (7 : UInt8),
                    (7 : UInt8), (7 : UInt8), (7 : UInt8), (7 : UInt8), (7 : UInt8), (7 : UInt8), (7 : UInt8),
                    (7 : UInt8), (7 : UInt8), (8 : UInt8), (8 : UInt8), (8 : UInt8), (8 : UInt8), (8 : UInt8),
                    (8 : UInt8), (8 : UInt8), (8 : UInt8), (8 : UInt8), (8 : UInt8), (8 : UInt8), (8 : UInt8),
                    (8 : UInt8), (8 : UInt8), (8 : UInt8), (8 : UInt8), (8 : UInt8), (8 : UInt8), (8 : UInt8),
                    (8 : UInt8), (8 : UInt8), (8 : UInt8), (8 : UInt8), (8 : UInt8), (8 : UInt8), (8 : UInt8),
                    (8 : UInt8), (8 : UInt8), (8 : UInt8), (8 : UInt8), (8 : UInt8), (8 : UInt8), (8 : UInt8),
                    (8 : UInt8), (8 : UInt8), (8 : UInt8), (8 : UInt8), (8 : UInt8), (8 : UInt8), (8 : UInt8),
                    (8 : UInt8), (8 : UInt8), (8 : UInt8), (8 : UInt8), (8 : UInt8), (8 : UInt8), (8 : UInt8),
                    (8 : UInt8), (8 : UInt8), (8 : UInt8), (8 : UInt8), (8 : UInt8), (8 : UInt8), (8 : UInt8),
                    (8 : UInt8), (8 : UInt8), (8 : UInt8), (8 : UInt8), (8 : UInt8), (8 : UInt8), (8 : UInt8),
                    (8 : UInt8), (8 : UInt8), (8 : UInt8), (8 : UInt8), (8 : UInt8), (8 : UInt8), (8 : UInt8),
                    (8 : UInt8), (8 : UInt8), (8 : UInt8), (8 : UInt8), (8 : UInt8), (8 : UInt8), (8 : UInt8),
                    (8 : UInt8), (8 : UInt8), (8 : UInt8), (8 : UInt8), (8 : UInt8), (8 : UInt8), (8 : UInt8),
                    (8 : UInt8), (8 : UInt8), (8 : UInt8), (8 : UInt8), (8 : UInt8), (8 : UInt8), (8 : UInt8),
                    (8 : UInt8), (8 : UInt8), (8 : UInt8), (8 : UInt8), (8 : UInt8), (8 : UInt8), (8 : UInt8),
                    (8 : UInt8), (8 : UInt8), (8 : UInt8), (8 : UInt8), (8 : UInt8), (8 : UInt8), (8 : UInt8),
                    (8 : UInt8), (8 : UInt8), (8 : UInt8), (8 : UInt8), (8 : UInt8), (8 : UInt8), (8 : UInt8),
                    (8 : UInt8), (8 : UInt8), (8 : UInt8), (8 : UInt8), (8 : UInt8), (8 : UInt8), (8 : UInt8),
                    (8 : UInt8), (8 : UInt8), (8 : UInt8), (8 : UInt8), (8 : UInt8), (8 : UInt8), (8 : UInt8),
                    (8 : UInt8), (8 : UInt8), (8 : UInt8), (8 : UInt8)] } })
        (SV.int IntKind.u8 (↑x2 : Int)) (SV.int IntKind.u8 (↑v : Int)),
      SV.int IntKind.i64 (IntKind.i64.wrap (↑v : Int)) = SV.int IntKind.i64 (↑v : Int),
      SV.int IntKind.i64 (IntKind.i64.wrap (Int.ofNat (16 : Nat) + (↑v : Int))) = SV.int IntKind.i64 (↑n : Int)]) := by kernel_rfl

theorem len_011 (x : Nat) (x2 : Nat) (x3 : Nat) (v : Nat) (n : Nat) : out1
  (callFn Tryz.prog D0 (200 : Nat) (53 : FuncId) [u64 x] [] (0 : Nat)
    [DE.op (4 : Nat) (Dir.eqv (SV.bool false)), DE.op (8 : Nat) (Dir.eqv (SV.bool true)),
      DE.op (10 : Nat) (Dir.eqv (u64 x2)), DE.op (14 : Nat) (Dir.eqv (SV.bool true)),
      DE.op (16 : Nat) (Dir.eqv (u64 x3)), DE.op (21 : Nat) (Dir.eqv (SV.int IntKind.u8 (↑x3 : Int))),
      DE.op (22 : Nat) (Dir.at_ (SV.int IntKind.u8 (↑v : Int))),
      DE.op (23 : Nat) (Dir.eqv (SV.int IntKind.i64 (↑v : Int))),
      DE.op (24 : Nat) (Dir.eqv (SV.int IntKind.i64 (↑n : Int)))]) =
  some
  (SV.int IntKind.i64 (↑n : Int),
    [SV.bool (decide ((↑x : Int) ≥ (4294967296 : Int))) = SV.bool false,
      SV.bool (decide ((↑x : Int) ≥ (65536 : Int))) = SV.bool true,
      SV.int IntKind.u64 ((↑x : Int).fdiv ((2 : Int) ^ (16 : Nat))) = SV.int IntKind.u64 (↑x2 : Int),
      SV.bool (decide ((↑x2 : Int) ≥ (256 : Int))) = SV.bool true,
      SV.int IntKind.u64 ((↑x2 : Int).fdiv ((2 : Int) ^ (8 : Nat))) = SV.int IntKind.u64 (↑x3 : Int),
      SV.int IntKind.u8 (IntKind.u8.wrap (↑x3 : Int)) = SV.int IntKind.u8 (↑x3 : Int),
      IxOK Tryz.prog (9 : Nat)
        (SV.str
          {
            data :=
              {
                toList :=
                  [(0 : UInt8), (1 : UInt8), (2 : UInt8), (2 : UInt8), (3 : UInt8), (3 : UInt8), (3 : UInt8),
                    (3 : UInt8), (4 : UInt8), (4 : UInt8), (4 : UInt8), (4 : UInt8), (4 : UInt8), (4 : UInt8),
                    (4 : UInt8), (4 : UInt8), (5 : UInt8), (5 : UInt8), (5 : UInt8), (5 : UInt8), (5 : UInt8),
                    (5 : UInt8), (5 : UInt8), (5 : UInt8), (5 : UInt8), (5 : UInt8), (5 : UInt8), (5 : UInt8),
                    (5 : UInt8), (5 : UInt8), (5 : UInt8), (5 : UInt8), (6 : UInt8), (6 : UInt8), (6 : UInt8),
                    (6 : UInt8), (6 : UInt8), (6 : UInt8), (6 : UInt8), (6 : UInt8), (6 : UInt8), (6 : UInt8),
                    (6 : UInt8), (6 : UInt8), (6 : UInt8), (6 : UInt8), (6 : UInt8), (6 : UInt8), (6 : UInt8),
                    (6 : UInt8), (6 : UInt8), (6 : UInt8), (6 : UInt8), (6 : UInt8), (6 : UInt8), (6 : UInt8),
                    (6 : UInt8), (6 : UInt8), (6 : UInt8), (6 : UInt8), (6 : UInt8), (6 : UInt8), (6 : UInt8),
                    (6 : UInt8), (7 : UInt8), (7 : UInt8), (7 : UInt8), (7 : UInt8), (7 : UInt8), (7 : UInt8),
                    (7 : UInt8), (7 : UInt8), (7 : UInt8), (7 : UInt8), (7 : UInt8), (7 : UInt8), (7 : UInt8),
                    (7 : UInt8), (7 : UInt8), (7 : UInt8), (7 : UInt8), (7 : UInt8), (7 : UInt8), (7 : UInt8),
                    (7 : UInt8), (7 : UInt8), (7 : UInt8), (7 : UInt8), (7 : UInt8), (7 : UInt8), (7 : UInt8),
                    (7 : UInt8), (7 : UInt8), (7 : UInt8), (7 : UInt8), (7 : UInt8), (7 : UInt8), (7 : UInt8),
                    (7 : UInt8), (7 : UInt8), (7 : UInt8), (7 : UInt8), (7 : UInt8), (7 : UInt8), (7 : UInt8),
                    (7 : UInt8), (7 : UInt8), (7 : UInt8), (7 : UInt8), (7 : UInt8), (7 : UInt8), (7 : UInt8),
                    (7 : UInt8), (7 : UInt8), (7 : UInt8), (7 : UInt8), (7 : UInt8), (7 : UInt8), (7 : UInt8),
                    (7 : UInt8), (7 : UInt8), (7 : UInt8), (7 : UInt8), (7 : UInt8), (7 : UInt8), (7 : UInt8),
                    (7 : UInt8), (7 : UInt8), (8 : UInt8), (8 : UInt8), (8 : UInt8), (8 : UInt8), (8 : UInt8),
                    (8 : UInt8), (8 : UInt8), (8 : UInt8), (8 : UInt8), (8 : UInt8), (8 : UInt8), (8 : UInt8),
                    (8 : UInt8), (8 : UInt8), (8 : UInt8), (8 : UInt8), (8 : UInt8), (8 : UInt8), (8 : UInt8),
                    (8 : UInt8), (8 : UInt8), (8 : UInt8), (8 : UInt8), (8 : UInt8), (8 : UInt8), (8 : UInt8),
                    (8 : UInt8), (8 : UInt8), (8 : UInt8), (8 : UInt8), (8 : UInt8), (8 : UInt8), (8 : UInt8),
                    (8 : UInt8), (8 : UInt8), (8 : UInt8), (8 : UInt8), (8 : UInt8), (8 : UInt8), (8 : UInt8),
                    (8 : UInt8), (8 : UInt8), (8 : UInt8), (8 : UInt8), (8 : UInt8), (8 : UInt8), (8 : UInt8),
                    (8 : UInt8), (8 : UInt8), (8 : UInt8), (8 : UInt8), (8 : UInt8), (8 : UInt8), (8 : UInt8),
                    (8 : UInt8), (8 : UInt8), (8 : UInt8), (8 : UInt8), (8 : UInt8), (8 : UInt8), (8 : UInt8),
                    (8 : UInt8), (8 : UInt8), (8 : UInt8), (8 : UInt8), (8 : UInt8), (8 : UInt8), (8 : UInt8),
                    (8 : UInt8), (8 : UInt8), (8 : UInt8), (8 : UInt8), (8 : UInt8), (8 : UInt8), (8 : UInt8),
                    (8 : UInt8), (8 : UInt8), (8 : UInt8), (8 : UInt8), (8 : UInt8), (8 : UInt8), (8 : UInt8),
                    (8 : UInt8), (8 : UInt8), (8 : UInt8), (8 : UInt8), (8 : UInt8), (8 : UInt8), (8 : UInt8),
                    (8 : UInt8), (8 : UInt8), (8 : UInt8), (8 : UInt8), (8 : UInt8), (8 : UInt8), (8 : UInt8),
                    (8 : UInt8), (8 : UInt8), (8 : UInt8), (8 : UInt8), (8 : UInt8), (8 : UInt8), (8 : UInt8),
                    (8 : UInt8), (8 : UInt8), (8 : UInt8), (8 : UInt8), (8 : UInt8), (8 : UInt8), (8 : UInt8),
                    (8 : UInt8), (8 : UInt8), (8 : UInt8), (8 : UInt8), (8 : UInt8), (8 : UInt8), (8 : UInt8),
                    (8 : UInt8), (8 : UInt8), (8 : UInt8), (8 : UInt8), (8 : UInt8), (8 : UInt8), (8 : UInt8),
                    (8 : UInt8), (8 : UInt8), (8 : UInt8), (8 : UInt8)] } })
        (SV.int IntKind.u8 (↑x3 : Int)) (SV.int IntKind.u8 (↑v : Int)),
      SV.int IntKind.i64 (IntKind.i64.wrap (↑v : Int)) = SV.int IntKind.i64 (↑v : Int),
      SV.int IntKind.i64 (IntKind.i64.wrap (Int.ofNat (24 : Nat) + (↑v : Int))) = SV.int IntKind.i64 (↑n : Int)]) := by kernel_rfl

theorem len_100 (x : Nat) (x1 : Nat) (v : Nat) (n : Nat) : out1
  (callFn Tryz.prog D0 (200 : Nat) (53 : FuncId) [u64 x] [] (0 : Nat)
    [DE.op (4 : Nat) (Dir.eqv (SV.bool true)), DE.op (6 : Nat) (Dir.eqv (u64 x1)),
      DE.op (8 : Nat) (Dir.eqv (SV.bool false)), DE.op (14 : Nat) (Dir.eqv (SV.bool false)),
      DE.op (21 : Nat) (Dir.eqv (SV.int IntKind.u8 (↑x1 : Int))),
      DE.op (22 : Nat) (Dir.at_ (SV.int IntKind.u8 (↑v : Int))),
      DE.op (23 : Nat) (Dir.eqv (SV.int IntKind.i64 (↑v : Int))),
      DE.op (24 : Nat) (Dir.eqv (SV.int IntKind.i64 (↑n : Int)))]) =
  some
  (SV.int IntKind.i64 (↑n : Int),
    [SV.bool (decide ((↑x : Int) ≥ (4294967296 : Int))) = SV.bool true,
      SV.int IntKind.u64 ((↑x : Int).fdiv ((2 : Int) ^ (32 : Nat))) = SV.int IntKind.u64 (↑x1 : Int),
      SV.bool (decide ((↑x1 : Int) ≥ (65536 : Int))) = SV.bool false,
      SV.bool (decide ((↑x1 : Int) ≥ (256 : Int))) = SV.bool false,
      SV.int IntKind.u8 (IntKind.u8.wrap (↑x1 : Int)) = SV.int IntKind.u8 (↑x1 : Int),
      IxOK Tryz.prog (9 : Nat)
        (SV.str
          {
            data :=
              {
                toList :=
                  [(0 : UInt8), (1 : UInt8), (2 : UInt8), (2 : UInt8), (3 : UInt8), (3 : UInt8), (3 : UInt8),
                    (3 : UInt8), (4 : UInt8), (4 : UInt8), (4 : UInt8), (4 : UInt8), (4 : UInt8), (4 : UInt8),
                    (4 : UInt8), (4 : UInt8), (5 : UInt8), (5 : UInt8), (5 : UInt8), (5 : UInt8), (5 : UInt8),
                    (5 : UInt8), (5 : UInt8), (5 : UInt8), (5 : UInt8), (5 : UInt8), (5 : UInt8), (5 : UInt8),
                    (5 : UInt8), (5 : UInt8), (5 : UInt8), (5 : UInt8), (6 : UInt8), (6 : UInt8), (6 : UInt8),
                    (6 : UInt8), (6 : UInt8), (6 : UInt8), (6 : UInt8), (6 : UInt8), (6 : UInt8), (6 : UInt8),
                    (6 : UInt8), (6 : UInt8), (6 : UInt8), (6 : UInt8), (6 : UInt8), (6 : UInt8), (6 : UInt8),
                    (6 : UInt8), (6 : UInt8), (6 : UInt8), (6 : UInt8), (6 : UInt8), (6 : UInt8), (6 : UInt8),
                    (6 : UInt8), (6 : UInt8), (6 : UInt8), (6 : UInt8), (6 : UInt8), (6 : UInt8), (6 : UInt8),
                    (6 : UInt8), (7 : UInt8), (7 : UInt8), (7 : UInt8), (7 : UInt8), (7 : UInt8), (7 : UInt8),
                    (7 : UInt8), (7 : UInt8), (7 : UInt8), (7 : UInt8), (7 : UInt8), (7 : UInt8), (7 : UInt8),
                    (7 : UInt8), (7 : UInt8), (7 : UInt8), (7 : UInt8), (7 : UInt8), (7 : UInt8), (7 : UInt8),
                    (7 : UInt8), (7 : UInt8), (7 : UInt8), (7 : UInt8), (7 : UInt8), (7 : UInt8), (7 : UInt8),
                    (7 : UInt8), (7 : UInt8), (7 : UInt8), (7 : UInt8), (7 : UInt8), (7 : UInt8), (7 : UInt8),
                    (7 : UInt8), (7 : UInt8), (7 : UInt8), (7 : UInt8), (7 : UInt8), (7 : UInt8), (7 : UInt8),
                    (7 : UInt8), (7 : UInt8), (7 : UInt8), (7 : UInt8), (7 : UInt8), (7 : UInt8), (7 : UInt8),
                    (7 : UInt8), (7 : UInt8), (7 : UInt8), (7 : UInt8), (7 : UInt8), (7 : UInt8), (7 : UInt8),
                    (7 : UInt8), (7 : UInt8), (7 : UInt8), (7 : UInt8), (7 : UInt8), (7 : UInt8), (7 : UInt8),
                    (7 : UInt8), (7 : UInt8), (8 : UInt8), (8 : UInt8), (8 : UInt8), (8 : UInt8), (8 : UInt8),
                    (8 : UInt8), (8 : UInt8), (8 : UInt8), (8 : UInt8), (8 : UInt8), (8 : UInt8), (8 : UInt8),
                    (8 : UInt8), (8 : UInt8), (8 : UInt8), (8 : UInt8), (8 : UInt8), (8 : UInt8), (8 : UInt8),
                    (8 : UInt8), (8 : UInt8), (8 : UInt8), (8 : UInt8), (8 : UInt8), (8 : UInt8), (8 : UInt8),
                    (8 : UInt8), (8 : UInt8), (8 : UInt8), (8 : UInt8), (8 : UInt8), (8 : UInt8), (8 : UInt8),
                    (8 : UInt8), (8 : UInt8), (8 : UInt8), (8 : UInt8), (8 : UInt8), (8 : UInt8), (8 : UInt8),
                    (8 : UInt8), (8 : UInt8), (8 : UInt8), (8 : UInt8), (8 : UInt8), (8 : UInt8), (8 : UInt8),
                    (8 : UInt8), (8 : UInt8), (8 : UInt8), (8 : UInt8), (8 : UInt8), (8 : UInt8), (8 : UInt8),
                    (8 : UInt8), (8 : UInt8), (8 : UInt8), (8 : UInt8), (8 : UInt8), (8 : UInt8), (8 : UInt8),
                    (8 : UInt8), (8 : UInt8), (8 : UInt8), (8 : UInt8), (8 : UInt8), (8 : UInt8), (8 : UInt8),
                    (8 : UInt8), (8 : UInt8), (8 : UInt8), (8 : UInt8), (8 : UInt8), (8 : UInt8), (8 : UInt8),
                    (8 : UInt8), (8 : UInt8), (8 : UInt8), (8 : UInt8), (8 : UInt8), (8 : UInt8), (8 : UInt8),
                    (8 : UInt8), (8 : UInt8), (8 : UInt8), (8 : UInt8), (8 : UInt8), (8 : UInt8), (8 : UInt8),
                    (8 : UInt8), (8 : UInt8), (8 : UInt8), (8 : UInt8), (8 : UInt8), (8 : UInt8), (8 : UInt8),
                    (8 : UInt8), (8 : UInt8), (8 : UInt8), (8 : UInt8), (8 : UInt8), (8 : UInt8), (8 : UInt8),
                    (8 : UInt8), (8 : UInt8), (8 : UInt8), (8 : UInt8), (8 : UInt8), (8 : UInt8), (8 : UInt8),
                    (8 : UInt8), (8 : UInt8), (8 : UInt8), (8 : UInt8), (8 : UInt8), (8 : UInt8), (8 : UInt8),
                    (8 : UInt8), (8 : UInt8), (8 : UInt8), (8 : UInt8), (8 : UInt8), (8 : UInt8), (8 : UInt8),
                    (8 : UInt8), (8 : UInt8), (8 : UInt8), (8 : UInt8)] } })
        (SV.int IntKind.u8 (↑x1 : Int)) (SV.int IntKind.u8 (↑v : Int)),
      SV.int IntKind.i64 (IntKind.i64.wrap (↑v : Int)) = SV.int IntKind.i64 (↑v : Int),
      SV.int IntKind.i64 (IntKind.i64.wrap ((32 : Int) + (↑v : Int))) = SV.int IntKind.i64 (↑n : Int)]) := by kernel_rfl

theorem len_101 (x : Nat) (x1 : Nat) (x3 : Nat) (v : Nat) (n : Nat) : out1
  (callFn Tryz.prog D0 (200 : Nat) (53 : FuncId) [u64 x] [] (0 : Nat)
    [DE.op (4 : Nat) (Dir.eqv (SV.bool true)), DE.op (6 : Nat) (Dir.eqv (u64 x1)),
      DE.op (8 : Nat) (Dir.eqv (SV.bool false)), DE.op (14 : Nat) (Dir.eqv (SV.bool true)),
      DE.op (16 : Nat) (Dir.eqv (u64 x3)), DE.op (21 : Nat) (Dir.eqv (SV.int IntKind.u8 (↑x3 : Int))),
      DE.op (22 : Nat) (Dir.at_ (SV.int IntKind.u8 (↑v : Int))),
      DE.op (23 : Nat) (Dir.eqv (SV.int IntKind.i64 (↑v : Int))),
      DE.op (24 : Nat) (Dir.eqv (SV.int IntKind.i64 (↑n : Int)))]) =
  some
  (SV.int IntKind.i64 (↑n : Int),
    [SV.bool (decide ((↑x : Int) ≥ (4294967296 : Int))) = SV.bool true,
      SV.int IntKind.u64 ((↑x : Int).fdiv ((2 : Int) ^ (32 : Nat))) = SV.int IntKind.u64 (↑x1 : Int),
      SV.bool (decide ((↑x1 : Int) ≥ (65536 : Int))) = SV.bool false,
      SV.bool (decide ((↑x1 : Int) ≥ (256 : Int))) = SV.bool true,
      SV.int IntKind.u64 ((↑x1 : Int).fdiv ((2 : Int) ^ (8 : Nat))) = SV.int IntKind.u64 (↑x3 : Int),
      SV.int IntKind.u8 (IntKind.u8.wrap (↑x3 : Int)) = SV.int IntKind.u8 (↑x3 : Int),
      IxOK Tryz.prog (9 : Nat)
        (SV.str
          {
            data :=
              {
                toList :=
                  [(0 : UInt8), (1 : UInt8), (2 : UInt8), (2 : UInt8), (3 : UInt8), (3 : UInt8), (3 : UInt8),
                    (3 : UInt8), (4 : UInt8), (4 : UInt8), (4 : UInt8), (4 : UInt8), (4 : UInt8), (4 : UInt8),
                    (4 : UInt8), (4 : UInt8), (5 : UInt8), (5 : UInt8), (5 : UInt8), (5 : UInt8), (5 : UInt8),
                    (5 : UInt8), (5 : UInt8), (5 : UInt8), (5 : UInt8), (5 : UInt8), (5 : UInt8), (5 : UInt8),
                    (5 : UInt8), (5 : UInt8), (5 : UInt8), (5 : UInt8), (6 : UInt8), (6 : UInt8), (6 : UInt8),
                    (6 : UInt8), (6 : UInt8), (6 : UInt8), (6 : UInt8), (6 : UInt8), (6 : UInt8), (6 : UInt8),
                    (6 : UInt8), (6 : UInt8), (6 : UInt8), (6 : UInt8), (6 : UInt8), (6 : UInt8), (6 : UInt8),
                    (6 : UInt8), (6 : UInt8), (6 : UInt8), (6 : UInt8), (6 : UInt8), (6 : UInt8), (6 : UInt8),
                    (6 : UInt8), (6 : UInt8), (6 : UInt8), (6 : UInt8), (6 : UInt8), (6 : UInt8), (6 : UInt8),
                    (6 : UInt8), (7 : UInt8), (7 : UInt8), (7 : UInt8), (7 : UInt8), (7 : UInt8), (7 : UInt8),
                    (7 : UInt8), (7 : UInt8), (7 : UInt8), (7 : UInt8), (7 : UInt8), (7 : UInt8), (7 : UInt8),
                    (7 : UInt8), (7 : UInt8), (7 : UInt8), (7 : UInt8), (7 : UInt8), (7 : UInt8), (7 : UInt8),
                    (7 : UInt8), (7 : UInt8), (7 : UInt8), (7 : UInt8), (7 : UInt8), (7 : UInt8), (7 : UInt8),
                    (7 : UInt8), (7 : UInt8), (7 : UInt8), (7 : UInt8), (7 : UInt8), (7 : UInt8), (7 : UInt8),
                    (7 : UInt8), (7 : UInt8), (7 : UInt8), (7 : UInt8), (7 : UInt8), (7 : UInt8), (7 : UInt8),
                    (7 : UInt8), (7 : UInt8), (7 : UInt8), (7 : UInt8), (7 : UInt8), (7 : UInt8), (7 : UInt8),
                    (7 : UInt8), (7 : UInt8), (7 : UInt8), (7 : UInt8), (7 : UInt8), (7 : UInt8), (7 : UInt8),
                    (7 : UInt8), (7 : UInt8), (7 : UInt8), (7 : UInt8), (7 : UInt8), (7 : UInt8), (7 : UInt8),
                    (7 : UInt8), (7 : UInt8), (8 : UInt8), (8 : UInt8), (8 : UInt8), (8 : UInt8), (8 : UInt8),
                    (8 : UInt8), (8 : UInt8), (8 : UInt8), (8 : UInt8), (8 : UInt8), (8 : UInt8), (8 : UInt8),
                    (8 : UInt8), (8 : UInt8), (8 : UInt8), (8 : UInt8), (8 : UInt8), (8 : UInt8), (8 : UInt8),
                    (8 : UInt8), (8 : UInt8), (8 : UInt8), (8 : UInt8), (8 : UInt8), (8 : UInt8), (8 : UInt8),
                    (8 : UInt8), (8 : UInt8), (8 : UInt8), (8 : UInt8), (8 : UInt8), (8 : UInt8), (8 : UInt8),
                    (8 : UInt8), (8 : UInt8), (8 : UInt8), (8 : UInt8), (8 : UInt8), (8 : UInt8), (8 : UInt8),
                    (8 : UInt8), (8 : UInt8), (8 : UInt8), (8 : UInt8), (8 : UInt8), (8 : UInt8), (8 : UInt8),
                    (8 : UInt8), (8 : UInt8), (8 : UInt8), (8 : UInt8), (8 : UInt8), (8 : UInt8), (8 : UInt8),
                    (8 : UInt8), (8 : UInt8), (8 : UInt8), (8 : UInt8), (8 : UInt8), (8 : UInt8), (8 : UInt8),
                    (8 : UInt8), (8 : UInt8), (8 : UInt8), (8 : UInt8), (8 : UInt8), (8 : UInt8), (8 : UInt8),
                    (8 : UInt8), (8 : UInt8), (8 : UInt8), (8 : UInt8), (8 : UInt8), (8 : UInt8), (8 : UInt8),
                    (8 : UInt8), (8 : UInt8), (8 : UInt8), (8 : UInt8), (8 : UInt8), (8 : UInt8), (8 : UInt8),
                    (8 : UInt8), (8 : UInt8), (8 : UInt8), (8 : UInt8), (8 : UInt8), (8 : UInt8), (8 : UInt8),
                    (8 : UInt8), (8 : UInt8), (8 : UInt8), (8 : UInt8), (8 : UInt8), (8 : UInt8), (8 : UInt8),
                    (8 : UInt8), (8 : UInt8), (8 : UInt8), (8 : UInt8), (8 : UInt8), (8 : UInt8), (8 : UInt8),
                    (8 : UInt8), (8 : UInt8), (8 : UInt8), (8 : UInt8), (8 : UInt8), (8 : UInt8), (8 : UInt8),
                    (8 : UInt8), (8 : UInt8), (8 : UInt8), (8 : UInt8), (8 : UInt8), (8 : UInt8), (8 : UInt8),
                    (8 : UInt8), (8 : UInt8), (8 : UInt8), (8 : UInt8), (8 : UInt8), (8 : UInt8), (8 : UInt8),
                    (8 : UInt8), (8 : UInt8), (8 : UInt8), (8 : UInt8)] } })
        (SV.int IntKind.u8 (↑x3 : Int)) (SV.int IntKind.u8 (↑v : Int)),
      SV.int IntKind.i64 (IntKind.i64.wrap (↑v : Int)) = SV.int IntKind.i64 (↑v : Int),
      SV.int IntKind.i64 (IntKind.i64.wrap (Int.ofNat (40 : Nat) + (↑v : Int))) = SV.int IntKind.i64 (↑n : Int)]) := by kernel_rfl

theorem len_110 (x : Nat) (x1 : Nat) (x2 : Nat) (v : Nat) (n : Nat) : out1
  (callFn Tryz.prog D0 (200 : Nat) (53 : FuncId) [u64 x] [] (0 : Nat)
    [DE.op (4 : Nat) (Dir.eqv (SV.bool true)), DE.op (6 : Nat) (Dir.eqv (u64 x1)),
      DE.op (8 : Nat) (Dir.eqv (SV.bool true)), DE.op (10 : Nat) (Dir.eqv (u64 x2)),
      DE.op (14 : Nat) (Dir.eqv (SV.bool false)), DE.op (21 : Nat) (Dir.eqv (SV.int IntKind.u8 (↑x2 : Int))),
      DE.op (22 : Nat) (Dir.at_ (SV.int IntKind.u8 (↑v : Int))),
      DE.op (23 : Nat) (Dir.eqv (SV.int IntKind.i64 (↑v : Int))),
      DE.op (24 : Nat) (Dir.eqv (SV.int IntKind.i64 (↑n : Int)))]) =
  some
  (SV.int IntKind.i64 (↑n : Int),
    [SV.bool (decide ((↑x : Int) ≥ (4294967296 : Int))) = SV.bool true,
      SV.int IntKind.u64 ((↑x : Int).fdiv ((2 : Int) ^ (32 : Nat))) = SV.int IntKind.u64 (↑x1 : Int),
      SV.bool (decide ((↑x1 : Int) ≥ (65536 : Int))) = SV.bool true,
      SV.int IntKind.u64 ((↑x1 : Int).fdiv ((2 : Int) ^ (16 : Nat))) = SV.int IntKind.u64 (↑x2 : Int),
      SV.bool (decide ((↑x2 : Int) ≥ (256 : Int))) = SV.bool false,
      SV.int IntKind.u8 (IntKind.u8.wrap (↑x2 : Int)) = SV.int IntKind.u8 (↑x2 : Int),
      IxOK Tryz.prog (9 : Nat)
        (SV.str
          {
            data :=
              {
                toList :=
                  [(0 : UInt8), (1 : UInt8), (2 : UInt8), (2 : UInt8), (3 : UInt8), (3 : UInt8), (3 : UInt8),
                    (3 : UInt8), (4 : UInt8), (4 : UInt8), (4 : UInt8), (4 : UInt8), (4 : UInt8), (4 : UInt8),
                    (4 : UInt8), (4 : UInt8), (5 : UInt8), (5 : UInt8), (5 : UInt8), (5 : UInt8), (5 : UInt8),
                    (5 : UInt8), (5 : UInt8), (5 : UInt8), (5 : UInt8), (5 : UInt8), (5 : UInt8), (5 : UInt8),
                    (5 : UInt8), (5 : UInt8), (5 : UInt8), (5 : UInt8), (6 : UInt8), (6 : UInt8), (6 : UInt8),
                    (6 : UInt8), (6 : UInt8), (6 : UInt8), (6 : UInt8), (6 : UInt8), (6 : UInt8), (6 : UInt8),
                    (6 : UInt8), (6 : UInt8), (6 : UInt8), (6 : UInt8), (6 : UInt8), (6 : UInt8), (6 : UInt8),
                    (6 : UInt8), (6 : UInt8), (6 : UInt8), (6 : UInt8), (6 : UInt8), (6 : UInt8), (6 : UInt8),
                    (6 : UInt8), (6 : UInt8), (6 : UInt8), (6 : UInt8), (6 : UInt8), (6 : UInt8), (6 : UInt8),
                    (6 : UInt8), (7 : UInt8), (7 : UInt8), (7 : UInt8), (7 : UInt8), (7 : UInt8), (7 : UInt8),
                    (7 : UInt8), (7 : UInt8), (7 : UInt8), (7 : UInt8), (7 : UInt8), (7 : UInt8), (7 : UInt8),
                    (7 : UInt8), (7 : UInt8), (7 : UInt8), (7 : UInt8), (7 : UInt8), (7 : UInt8), (7 : UInt8),
                    (7 : UInt8), (7 : UInt8), (7 : UInt8), (7 : UInt8), (7 : UInt8), (7 : UInt8), (7 : UInt8),
                    (7 : UInt8), (7 : UInt8), (7 : UInt8), (7 : UInt8), (7 : UInt8), (7 : UInt8), (7 : UInt8),
                    (7 : UInt8), (7 : UInt8), (7 : UInt8), (7 : UInt8), (7 : UInt8), (7 : UInt8), (7 : UInt8),
                    (7 : UInt8), (7 : UInt8), (7 : UInt8), (7 : UInt8), (7 : UInt8), (7 : UInt8), (7 : UInt8),
                    (7 : UInt8), (7 : UInt8), (7 : UInt8), (7 : UInt8), (7 : UInt8), (7 : UInt8), (7 : UInt8),
                    (7 : UInt8), (7 : UInt8), (7 : UInt8), (7 : UInt8), (7 : UInt8), (7 : UInt8), (7 : UInt8),
                    (7 : UInt8), (7 : UInt8), (8 : UInt8), (8 : UInt8), (8 : UInt8), (8 : UInt8), (8 : UInt8),
                    (8 : UInt8), (8 : UInt8), (8 : UInt8), (8 : UInt8), (8 : UInt8), (8 : UInt8), (8 : UInt8),
                    (8 : UInt8), (8 : UInt8), (8 : UInt8), (8 : UInt8), (8 : UInt8), (8 : UInt8), (8 : UInt8),
                    (8 : UInt8), (8 : UInt8), (8 : UInt8), (8 : UInt8), (8 : UInt8), (8 : UInt8), (8 : UInt8),
                    (8 : UInt8), (8 : UInt8), (8 : UInt8), (8 : UInt8), (8 : UInt8), (8 : UInt8), (8 : UInt8),
                    (8 : UInt8), (8 : UInt8), (8 : UInt8), (8 : UInt8), (8 : UInt8), (8 : UInt8), (8 : UInt8),
                    (8 : UInt8), (8 : UInt8), (8 : UInt8), (8 : UInt8), (8 : UInt8), (8 : UInt8), (8 : UInt8),
                    (8 : UInt8), (8 : UInt8), (8 : UInt8), (8 : UInt8), (8 : UInt8), (8 : UInt8), (8 : UInt8),
                    (8 : UInt8), (8 : UInt8), (8 : UInt8), (8 : UInt8), (8 : UInt8), (8 : UInt8), (8 : UInt8),
                    (8 : UInt8), (8 : UInt8), (8 : UInt8), (8 : UInt8), (8 : UInt8), (8 : UInt8), (8 : UInt8),
                    (8 : UInt8), (8 : UInt8), (8 : UInt8), (8 : UInt8), (8 : UInt8), (8 : UInt8), (8 : UInt8),
                    (8 : UInt8), (8 : UInt8), (8 : UInt8), (8 : UInt8), (8 : UInt8), (8 : UInt8), (8 : UInt8),
                    (8 : UInt8), (8 : UInt8), (8 : UInt8), (8 : UInt8), (8 : UInt8), (8 : UInt8), (8 : UInt8),
                    (8 : UInt8), (8 : UInt8), (8 : UInt8), (8 : UInt8), (8 : UInt8), (8 : UInt8), (8 : UInt8),
                    (8 : UInt8), (8 : UInt8), (8 : UInt8), (8 : UInt8), (8 : UInt8), (8 : UInt8), (8 : UInt8),
                    (8 : UInt8), (8 : UInt8), (8 : UInt8), (8 : UInt8), (8 : UInt8), (8 : UInt8), (8 : UInt8),
                    (8 : UInt8), (8 : UInt8), (8 : UInt8), (8 : UInt8), (8 : UInt8), (8 : UInt8), (8 : UInt8),
                    (8 : UInt8), (8 : UInt8), (8 : UInt8), (8 : UInt8), (8 : UInt8), (8 : UInt8), (8 : UInt8),
                    (8 : UInt8), (8 : UInt8), (8 : UInt8), (8 : UInt8)] } })
        (SV.int IntKind.u8 (↑x2 : Int)) (SV.int IntKind.u8 (↑v : Int)),
      SV.int IntKind.i64 (IntKind.i64.wrap (↑v : Int)) = SV.int IntKind.i64 (↑v : Int),
      SV.int IntKind.i64 (IntKind.i64.wrap (Int.ofNat (48 : Nat) + (↑v : Int))) = SV.int IntKind.i64 (↑n : Int)]) := by kernel_rfl

theorem len_111 (x : Nat) (x1 : Nat) (x2 : Nat) (x3 : Nat) (v : Nat) (n : Nat) : out1
  (callFn Tryz.prog D0 (200 : Nat) (53 : FuncId) [u64 x] [] (0 : Nat)
    [DE.op (4 : Nat) (Dir.eqv (SV.bool true)), DE.op (6 : Nat) (Dir.eqv (u64 x1)),
      DE.op (8 : Nat) (Dir.eqv (SV.bool true)), DE.op (10 : Nat) (Dir.eqv (u64 x2)),
      DE.op (14 : Nat) (Dir.eqv (SV.bool true)), DE.op (16 : Nat) (Dir.eqv (u64 x3)),
      DE.op (21 : Nat) (Dir.eqv (SV.int IntKind.u8 (↑x3 : Int))),
      DE.op (22 : Nat) (Dir.at_ (SV.int IntKind.u8 (↑v : Int))),
      DE.op (23 : Nat) (Dir.eqv (SV.int IntKind.i64 (↑v : Int))),
      DE.op (24 : Nat) (Dir.eqv (SV.int IntKind.i64 (↑n : Int)))]) =
  some
  (SV.int IntKind.i64 (↑n : Int),
    [SV.bool (decide ((↑x : Int) ≥ (4294967296 : Int))) = SV.bool true,
      SV.int IntKind.u64 ((↑x : Int).fdiv ((2 : Int) ^ (32 : Nat))) = SV.int IntKind.u64 (↑x1 : Int),
      SV.bool (decide ((↑x1 : Int) ≥ (65536 : Int))) = SV.bool true,
      SV.int IntKind.u64 ((↑x1 : Int).fdiv ((2 : Int) ^ (16 : Nat))) = SV.int IntKind.u64 (↑x2 : Int),
      SV.bool (decide ((↑x2 : Int) ≥ (256 : Int))) = SV.bool true,
      SV.int IntKind.u64 ((↑x2 : Int).fdiv ((2 : Int) ^ (8 : Nat))) = SV.int IntKind.u64 (↑x3 : Int),
      SV.int IntKind.u8 (IntKind.u8.wrap (↑x3 : Int)) = SV.int IntKind.u8 (↑x3 : Int),
      IxOK Tryz.prog (9 : Nat)
        (SV.str
          {
            data :=
              {
                toList :=
                  [(0 : UInt8), (1 : UInt8), (2 : UInt8), (2 : UInt8), (3 : UInt8), (3 : UInt8), (3 : UInt8),
                    (3 : UInt8), (4 : UInt8), (4 : UInt8), (4 : UInt8), (4 : UInt8), (4 : UInt8), (4 : UInt8),
                    (4 : UInt8), (4 : UInt8), (5 : UInt8), (5 : UInt8), (5 : UInt8), (5 : UInt8), (5 : UInt8),
                    (5 : UInt8), (5 : UInt8), (5 : UInt8), (5 : UInt8), (5 : UInt8), (5 : UInt8), (5 : UInt8),
                    (5 : UInt8), (5 : UInt8), (5 : UInt8), (5 : UInt8), (6 : UInt8), (6 : UInt8), (6 : UInt8),
                    (6 : UInt8), (6 : UInt8), (6 : UInt8), (6 : UInt8), (6 : UInt8), (6 : UInt8), (6 : UInt8),
                    (6 : UInt8), (6 : UInt8), (6 : UInt8), (6 : UInt8), (6 : UInt8), (6 : UInt8), (6 : UInt8),
                    (6 : UInt8), (6 : UInt8), (6 : UInt8), (6 : UInt8), (6 : UInt8), (6 : UInt8), (6 : UInt8),
                    (6 : UInt8), (6 : UInt8), (6 : UInt8), (6 : UInt8), (6 : UInt8), (6 : UInt8), (6 : UInt8),
                    (6 : UInt8), (7 : UInt8), (7 : UInt8), (7 : UInt8), (7 : UInt8), (7 : UInt8), (7 : UInt8),
                    (7 : UInt8), (7 : UInt8), (7 : UInt8), (7 : UInt8), (7 : UInt8), (7 : UInt8), (7 : UInt8),
                    (7 : UInt8), (7 : UInt8), (7 : UInt8), (7 : UInt8), (7 : UInt8), (7 : UInt8), (7 : UInt8),
                    (7 : UInt8), (7 : UInt8), (7 : UInt8), (7 : UInt8), (7 : UInt8), (7 : UInt8), (7 : UInt8),
                    (7 : UInt8), (7 : UInt8), (7 : UInt8), (7 : UInt8), (7 : UInt8), (7 : UInt8), (7 : UInt8),
                    (7 : UInt8), (7 : UInt8), (7 : UInt8), (7 : UInt8), (7 : UInt8), (7 : UInt8), (7 : UInt8),
                    (7 : UInt8), (7 : UInt8), (7 : UInt8), (7 : UInt8), (7 : UInt8), (7 : UInt8), (7 : UInt8),
                    (7 : UInt8), (7 : UInt8), (7 : UInt8), (7 : UInt8), (7 : UInt8), (7 : UInt8), (7 : UInt8),
                    (7 : UInt8), (7 : UInt8), (7 : UInt8), (7 : UInt8), (7 : UInt8), (7 : UInt8), (7 : UInt8),
                    (7 : UInt8), (7 : UInt8), (8 : UInt8), (8 : UInt8), (8 : UInt8), (8 : UInt8), (8 : UInt8),
                    (8 : UInt8), (8 : UInt8), (8 : UInt8), (8 : UInt8), (8 : UInt8), (8 : UInt8), (8 : UInt8),
                    (8 : UInt8), (8 : UInt8), (8 : UInt8), (8 : UInt8), (8 : UInt8), (8 : UInt8), (8 : UInt8),
                    (8 : UInt8), (8 : UInt8), (8 : UInt8), (8 : UInt8), (8 : UInt8), (8 : UInt8), (8 : UInt8),
                    (8 : UInt8), (8 : UInt8), (8 : UInt8), (8 : UInt8), (8 : UInt8), (8 : UInt8), (8 : UInt8),
                    (8 : UInt8), (8 : UInt8), (8 : UInt8), (8 : UInt8), (8 : UInt8), (8 : UInt8), (8 : UInt8),
                    (8 : UInt8), (8 : UInt8), (8 : UInt8), (8 : UInt8), (8 : UInt8), (8 : UInt8), (8 : UInt8),
                    (8 : UInt8), (8 : UInt8), (8 : UInt8), (8 : UInt8), (8 : UInt8), (8 : UInt8), (8 : UInt8),
                    (8 : UInt8), (8 : UInt8), (8 : UInt8), (8 : UInt8), (8 : UInt8), (8 : UInt8), (8 : UInt8),
                    (8 : UInt8), (8 : UInt8), (8 : UInt8), (8 : UInt8), (8 : UInt8), (8 : UInt8), (8 : UInt8),
                    (8 : UInt8), (8 : UInt8), (8 : UInt8), (8 : UInt8), (8 : UInt8), (8 : UInt8), (8 : UInt8),
                    (8 : UInt8), (8 : UInt8), (8 : UInt8), (8 : UInt8), (8 : UInt8), (8 : UInt8), (8 : UInt8),
                    (8 : UInt8), (8 : UInt8), (8 : UInt8), (8 : UInt8), (8 : UInt8), (8 : UInt8), (8 : UInt8),
                    (8 : UInt8), (8 : UInt8), (8 : UInt8), (8 : UInt8), (8 : UInt8), (8 : UInt8), (8 : UInt8),
                    (8 : UInt8), (8 : UInt8), (8 : UInt8), (8 : UInt8), (8 : UInt8), (8 : UInt8), (8 : UInt8),
                    (8 : UInt8), (8 : UInt8), (8 : UInt8), (8 : UInt8), (8 : UInt8), (8 : UInt8), (8 : UInt8),
                    (8 : UInt8), (8 : UInt8), (8 : UInt8), (8 : UInt8), (8 : UInt8), (8 : UInt8), (8 : UInt8),
                    (8 : UInt8), (8 : UInt8), (8 : UInt8), (8 : UInt8), (8 : UInt8), (8 : UInt8), (8 : UInt8),
                    (8 : UInt8), (8 : UInt8), (8 : UInt8), (8 : UInt8)] } })
        (SV.int IntKind.u8 (↑x3 : Int)) (SV.int IntKind.u8 (↑v : Int)),
      SV.int IntKind.i64 (IntKind.i64.wrap (↑v : Int)) = SV.int IntKind.i64 (↑v : Int),
      SV.int IntKind.i64 (IntKind.i64.wrap (Int.ofNat (56 : Nat) + (↑v : Int))) = SV.int IntKind.i64 (↑n : Int)]) := by kernel_rfl

theorem lead_raw (x : Nat) (n : Nat) (m : Nat) : out1
  (callFn Tryz.prog D0 (200 : Nat) (44 : FuncId) [u64 x] [] (0 : Nat)
    [DE.op (4 : Nat) (Dir.con (SV.int IntKind.i64 (↑n : Int)) [] []),
      DE.op (5 : Nat) (Dir.eqv (SV.int IntKind.i64 (↑m : Int)))]) =
  some
  (SV.int IntKind.i64 (↑m : Int),
    [Con Tryz.prog (53 : Nat) [SV.int IntKind.u64 (↑x : Int)] [] (SV.int IntKind.i64 (↑n : Int)) [],
      SV.int IntKind.i64 (IntKind.i64.wrap ((64 : Int) - (↑n : Int))) = SV.int IntKind.i64 (↑m : Int)]) := by kernel_rfl

end Go.Sx
