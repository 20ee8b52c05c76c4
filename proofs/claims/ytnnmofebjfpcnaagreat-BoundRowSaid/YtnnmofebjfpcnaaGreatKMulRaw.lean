/- What functions of the program answer: contracts, each proved by the executor. -/
import Derived.Test.YtnnmofebjfpcnaaGreatSeatD
import Derived.Test.YtnnmofebjfpcnaaGreatSxCut
import Derived.Test.YtnnmofebjfpcnaaGreatSxArith
import Derived.Test.YtnnmofebjfpcnaaGreatPlBound
set_option linter.unusedVariables false
set_option linter.unusedSimpArgs false

namespace Go.Sx
open Go.Proofs
set_option maxRecDepth 100000
theorem mul64_raw (a : Nat) (b : Nat) (a0 : Nat) (a1 : Nat) (b0 : Nat) (b1 : Nat) (w0 : Nat) (t : Nat) (w1 : Nat) (w2 : Nat) (v1 : Nat) (hi : Nat) (lo : Nat) : out1
  (callFn Tryz.prog D0 (200 : Nat) (31 : FuncId) [u64 a, u64 b] [] (0 : Nat)
    [DE.op (15 : Nat) (Dir.eqv (u64 a0)), DE.op (17 : Nat) (Dir.eqv (u64 a1)), DE.op (19 : Nat) (Dir.eqv (u64 b0)),
      DE.op (21 : Nat) (Dir.eqv (u64 b1)), DE.op (24 : Nat) (Dir.eqv (u64 w0)), DE.op (30 : Nat) (Dir.eqv (u64 t)),
      DE.op (32 : Nat) (Dir.eqv (u64 w1)), DE.op (34 : Nat) (Dir.eqv (u64 w2)), DE.op (39 : Nat) (Dir.eqv (u64 v1)),
      DE.op (47 : Nat) (Dir.eqv (u64 hi)), DE.op (50 : Nat) (Dir.eqv (u64 lo))]) =
  some
  (SV.tup [SV.int IntKind.u64 (↑hi : Int), SV.int IntKind.u64 (↑lo : Int)],
    [SV.int IntKind.u64
          (IntKind.u64.wrap
            (↑(BitVec.ofInt (64 : Nat) (↑a : Int) &&& BitVec.ofInt (64 : Nat) (4294967295 : Int)).toNat : Int)) =
        SV.int IntKind.u64 (↑a0 : Int),
      SV.int IntKind.u64 ((↑a : Int).fdiv ((2 : Int) ^ (32 : Nat))) = SV.int IntKind.u64 (↑a1 : Int),
      SV.int IntKind.u64
          (IntKind.u64.wrap
            (↑(BitVec.ofInt (64 : Nat) (↑b : Int) &&& BitVec.ofInt (64 : Nat) (4294967295 : Int)).toNat : Int)) =
        SV.int IntKind.u64 (↑b0 : Int),
      SV.int IntKind.u64 ((↑b : Int).fdiv ((2 : Int) ^ (32 : Nat))) = SV.int IntKind.u64 (↑b1 : Int),
      SV.int IntKind.u64 (IntKind.u64.wrap ((↑a0 : Int) * (↑b0 : Int))) = SV.int IntKind.u64 (↑w0 : Int),
      SV.int IntKind.u64
          (IntKind.u64.wrap
            (IntKind.u64.wrap ((↑a1 : Int) * (↑b0 : Int)) + (↑w0 : Int).fdiv ((2 : Int) ^ (32 : Nat)))) =
        SV.int IntKind.u64 (↑t : Int),
      SV.int IntKind.u64
          (IntKind.u64.wrap
            (↑(BitVec.ofInt (64 : Nat) (↑t : Int) &&& BitVec.ofInt (64 : Nat) (4294967295 : Int)).toNat : Int)) =
        SV.int IntKind.u64 (↑w1 : Int),
      SV.int IntKind.u64 ((↑t : Int).fdiv ((2 : Int) ^ (32 : Nat))) = SV.int IntKind.u64 (↑w2 : Int),
      SV.int IntKind.u64 (IntKind.u64.wrap ((↑w1 : Int) + IntKind.u64.wrap ((↑a0 : Int) * (↑b1 : Int)))) =
        SV.int IntKind.u64 (↑v1 : Int),
      SV.int IntKind.u64
          (IntKind.u64.wrap
            (IntKind.u64.wrap (IntKind.u64.wrap ((↑a1 : Int) * (↑b1 : Int)) + (↑w2 : Int)) +
              (↑v1 : Int).fdiv ((2 : Int) ^ (32 : Nat)))) =
        SV.int IntKind.u64 (↑hi : Int),
      SV.int IntKind.u64 (IntKind.u64.wrap ((↑a : Int) * (↑b : Int))) = SV.int IntKind.u64 (↑lo : Int)]) := by kernel_rfl

theorem full_raw (a : Nat) (b : Nat) (hi : Nat) (lo : Nat) : out1
  (callFn Tryz.prog D0 (200 : Nat) (18 : FuncId) [u64 a, u64 b] [] (0 : Nat)
    [DE.op (10 : Nat) (Dir.con (SV.tup [u64 hi, u64 lo]) [] [])]) =
  some
  (SV.agg [SV.int IntKind.u64 (↑hi : Int), SV.int IntKind.u64 (↑lo : Int)],
    [Con Tryz.prog (31 : Nat) [SV.int IntKind.u64 (↑a : Int), SV.int IntKind.u64 (↑b : Int)] []
        (SV.tup [SV.int IntKind.u64 (↑hi : Int), SV.int IntKind.u64 (↑lo : Int)]) []]) := by kernel_rfl

theorem mul_raw (a1 : Nat) (a0 : Nat) (b1 : Nat) (b0 : Nat) (hi : Nat) (lo : Nat) (p : Nat) (q : Nat) (s : Nat) (h : Nat) : out1
  (callFn Tryz.prog D0 (200 : Nat) (11 : FuncId) [SV.agg [u64 a1, u64 a0], SV.agg [u64 b1, u64 b0]] [] (0 : Nat)
    [DE.op (10 : Nat) (Dir.con (SV.agg [u64 hi, u64 lo]) [] []), DE.op (17 : Nat) (Dir.eqv (u64 p)),
      DE.op (22 : Nat) (Dir.eqv (u64 q)), DE.op (23 : Nat) (Dir.eqv (u64 s)), DE.op (24 : Nat) (Dir.eqv (u64 h))]) =
  some
  (SV.agg [SV.int IntKind.u64 (↑h : Int), SV.int IntKind.u64 (↑lo : Int)],
    [Con Tryz.prog (18 : Nat) [SV.int IntKind.u64 (↑a0 : Int), SV.int IntKind.u64 (↑b0 : Int)] []
        (SV.agg [SV.int IntKind.u64 (↑hi : Int), SV.int IntKind.u64 (↑lo : Int)]) [],
      SV.int IntKind.u64 (IntKind.u64.wrap ((↑a1 : Int) * (↑b0 : Int))) = SV.int IntKind.u64 (↑p : Int),
      SV.int IntKind.u64 (IntKind.u64.wrap ((↑a0 : Int) * (↑b1 : Int))) = SV.int IntKind.u64 (↑q : Int),
      SV.int IntKind.u64 (IntKind.u64.wrap ((↑p : Int) + (↑q : Int))) = SV.int IntKind.u64 (↑s : Int),
      SV.int IntKind.u64 (IntKind.u64.wrap ((↑hi : Int) + (↑s : Int))) = SV.int IntKind.u64 (↑h : Int)]) := by kernel_rfl

theorem rest_raw (b : Nat) (n : Nat) (r : Nat) : out1
  (callFn Tryz.prog D0 (200 : Nat) (19 : FuncId) [u64 b] [] (0 : Nat)
    [DE.op (4 : Nat) (Dir.eqv (u64 n)), DE.op (6 : Nat) (Dir.eqv (u64 r))]) =
  some
  (SV.int IntKind.u64 (↑r : Int),
    [SV.int IntKind.u64 (IntKind.u64.wrap ((0 : Int) - (↑b : Int))) = SV.int IntKind.u64 (↑n : Int),
      SV.int IntKind.u64 ((↑n : Int).tmod (↑b : Int)) = SV.int IntKind.u64 (↑r : Int), (↑b : Int) ≠ (0 : Int)]) := by kernel_rfl

theorem rrest_raw (b : Nat) (n : Nat) (m : Nat) (r : Nat) : out1
  (callFn Tryz.prog D0 (200 : Nat) (21 : FuncId) [u64 b] [] (0 : Nat)
    [DE.op (4 : Nat) (Dir.eqv (u64 n)), DE.op (5 : Nat) (Dir.eqv (u64 m)), DE.op (7 : Nat) (Dir.eqv (u64 r))]) =
  some
  (SV.int IntKind.u64 (↑r : Int),
    [SV.int IntKind.u64 (Int.tmod (18446744073709551615 : Int) (↑b : Int)) = SV.int IntKind.u64 (↑n : Int),
      (↑b : Int) ≠ (0 : Int),
      SV.int IntKind.u64 (IntKind.u64.wrap ((↑n : Int) + (1 : Int))) = SV.int IntKind.u64 (↑m : Int),
      SV.int IntKind.u64 ((↑m : Int).tmod (↑b : Int)) = SV.int IntKind.u64 (↑r : Int), (↑b : Int) ≠ (0 : Int)]) := by kernel_rfl

theorem acc0_raw (x : Nat) : out1 (callFn Tryz.prog D0 (200 : Nat) (6 : FuncId) [u64 x, SV.num IntKind.u64 (0 : Int)] [] (0 : Nat) []) =
  some (SV.tup [SV.num IntKind.u64 (0 : Int), SV.bool false], []) := by kernel_rfl

theorem acc1_raw (x : Nat) (b : Nat) (hi : Nat) (lo : Nat) (r : Nat) : out1
  (callFn Tryz.prog D0 (200 : Nat) (6 : FuncId) [u64 x, u64 b] [] (0 : Nat)
    [DE.op (8 : Nat) (Dir.eqv (SV.bool false)), DE.op (11 : Nat) (Dir.con (SV.agg [u64 hi, u64 lo]) [] []),
      DE.op (15 : Nat) (Dir.con (u64 r) [] []), DE.op (16 : Nat) (Dir.eqv (SV.bool true))]) =
  some
  (SV.tup [SV.num IntKind.u64 (0 : Int), SV.bool false],
    [SV.bool ((↑b : Int) == (0 : Int)) = SV.bool false,
      Con Tryz.prog (18 : Nat) [SV.int IntKind.u64 (↑x : Int), SV.int IntKind.u64 (↑b : Int)] []
        (SV.agg [SV.int IntKind.u64 (↑hi : Int), SV.int IntKind.u64 (↑lo : Int)]) [],
      Con Tryz.prog (19 : Nat) [SV.int IntKind.u64 (↑b : Int)] [] (SV.int IntKind.u64 (↑r : Int)) [],
      SV.bool (decide ((↑lo : Int) < (↑r : Int))) = SV.bool true]) := by kernel_rfl

theorem acc2_raw (x : Nat) (b : Nat) (hi : Nat) (lo : Nat) (r : Nat) : out1
  (callFn Tryz.prog D0 (200 : Nat) (6 : FuncId) [u64 x, u64 b] [] (0 : Nat)
    [DE.op (8 : Nat) (Dir.eqv (SV.bool false)), DE.op (11 : Nat) (Dir.con (SV.agg [u64 hi, u64 lo]) [] []),
      DE.op (15 : Nat) (Dir.con (u64 r) [] []), DE.op (16 : Nat) (Dir.eqv (SV.bool false))]) =
  some
  (SV.tup [SV.int IntKind.u64 (↑hi : Int), SV.bool true],
    [SV.bool ((↑b : Int) == (0 : Int)) = SV.bool false,
      Con Tryz.prog (18 : Nat) [SV.int IntKind.u64 (↑x : Int), SV.int IntKind.u64 (↑b : Int)] []
        (SV.agg [SV.int IntKind.u64 (↑hi : Int), SV.int IntKind.u64 (↑lo : Int)]) [],
      Con Tryz.prog (19 : Nat) [SV.int IntKind.u64 (↑b : Int)] [] (SV.int IntKind.u64 (↑r : Int)) [],
      SV.bool (decide ((↑lo : Int) < (↑r : Int))) = SV.bool false]) := by kernel_rfl

theorem racc0_raw (x : Nat) : out1 (callFn Tryz.prog D0 (200 : Nat) (7 : FuncId) [u64 x, SV.num IntKind.u64 (0 : Int)] [] (0 : Nat) []) =
  some (SV.tup [SV.num IntKind.u64 (0 : Int), SV.bool false], []) := by kernel_rfl

theorem racc1_raw (x : Nat) (b : Nat) (hi : Nat) (lo : Nat) (r : Nat) : out1
  (callFn Tryz.prog D0 (200 : Nat) (7 : FuncId) [u64 x, u64 b] [] (0 : Nat)
    [DE.op (8 : Nat) (Dir.eqv (SV.bool false)), DE.op (13 : Nat) (Dir.con (SV.agg [u64 hi, u64 lo]) [] []),
      DE.op (17 : Nat) (Dir.con (u64 r) [] []), DE.op (18 : Nat) (Dir.eqv (SV.bool true))]) =
  some
  (SV.tup [SV.num IntKind.u64 (0 : Int), SV.bool false],
    [SV.bool ((↑b : Int) == (0 : Int)) = SV.bool false,
      Con Tryz.prog (20 : Nat)
        [SV.agg [SV.int IntKind.u64 (0 : Int), SV.int IntKind.u64 (↑x : Int)],
          SV.agg [SV.int IntKind.u64 (0 : Int), SV.int IntKind.u64 (↑b : Int)]]
        [] (SV.agg [SV.int IntKind.u64 (↑hi : Int), SV.int IntKind.u64 (↑lo : Int)]) [],
      Con Tryz.prog (21 : Nat) [SV.int IntKind.u64 (↑b : Int)] [] (SV.int IntKind.u64 (↑r : Int)) [],
      SV.bool (decide ((↑lo : Int) < (↑r : Int))) = SV.bool true]) := by kernel_rfl

theorem racc2_raw (x : Nat) (b : Nat) (hi : Nat) (lo : Nat) (r : Nat) : out1
  (callFn Tryz.prog D0 (200 : Nat) (7 : FuncId) [u64 x, u64 b] [] (0 : Nat)
    [DE.op (8 : Nat) (Dir.eqv (SV.bool false)), DE.op (13 : Nat) (Dir.con (SV.agg [u64 hi, u64 lo]) [] []),
      DE.op (17 : Nat) (Dir.con (u64 r) [] []), DE.op (18 : Nat) (Dir.eqv (SV.bool false))]) =
  some
  (SV.tup [SV.int IntKind.u64 (↑hi : Int), SV.bool true],
    [SV.bool ((↑b : Int) == (0 : Int)) = SV.bool false,
      Con Tryz.prog (20 : Nat)
        [SV.agg [SV.int IntKind.u64 (0 : Int), SV.int IntKind.u64 (↑x : Int)],
          SV.agg [SV.int IntKind.u64 (0 : Int), SV.int IntKind.u64 (↑b : Int)]]
        [] (SV.agg [SV.int IntKind.u64 (↑hi : Int), SV.int IntKind.u64 (↑lo : Int)]) [],
      Con Tryz.prog (21 : Nat) [SV.int IntKind.u64 (↑b : Int)] [] (SV.int IntKind.u64 (↑r : Int)) [],
      SV.bool (decide ((↑lo : Int) < (↑r : Int))) = SV.bool false]) := by kernel_rfl

end Go.Sx
