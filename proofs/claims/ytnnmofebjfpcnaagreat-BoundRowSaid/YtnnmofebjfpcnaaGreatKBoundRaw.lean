/- What functions of the program answer: contracts, each proved by the executor. -/
import Derived.Test.YtnnmofebjfpcnaaGreatKMul
import Derived.Test.YtnnmofebjfpcnaaGreatKDiv
set_option linter.unusedVariables false
set_option linter.unusedSimpArgs false

namespace Go.Sx
open Go.Proofs
set_option maxRecDepth 100000
theorem of_raw (n : Nat) : out1 (callFn Tryz.prog D0 (200 : Nat) (10 : FuncId) [u64 n] [] (0 : Nat) []) =
  some (SV.agg [SV.num IntKind.u64 (0 : Int), SV.int IntKind.u64 (↑n : Int)], []) := by kernel_rfl

theorem add_raw (a1 : Nat) (a0 : Nat) (b1 : Nat) (b0 : Nat) (lo : Nat) (c : Nat) (hi : Nat) (c2 : Nat) (cc : Bool) : out1
  (callFn Tryz.prog D0 (200 : Nat) (9 : FuncId) [SV.agg [u64 a1, u64 a0], SV.agg [u64 b1, u64 b0]] [] (0 : Nat)
    [DE.op (15 : Nat) (Dir.eqv (u64 lo)), DE.op (16 : Nat) (Dir.eqv (u64 c)), DE.op (24 : Nat) (Dir.eqv (u64 hi)),
      DE.op (25 : Nat) (Dir.eqv (u64 c2)), DE.op (30 : Nat) (Dir.eqv (SV.bool cc))]) =
  some
  (SV.tup [SV.agg [SV.int IntKind.u64 (↑hi : Int), SV.int IntKind.u64 (↑lo : Int)], SV.bool cc],
    [SV.int IntKind.u64
          (Int.ofNat (((↑a0 : Int).toNat + (↑b0 : Int).toNat + (0 : Nat)) % (18446744073709551616 : Nat))) =
        SV.int IntKind.u64 (↑lo : Int),
      SV.int IntKind.u64
          (Int.ofNat (((↑a0 : Int).toNat + (↑b0 : Int).toNat + (0 : Nat)) / (18446744073709551616 : Nat))) =
        SV.int IntKind.u64 (↑c : Int),
      (↑c : Int).toNat ≤ (1 : Nat),
      SV.int IntKind.u64
          (Int.ofNat (((↑a1 : Int).toNat + (↑b1 : Int).toNat + (↑c : Int).toNat) % (18446744073709551616 : Nat))) =
        SV.int IntKind.u64 (↑hi : Int),
      SV.int IntKind.u64
          (Int.ofNat (((↑a1 : Int).toNat + (↑b1 : Int).toNat + (↑c : Int).toNat) / (18446744073709551616 : Nat))) =
        SV.int IntKind.u64 (↑c2 : Int),
      SV.bool (decide ((↑c2 : Int) > (0 : Int))) = SV.bool cc]) := by kernel_rfl

theorem cmp_l (x : Nat) (y : Nat) : out1
  (callFn Tryz.prog D0 (200 : Nat) (24 : FuncId) [u64 x, u64 y] [] (0 : Nat)
    [DE.op (8 : Nat) (Dir.sub [DE.op (5 : Nat) (Dir.eqv (SV.bool false))] none),
      DE.op (10 : Nat) (Dir.sub [DE.op (5 : Nat) (Dir.eqv (SV.bool false))] none),
      DE.op (16 : Nat) (Dir.eqv (SV.bool true))]) =
  some
  (SV.num IntKind.i64 (-1 : Int),
    [SV.bool ((↑x : Int) != (↑x : Int)) = SV.bool false, SV.bool ((↑y : Int) != (↑y : Int)) = SV.bool false,
      SV.bool (decide ((↑x : Int) < (↑y : Int))) = SV.bool true]) := by kernel_rfl

theorem cmp_g (x : Nat) (y : Nat) : out1
  (callFn Tryz.prog D0 (200 : Nat) (24 : FuncId) [u64 x, u64 y] [] (0 : Nat)
    [DE.op (8 : Nat) (Dir.sub [DE.op (5 : Nat) (Dir.eqv (SV.bool false))] none),
      DE.op (10 : Nat) (Dir.sub [DE.op (5 : Nat) (Dir.eqv (SV.bool false))] none),
      DE.op (16 : Nat) (Dir.eqv (SV.bool false)), DE.op (19 : Nat) (Dir.eqv (SV.bool true))]) =
  some
  (SV.num IntKind.i64 (1 : Int),
    [SV.bool ((↑x : Int) != (↑x : Int)) = SV.bool false, SV.bool ((↑y : Int) != (↑y : Int)) = SV.bool false,
      SV.bool (decide ((↑x : Int) < (↑y : Int))) = SV.bool false,
      SV.bool (decide ((↑x : Int) > (↑y : Int))) = SV.bool true]) := by kernel_rfl

theorem cmp_e (x : Nat) (y : Nat) : out1
  (callFn Tryz.prog D0 (200 : Nat) (24 : FuncId) [u64 x, u64 y] [] (0 : Nat)
    [DE.op (8 : Nat) (Dir.sub [DE.op (5 : Nat) (Dir.eqv (SV.bool false))] none),
      DE.op (10 : Nat) (Dir.sub [DE.op (5 : Nat) (Dir.eqv (SV.bool false))] none),
      DE.op (16 : Nat) (Dir.eqv (SV.bool false)), DE.op (19 : Nat) (Dir.eqv (SV.bool false))]) =
  some
  (SV.num IntKind.i64 (0 : Int),
    [SV.bool ((↑x : Int) != (↑x : Int)) = SV.bool false, SV.bool ((↑y : Int) != (↑y : Int)) = SV.bool false,
      SV.bool (decide ((↑x : Int) < (↑y : Int))) = SV.bool false,
      SV.bool (decide ((↑x : Int) > (↑y : Int))) = SV.bool false]) := by kernel_rfl

theorem wcmp_h (a1 : Nat) (a0 : Nat) (b1 : Nat) (b0 : Nat) (c : Int) : out1
  (callFn Tryz.prog D0 (200 : Nat) (12 : FuncId) [SV.agg [u64 a1, u64 a0], SV.agg [u64 b1, u64 b0]] [] (0 : Nat)
    [DE.op (9 : Nat) (Dir.eqv (SV.bool true)), DE.op (14 : Nat) (Dir.con (SV.int IntKind.i64 c) [] [])]) =
  some
  (SV.int IntKind.i64 c,
    [SV.bool ((↑a1 : Int) != (↑b1 : Int)) = SV.bool true,
      Con Tryz.prog (24 : Nat) [SV.int IntKind.u64 (↑a1 : Int), SV.int IntKind.u64 (↑b1 : Int)] []
        (SV.int IntKind.i64 c) []]) := by kernel_rfl

theorem wcmp_l (a1 : Nat) (a0 : Nat) (b1 : Nat) (b0 : Nat) (c : Int) : out1
  (callFn Tryz.prog D0 (200 : Nat) (12 : FuncId) [SV.agg [u64 a1, u64 a0], SV.agg [u64 b1, u64 b0]] [] (0 : Nat)
    [DE.op (9 : Nat) (Dir.eqv (SV.bool false)), DE.op (19 : Nat) (Dir.con (SV.int IntKind.i64 c) [] [])]) =
  some
  (SV.int IntKind.i64 c,
    [SV.bool ((↑a1 : Int) != (↑b1 : Int)) = SV.bool false,
      Con Tryz.prog (24 : Nat) [SV.int IntKind.u64 (↑a0 : Int), SV.int IntKind.u64 (↑b0 : Int)] []
        (SV.int IntKind.i64 c) []]) := by kernel_rfl

theorem first_raw (v : Nat) (b : Nat) (q : Nat) (l : Nat) (x : Nat) (x2 : Nat) (w : Nat) : out1
  (callFn Tryz.prog D0 (200 : Nat) (22 : FuncId) [u64 v, u64 b] [] (0 : Nat)
    [DE.op (12 : Nat) (Dir.con (SV.tup [u64 q, u64 l]) [] []), DE.op (16 : Nat) (Dir.eqv (SV.bool true)),
      DE.op (18 : Nat) (Dir.eqv (u64 x)), DE.op (22 : Nat) (Dir.con (SV.tup [u64 w, SV.bool true]) [] [])]) =
  some
  (SV.int IntKind.u64 (↑x : Int),
    [Con Tryz.prog (34 : Nat)
        [SV.int IntKind.u64 (↑v : Int), SV.int IntKind.u64 (0 : Int), SV.int IntKind.u64 (↑b : Int)] []
        (SV.tup [SV.int IntKind.u64 (↑q : Int), SV.int IntKind.u64 (↑l : Int)]) [],
      SV.bool (decide ((↑l : Int) > (0 : Int))) = SV.bool true,
      SV.int IntKind.u64 (IntKind.u64.wrap ((↑q : Int) + (1 : Int))) = SV.int IntKind.u64 (↑x : Int),
      Con Tryz.prog (6 : Nat) [SV.int IntKind.u64 (↑x : Int), SV.int IntKind.u64 (↑b : Int)] []
        (SV.tup [SV.int IntKind.u64 (↑w : Int), SV.bool true]) []]) := by kernel_rfl

theorem first_ra2 (v : Nat) (b : Nat) (q : Nat) (l : Nat) (x : Nat) (x2 : Nat) (w : Nat) : out1
  (callFn Tryz.prog D0 (200 : Nat) (22 : FuncId) [u64 v, u64 b] [] (0 : Nat)
    [DE.op (12 : Nat) (Dir.con (SV.tup [u64 q, u64 l]) [] []), DE.op (16 : Nat) (Dir.eqv (SV.bool true)),
      DE.op (18 : Nat) (Dir.eqv (u64 x)), DE.op (22 : Nat) (Dir.con (SV.tup [u64 w, SV.bool false]) [] []),
      DE.op (28 : Nat) (Dir.eqv (u64 x2))]) =
  some
  (SV.int IntKind.u64 (↑x2 : Int),
    [Con Tryz.prog (34 : Nat)
        [SV.int IntKind.u64 (↑v : Int), SV.int IntKind.u64 (0 : Int), SV.int IntKind.u64 (↑b : Int)] []
        (SV.tup [SV.int IntKind.u64 (↑q : Int), SV.int IntKind.u64 (↑l : Int)]) [],
      SV.bool (decide ((↑l : Int) > (0 : Int))) = SV.bool true,
      SV.int IntKind.u64 (IntKind.u64.wrap ((↑q : Int) + (1 : Int))) = SV.int IntKind.u64 (↑x : Int),
      Con Tryz.prog (6 : Nat) [SV.int IntKind.u64 (↑x : Int), SV.int IntKind.u64 (↑b : Int)] []
        (SV.tup [SV.int IntKind.u64 (↑w : Int), SV.bool false]) [],
      SV.int IntKind.u64 (IntKind.u64.wrap ((↑x : Int) + (1 : Int))) = SV.int IntKind.u64 (↑x2 : Int)]) := by kernel_rfl

theorem first_ra3 (v : Nat) (b : Nat) (q : Nat) (l : Nat) (x2 : Nat) (w : Nat) : out1
  (callFn Tryz.prog D0 (200 : Nat) (22 : FuncId) [u64 v, u64 b] [] (0 : Nat)
    [DE.op (12 : Nat) (Dir.con (SV.tup [u64 q, u64 l]) [] []), DE.op (16 : Nat) (Dir.eqv (SV.bool false)),
      DE.op (22 : Nat) (Dir.con (SV.tup [u64 w, SV.bool true]) [] [])]) =
  some
  (SV.int IntKind.u64 (↑q : Int),
    [Con Tryz.prog (34 : Nat)
        [SV.int IntKind.u64 (↑v : Int), SV.int IntKind.u64 (0 : Int), SV.int IntKind.u64 (↑b : Int)] []
        (SV.tup [SV.int IntKind.u64 (↑q : Int), SV.int IntKind.u64 (↑l : Int)]) [],
      SV.bool (decide ((↑l : Int) > (0 : Int))) = SV.bool false,
      Con Tryz.prog (6 : Nat) [SV.int IntKind.u64 (↑q : Int), SV.int IntKind.u64 (↑b : Int)] []
        (SV.tup [SV.int IntKind.u64 (↑w : Int), SV.bool true]) []]) := by kernel_rfl

theorem first_ra4 (v : Nat) (b : Nat) (q : Nat) (l : Nat) (x2 : Nat) (w : Nat) : out1
  (callFn Tryz.prog D0 (200 : Nat) (22 : FuncId) [u64 v, u64 b] [] (0 : Nat)
    [DE.op (12 : Nat) (Dir.con (SV.tup [u64 q, u64 l]) [] []), DE.op (16 : Nat) (Dir.eqv (SV.bool false)),
      DE.op (22 : Nat) (Dir.con (SV.tup [u64 w, SV.bool false]) [] []), DE.op (28 : Nat) (Dir.eqv (u64 x2))]) =
  some
  (SV.int IntKind.u64 (↑x2 : Int),
    [Con Tryz.prog (34 : Nat)
        [SV.int IntKind.u64 (↑v : Int), SV.int IntKind.u64 (0 : Int), SV.int IntKind.u64 (↑b : Int)] []
        (SV.tup [SV.int IntKind.u64 (↑q : Int), SV.int IntKind.u64 (↑l : Int)]) [],
      SV.bool (decide ((↑l : Int) > (0 : Int))) = SV.bool false,
      Con Tryz.prog (6 : Nat) [SV.int IntKind.u64 (↑q : Int), SV.int IntKind.u64 (↑b : Int)] []
        (SV.tup [SV.int IntKind.u64 (↑w : Int), SV.bool false]) [],
      SV.int IntKind.u64 (IntKind.u64.wrap ((↑q : Int) + (1 : Int))) = SV.int IntKind.u64 (↑x2 : Int)]) := by kernel_rfl

theorem range_0 (v : Nat) : out1 (callFn Tryz.prog D0 (200 : Nat) (8 : FuncId) [u64 v, SV.num IntKind.u64 (0 : Int)] [] (0 : Nat) []) =
  some (SV.tup [SV.num IntKind.u64 (0 : Int), SV.num IntKind.u64 (0 : Int), SV.num IntKind.i64 (8 : Int)], []) := by kernel_rfl

theorem range_1 (v : Nat) (b : Nat) : out1
  (callFn Tryz.prog D0 (200 : Nat) (8 : FuncId) [u64 v, u64 b] [] (0 : Nat)
    [DE.op (11 : Nat) (Dir.eqv (SV.bool false)), DE.op (15 : Nat) (Dir.eqv (SV.bool true))]) =
  some
  (SV.tup [SV.num IntKind.u64 (0 : Int), SV.num IntKind.u64 (0 : Int), SV.num IntKind.i64 (1 : Int)],
    [SV.bool ((↑b : Int) == (0 : Int)) = SV.bool false, SV.bool (decide ((↑v : Int) ≥ (↑b : Int))) = SV.bool true]) := by kernel_rfl

theorem range_2 (v : Nat) (b : Nat) (low : Nat) (k : Nat) (k2 : Nat) (r : Nat) (h : Nat) : out1
  (callFn Tryz.prog D0 (200 : Nat) (8 : FuncId) [u64 v, u64 b] [] (0 : Nat)
    [DE.op (11 : Nat) (Dir.eqv (SV.bool false)), DE.op (15 : Nat) (Dir.eqv (SV.bool false)),
      DE.op (18 : Nat) (Dir.con (u64 low) [] []), DE.op (20 : Nat) (Dir.eqv (u64 k)),
      DE.op (22 : Nat) (Dir.con (u64 r) [] []), DE.op (23 : Nat) (Dir.eqv (SV.bool true)),
      DE.op (25 : Nat) (Dir.eqv (u64 k2)), DE.op (29 : Nat) (Dir.eqv (u64 h))]) =
  some
  (SV.tup [SV.int IntKind.u64 (↑low : Int), SV.int IntKind.u64 (↑h : Int), SV.num IntKind.i64 (0 : Int)],
    [SV.bool ((↑b : Int) == (0 : Int)) = SV.bool false, SV.bool (decide ((↑v : Int) ≥ (↑b : Int))) = SV.bool false,
      Con Tryz.prog (22 : Nat) [SV.int IntKind.u64 (↑v : Int), SV.int IntKind.u64 (↑b : Int)] []
        (SV.int IntKind.u64 (↑low : Int)) [],
      SV.int IntKind.u64 (IntKind.u64.wrap (Int.tdiv (18446744073709551615 : Int) (↑b : Int))) =
        SV.int IntKind.u64 (↑k : Int),
      (↑b : Int) ≠ (0 : Int),
      Con Tryz.prog (19 : Nat) [SV.int IntKind.u64 (↑b : Int)] [] (SV.int IntKind.u64 (↑r : Int)) [],
      SV.bool ((↑r : Int) != (0 : Int)) = SV.bool true,
      SV.int IntKind.u64 (IntKind.u64.wrap ((↑k : Int) - (1 : Int))) = SV.int IntKind.u64 (↑k2 : Int),
      SV.int IntKind.u64 (IntKind.u64.wrap ((↑low : Int) + (↑k2 : Int))) = SV.int IntKind.u64 (↑h : Int)]) := by kernel_rfl

theorem range_3 (v : Nat) (b : Nat) (low : Nat) (k : Nat) (r : Nat) (h : Nat) : out1
  (callFn Tryz.prog D0 (200 : Nat) (8 : FuncId) [u64 v, u64 b] [] (0 : Nat)
    [DE.op (11 : Nat) (Dir.eqv (SV.bool false)), DE.op (15 : Nat) (Dir.eqv (SV.bool false)),
      DE.op (18 : Nat) (Dir.con (u64 low) [] []), DE.op (20 : Nat) (Dir.eqv (u64 k)),
      DE.op (22 : Nat) (Dir.con (u64 r) [] []), DE.op (23 : Nat) (Dir.eqv (SV.bool false)),
      DE.op (29 : Nat) (Dir.eqv (u64 h))]) =
  some
  (SV.tup [SV.int IntKind.u64 (↑low : Int), SV.int IntKind.u64 (↑h : Int), SV.num IntKind.i64 (0 : Int)],
    [SV.bool ((↑b : Int) == (0 : Int)) = SV.bool false, SV.bool (decide ((↑v : Int) ≥ (↑b : Int))) = SV.bool false,
      Con Tryz.prog (22 : Nat) [SV.int IntKind.u64 (↑v : Int), SV.int IntKind.u64 (↑b : Int)] []
        (SV.int IntKind.u64 (↑low : Int)) [],
      SV.int IntKind.u64 (IntKind.u64.wrap (Int.tdiv (18446744073709551615 : Int) (↑b : Int))) =
        SV.int IntKind.u64 (↑k : Int),
      (↑b : Int) ≠ (0 : Int),
      Con Tryz.prog (19 : Nat) [SV.int IntKind.u64 (↑b : Int)] [] (SV.int IntKind.u64 (↑r : Int)) [],
      SV.bool ((↑r : Int) != (0 : Int)) = SV.bool false,
      SV.int IntKind.u64 (IntKind.u64.wrap ((↑low : Int) + (↑k : Int))) = SV.int IntKind.u64 (↑h : Int)]) := by kernel_rfl

end Go.Sx
