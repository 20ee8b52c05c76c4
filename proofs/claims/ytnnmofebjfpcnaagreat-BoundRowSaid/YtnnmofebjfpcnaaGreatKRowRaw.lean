/- What functions of the program answer: contracts, each proved by the executor. -/
import Derived.Test.YtnnmofebjfpcnaaGreatKAwake18
import Derived.Test.YtnnmofebjfpcnaaGreatKBound
set_option linter.unusedVariables false
set_option linter.unusedSimpArgs false

namespace Go.Sx
open Go.Proofs
set_option maxRecDepth 100000
theorem row_0 (v : Nat) (x : Nat) : out1
  (callFn Tryz.prog D0 (200 : Nat) (4 : FuncId) [SV.num IntKind.u64 (0 : Int), u64 v, u64 x] [] (0 : Nat)
    [DE.op (25 : Nat) (Dir.con (SV.bool true) [] []),
      DE.op (30 : Nat)
        (Dir.con (SV.tup [SV.num IntKind.u64 (0 : Int), SV.num IntKind.u64 (0 : Int), SV.num IntKind.i64 (8 : Int)]) []
          [])]) =
  some
  (SV.bool true,
    [Con Tryz.prog (5 : Nat) [] [] (SV.bool true) [],
      Con Tryz.prog (8 : Nat) [SV.int IntKind.u64 (↑v : Int), SV.int IntKind.u64 (0 : Int)] []
        (SV.tup [SV.num IntKind.u64 (0 : Int), SV.num IntKind.u64 (0 : Int), SV.num IntKind.i64 (8 : Int)]) []]) := by kernel_rfl

theorem row_1 (b : Nat) (v : Nat) (x : Nat) : out1
  (callFn Tryz.prog D0 (200 : Nat) (4 : FuncId) [u64 b, u64 v, u64 x] [] (0 : Nat)
    [DE.op (25 : Nat) (Dir.con (SV.bool true) [] []),
      DE.op (30 : Nat)
        (Dir.con (SV.tup [SV.num IntKind.u64 (0 : Int), SV.num IntKind.u64 (0 : Int), SV.num IntKind.i64 (1 : Int)]) []
          []),
      DE.op (35 : Nat) (Dir.eqv (SV.bool false)), DE.op (48 : Nat) (Dir.eqv (SV.bool true))]) =
  some
  (SV.bool true,
    [Con Tryz.prog (5 : Nat) [] [] (SV.bool true) [],
      Con Tryz.prog (8 : Nat) [SV.int IntKind.u64 (↑v : Int), SV.int IntKind.u64 (↑b : Int)] []
        (SV.tup [SV.num IntKind.u64 (0 : Int), SV.num IntKind.u64 (0 : Int), SV.num IntKind.i64 (1 : Int)]) [],
      SV.bool ((↑b : Int) == (0 : Int)) = SV.bool false, SV.bool (decide ((↑v : Int) ≥ (↑b : Int))) = SV.bool true]) := by kernel_rfl

theorem row_p1 (b : Nat) (v : Nat) (x : Nat) (low : Nat) (high : Nat) (d : Nat) (z1 : Nat) (z0 : Nat) (o1 : Nat) (o0 : Nat) (m1 : Nat) (m0 : Nat) (b1 : Nat) (b0 : Nat) (a1 : Nat) (a0 : Nat) (e1 : Nat) (e0 : Nat) (y1 : Nat) (y2 : Nat) (w : Nat) (d2 : Nat) (rm : Nat) (i : Nat) (c1 : Bool) (c2 : Bool) (k1 : Int) (k2 : Int) : out1
  (callFn Tryz.prog D0 (200 : Nat) (4 : FuncId) [u64 b, u64 v, u64 x] [] (0 : Nat)
    [DE.op (25 : Nat) (Dir.con (SV.bool true) [] []),
      DE.op (30 : Nat) (Dir.con (SV.tup [u64 low, u64 high, SV.num IntKind.i64 (0 : Int)]) [] []),
      DE.op (35 : Nat) (Dir.eqv (SV.bool false)), DE.op (48 : Nat) (Dir.eqv (SV.bool false)),
      DE.op (64 : Nat) (Dir.eqv (SV.bool false)), DE.op (69 : Nat) (Dir.eqv (u64 d)),
      DE.op (70 : Nat) (Dir.con (SV.agg [u64 z1, u64 z0]) [] []),
      DE.op (71 : Nat) (Dir.con (SV.agg [u64 o1, u64 o0]) [] []),
      DE.op (72 : Nat) (Dir.con (SV.tup [SV.agg [u64 m1, u64 m0], SV.bool c1]) [] []),
      DE.op (77 : Nat) (Dir.con (SV.agg [u64 b1, u64 b0]) [] []),
      DE.op (78 : Nat) (Dir.con (SV.agg [u64 a1, u64 a0]) [] []),
      DE.op (82 : Nat) (Dir.con (SV.agg [u64 b1, u64 b0]) [] []),
      DE.op (83 : Nat) (Dir.con (SV.tup [SV.agg [u64 e1, u64 e0], SV.bool c2]) [] []),
      DE.op (89 : Nat) (Dir.con (SV.int IntKind.i64 k1) [] []), DE.op (90 : Nat) (Dir.eqv (SV.bool false)),
      DE.op (94 : Nat) (Dir.con (SV.int IntKind.i64 k2) [] []), DE.op (95 : Nat) (Dir.eqv (SV.bool false)),
      DE.op (101 : Nat) (Dir.eqv (SV.bool true)), DE.op (106 : Nat) (Dir.eqv (u64 d)),
      DE.op (107 : Nat) (Dir.eqv (u64 d2)), DE.op (108 : Nat) (Dir.eqv (u64 rm)), DE.op (109 : Nat) (Dir.eqv (u64 i)),
      DE.op (113 : Nat) (Dir.con (SV.tup [u64 v, SV.bool true]) [] []), DE.op (121 : Nat) (Dir.eqv (SV.bool false)),
      DE.op (124 : Nat) (Dir.eqv (u64 y1)), DE.op (126 : Nat) (Dir.eqv (u64 y2)),
      DE.cut
        {
          t :=
            mkT (176 : Nat)
              [((0 : Nat), u64 b), ((1 : Nat), u64 v), ((2 : Nat), u64 x), ((7 : Nat), u64 low), ((8 : Nat), u64 high)],
          h := [] }
        (0 : Nat) (Ex.exit (0 : Nat)),
      DE.op (157 : Nat) (Dir.con (SV.tup [u64 w, SV.bool false]) [] [])]) =
  some
  (SV.bool true,
    [Con Tryz.prog (5 : Nat) [] [] (SV.bool true) [],
      Con Tryz.prog (8 : Nat) [SV.int IntKind.u64 (↑v : Int), SV.int IntKind.u64 (↑b : Int)] []
        (SV.tup [SV.int IntKind.u64 (↑low : Int), SV.int IntKind.u64 (↑high : Int), SV.num IntKind.i64 (0 : Int)]) [],
      SV.bool ((↑b : Int) == (0 : Int)) = SV.bool false, SV.bool (decide ((↑v : Int) ≥ (↑b : Int))) = SV.bool false,
      SV.bool (decide ((↑low : Int) > (↑high : Int))) = SV.bool false,
      SV.int IntKind.u64 (IntKind.u64.wrap ((↑high : Int) - (↑low : Int))) = SV.int IntKind.u64 (↑d : Int),
      Con Tryz.prog (10 : Nat) [SV.int IntKind.u64 (↑d : Int)] []
        (SV.agg [SV.int IntKind.u64 (↑z1 : Int), SV.int IntKind.u64 (↑z0 : Int)]) [],
      Con Tryz.prog (10 : Nat) [SV.int IntKind.u64 (1 : Int)] []
        (SV.agg [SV.int IntKind.u64 (↑o1 : Int), SV.int IntKind.u64 (↑o0 : Int)]) [],
      Con Tryz.prog (9 : Nat)
        [SV.agg [SV.int IntKind.u64 (↑z1 : Int), SV.int IntKind.u64 (↑z0 : Int)],
          SV.agg [SV.int IntKind.u64 (↑o1 : Int), SV.int IntKind.u64 (↑o0 : Int)]]
        [] (SV.tup [SV.agg [SV.int IntKind.u64 (↑m1 : Int), SV.int IntKind.u64 (↑m0 : Int)], SV.bool c1]) [],
      Con Tryz.prog (10 : Nat) [SV.int IntKind.u64 (↑b : Int)] []
        (SV.agg [SV.int IntKind.u64 (↑b1 : Int), SV.int IntKind.u64 (↑b0 : Int)]) [],
      Con Tryz.prog (11 : Nat)
        [SV.agg [SV.int IntKind.u64 (↑m1 : Int), SV.int IntKind.u64 (↑m0 : Int)],
          SV.agg [SV.int IntKind.u64 (↑b1 : Int), SV.int IntKind.u64 (↑b0 : Int)]]
        [] (SV.agg [SV.int IntKind.u64 (↑a1 : Int), SV.int IntKind.u64 (↑a0 : Int)]) [],
      Con Tryz.prog (10 : Nat) [SV.int IntKind.u64 (↑b : Int)] []
        (SV.agg [SV.int IntKind.u64 (↑b1 : Int), SV.int IntKind.u64 (↑b0 : Int)]) [],
      Con Tryz.prog (9 : Nat)
        [SV.agg [SV.int IntKind.u64 (↑a1 : Int), SV.int IntKind.u64 (↑a0 : Int)],
          SV.agg [SV.int IntKind.u64 (↑b1 : Int), SV.int IntKind.u64 (↑b0 : Int)]]
        [] (SV.tup [SV.agg [SV.int IntKind.u64 (↑e1 : Int), SV.int IntKind.u64 (↑e0 : Int)], SV.bool c2]) [],
      Con Tryz.prog (12 : Nat)
        [SV.agg [SV.int IntKind.u64 (↑a1 : Int), SV.int IntKind.u64 (↑a0 : Int)],
          SV.agg [SV.int IntKind.u64 (1 : Int), SV.int IntKind.u64 (0 : Int)]]
        [] (SV.int IntKind.i64 k1) [],
      SV.bool (decide (k1 > (0 : Int))) = SV.bool false,
      Con Tryz.prog (12 : Nat)
        [SV.agg [SV.int IntKind.u64 (↑e1 : Int), SV.int IntKind.u64 (↑e0 : Int)],
          SV.agg [SV.int IntKind.u64 (1 : Int), SV.int IntKind.u64 (0 : Int)]]
        [] (SV.int IntKind.i64 k2) [],
      SV.bool (decide (k2 ≤ (0 : Int))) = SV.bool false,
      SV.bool (decide (IntKind.u64.wrap ((↑high : Int) - (↑low : Int)) < (18446744073709551615 : Int))) = SV.bool true,
      SV.int IntKind.u64 (IntKind.u64.wrap ((↑high : Int) - (↑low : Int))) = SV.int IntKind.u64 (↑d : Int),
      SV.int IntKind.u64 (IntKind.u64.wrap ((↑d : Int) + (1 : Int))) = SV.int IntKind.u64 (↑d2 : Int),
      SV.int IntKind.u64 ((↑x : Int).tmod (↑d2 : Int)) = SV.int IntKind.u64 (↑rm : Int), (↑d2 : Int) ≠ (0 : Int),
      SV.int IntKind.u64 (IntKind.u64.wrap ((↑low : Int) + (↑rm : Int))) = SV.int IntKind.u64 (↑i : Int),
      Con Tryz.prog (6 : Nat) [SV.int IntKind.u64 (↑i : Int), SV.int IntKind.u64 (↑b : Int)] []
        (SV.tup [SV.int IntKind.u64 (↑v : Int), SV.bool true]) [],
      SV.bool ((↑v : Int) != (↑v : Int)) = SV.bool false,
      SV.int IntKind.u64 (IntKind.u64.wrap ((↑low : Int) - (1 : Int))) = SV.int IntKind.u64 (↑y1 : Int),
      SV.int IntKind.u64 (IntKind.u64.wrap ((↑high : Int) + (1 : Int))) = SV.int IntKind.u64 (↑y2 : Int),
      CodeOK Tryz.prog (0 : Nat) (cutAt Tryz.prog (4 : FuncId) (0 : Nat))
        {
          t :=
            [some (SV.int IntKind.u64 (↑b : Int)), some (SV.int IntKind.u64 (↑v : Int)),
              some (SV.int IntKind.u64 (↑x : Int)), none, none, none, some (SV.bool false),
              some (SV.int IntKind.u64 (↑low : Int)), some (SV.int IntKind.u64 (↑high : Int)),
              some (SV.num IntKind.i64 (0 : Int)), some (SV.ptr (136 : Nat) (0 : Nat)), some (SV.bool c1),
              some (SV.ptr (164 : Nat) (0 : Nat)), some (SV.ptr (200 : Nat) (0 : Nat)), some (SV.bool c2),
              some (SV.ptr (216 : Nat) (0 : Nat)), some (SV.int IntKind.u64 (↑i : Int)),
              some (SV.int IntKind.u64 (↑v : Int)), some (SV.bool true), none, none, none, none, none, none,
              some (SV.bool true), some (SV.bool false),
              some
                (SV.tup
                  [SV.int IntKind.u64 (↑low : Int), SV.int IntKind.u64 (↑high : Int), SV.num IntKind.i64 (0 : Int)]),
              some (SV.int IntKind.u64 (↑v : Int)), some (SV.int IntKind.u64 (↑b : Int)),
              some
                (SV.tup
                  [SV.int IntKind.u64 (↑low : Int), SV.int IntKind.u64 (↑high : Int), SV.num IntKind.i64 (0 : Int)]),
              some (SV.int IntKind.u64 (↑low : Int)), some (SV.int IntKind.u64 (↑high : Int)),
              some (SV.num IntKind.i64 (0 : Int)), some (SV.int IntKind.u64 (↑b : Int)), some (SV.bool false), none,
              none, none, none, none, none, none, none, none, none, some (SV.int IntKind.u64 (↑v : Int)),
              some (SV.int IntKind.u64 (↑b : Int)), some (SV.bool false), none, none, none, none, none, none, none,
              none, none, none, some (SV.num IntKind.i64 (0 : Int)), some (SV.bool false), some (SV.bool false),
              some (SV.int IntKind.u64 (↑low : Int)), some (SV.int IntKind.u64 (↑high : Int)), some (SV.bool false),
              some (SV.bool false),
              some (SV.tup [SV.agg [SV.int IntKind.u64 (↑m1 : Int), SV.int IntKind.u64 (↑m0 : Int)], SV.bool c1]),
              some (SV.int IntKind.u64 (↑high : Int)), some (SV.int IntKind.u64 (↑low : Int)),
              some (SV.int IntKind.u64 (↑d : Int)),
              some (SV.agg [SV.int IntKind.u64 (↑z1 : Int), SV.int IntKind.u64 (↑z0 : Int)]),
              some (SV.agg [SV.int IntKind.u64 (↑o1 : Int), SV.int IntKind.u64 (↑o0 : Int)]),
              some (SV.tup [SV.agg [SV.int IntKind.u64 (↑m1 : Int), SV.int IntKind.u64 (↑m0 : Int)], SV.bool c1]),
              some (SV.agg [SV.int IntKind.u64 (↑m1 : Int), SV.int IntKind.u64 (↑m0 : Int)]), some (SV.bool c1),
              some (SV.agg [SV.int IntKind.u64 (↑m1 : Int), SV.int IntKind.u64 (↑m0 : Int)]),
              some (SV.int IntKind.u64 (↑b : Int)),
              some (SV.agg [SV.int IntKind.u64 (↑b1 : Int), SV.int IntKind.u64 (↑b0 : Int)]),
              some (SV.agg [SV.int IntKind.u64 (↑a1 : Int), SV.int IntKind.u64 (↑a0 : Int)]),
              some (SV.tup [SV.agg [SV.int IntKind.u64 (↑e1 : Int), SV.int IntKind.u64 (↑e0 : Int)], SV.bool c2]),
              some (SV.agg [SV.int IntKind.u64 (↑a1 : Int), SV.int IntKind.u64 (↑a0 : Int)]),
              some (SV.int IntKind.u64 (↑b : Int)),
              some (SV.agg [SV.int IntKind.u64 (↑b1 : Int), SV.int IntKind.u64 (↑b0 : Int)]),
              some (SV.tup [SV.agg [SV.int IntKind.u64 (↑e1 : Int), SV.int IntKind.u64 (↑e0 : Int)], SV.bool c2]),
              some (SV.agg [SV.int IntKind.u64 (↑e1 : Int), SV.int IntKind.u64 (↑e0 : Int)]), some (SV.bool c2),
              some (SV.agg [SV.num IntKind.u64 (1 : Int), SV.num IntKind.u64 (0 : Int)]),
              some (SV.agg [SV.int IntKind.u64 (↑a1 : Int), SV.int IntKind.u64 (↑a0 : Int)]),
              some (SV.agg [SV.num IntKind.u64 (1 : Int), SV.num IntKind.u64 (0 : Int)]), some (SV.int IntKind.i64 k1),
              some (SV.bool false), some (SV.bool false),
              some (SV.agg [SV.int IntKind.u64 (↑e1 : Int), SV.int IntKind.u64 (↑e0 : Int)]),
              some (SV.agg [SV.num IntKind.u64 (1 : Int), SV.num IntKind.u64 (0 : Int)]), some (SV.int IntKind.i64 k2),
              some (SV.bool false), some (SV.bool false), some (SV.int IntKind.u64 (↑x : Int)),
              some (SV.int IntKind.u64 (↑high : Int)), some (SV.int IntKind.u64 (↑low : Int)),
              some (SV.int IntKind.u64 (IntKind.u64.wrap ((↑high : Int) - (↑low : Int)))), some (SV.bool true),
              some (SV.int IntKind.u64 (↑low : Int)), some (SV.int IntKind.u64 (↑x : Int)),
              some (SV.int IntKind.u64 (↑high : Int)), some (SV.int IntKind.u64 (↑low : Int)),
              some (SV.int IntKind.u64 (↑d : Int)), some (SV.int IntKind.u64 (↑d2 : Int)),
              some (SV.int IntKind.u64 (↑rm : Int)), some (SV.int IntKind.u64 (↑i : Int)),
              some (SV.tup [SV.int IntKind.u64 (↑v : Int), SV.bool true]), some (SV.int IntKind.u64 (↑i : Int)),
              some (SV.int IntKind.u64 (↑b : Int)), some (SV.tup [SV.int IntKind.u64 (↑v : Int), SV.bool true]),
              some (SV.int IntKind.u64 (↑v : Int)), some (SV.bool true), some (SV.bool true), some (SV.bool false),
              some (SV.bool false), some (SV.int IntKind.u64 (↑v : Int)), some (SV.int IntKind.u64 (↑v : Int)),
              some (SV.bool false), some (SV.bool false), some (SV.int IntKind.u64 (↑low : Int)),
              some (SV.int IntKind.u64 (↑y1 : Int)), some (SV.int IntKind.u64 (↑high : Int)),
              some (SV.int IntKind.u64 (↑y2 : Int)),
              some (SV.agg [SV.int IntKind.u64 (↑y1 : Int), SV.int IntKind.u64 (↑y2 : Int)]),
              some (SV.num IntKind.i64 (0 : Int)), none, none, none, none, none, none, none, none, none, none, none,
              none, none, none, none, none, none, none, none, none, none, none, none, none, none, none, none, none,
              none, none, none, none, none, none, none, none, none, none, none, none, none, none, none, none, none,
              none, none],
          h :=
            [((216 : Nat), Ent.own (31 : Nat) [SV.num IntKind.u64 (1 : Int), SV.num IntKind.u64 (0 : Int)]),
              ((200 : Nat), Ent.own (31 : Nat) [SV.int IntKind.u64 (↑e1 : Int), SV.int IntKind.u64 (↑e0 : Int)]),
              ((164 : Nat), Ent.own (31 : Nat) [SV.int IntKind.u64 (↑a1 : Int), SV.int IntKind.u64 (↑a0 : Int)]),
              ((136 : Nat), Ent.own (31 : Nat) [SV.int IntKind.u64 (↑m1 : Int), SV.int IntKind.u64 (↑m0 : Int)])] }
        {
          t :=
            [some (SV.int IntKind.u64 (↑b : Int)), some (SV.int IntKind.u64 (↑v : Int)),
              some (SV.int IntKind.u64 (↑x : Int)), none, none, none, none, some (SV.int IntKind.u64 (↑low : Int)),
              some (SV.int IntKind.u64 (↑high : Int)), none, none, none, none, none, none, none, none, none, none, none,
              none, none, none, none, none, none, none, none, none, none, none, none, none, none, none, none, none,
              none, none, none, none, none, none, none, none, none, none, none, none, none, none, none, none, none,
              none, none, none, none, none, none, none, none, none, none, none, none, none, none, none, none, none,
              none, none, none, none, none, none, none, none, none, none, none, none, none, none, none, none, none,
              none, none, none, none, none, none, none, none, none, none, none, none, none, none, none, none, none,
              none, none, none, none, none, none, none, none, none, none, none, none, none, none, none, none, none,
              none, none, none, none, none, none, none, none, none, none, none, none, none, none, none, none, none,
              none, none, none, none, none, none, none, none, none, none, none, none, none, none, none, none, none,
              none, none, none, none, none, none, none, none, none, none, none, none, none, none, none, none, none,
              none, none, none],
          h := [] }
        (Ex.exit (0 : Nat)),
      Con Tryz.prog (6 : Nat) [SV.int IntKind.u64 (↑x : Int), SV.int IntKind.u64 (↑b : Int)] []
        (SV.tup [SV.int IntKind.u64 (↑w : Int), SV.bool false]) []]) := by kernel_rfl

theorem row_p2 (b : Nat) (v : Nat) (x : Nat) (low : Nat) (high : Nat) (d : Nat) (z1 : Nat) (z0 : Nat) (o1 : Nat) (o0 : Nat) (m1 : Nat) (m0 : Nat) (b1 : Nat) (b0 : Nat) (a1 : Nat) (a0 : Nat) (e1 : Nat) (e0 : Nat) (y1 : Nat) (y2 : Nat) (w : Nat) (d2 : Nat) (rm : Nat) (i : Nat) (c1 : Bool) (c2 : Bool) (k1 : Int) (k2 : Int) : out1
  (callFn Tryz.prog D0 (200 : Nat) (4 : FuncId) [u64 b, u64 v, u64 x] [] (0 : Nat)
    [DE.op (25 : Nat) (Dir.con (SV.bool true) [] []),
      DE.op (30 : Nat) (Dir.con (SV.tup [u64 low, u64 high, SV.num IntKind.i64 (0 : Int)]) [] []),
      DE.op (35 : Nat) (Dir.eqv (SV.bool false)), DE.op (48 : Nat) (Dir.eqv (SV.bool false)),
      DE.op (64 : Nat) (Dir.eqv (SV.bool false)), DE.op (69 : Nat) (Dir.eqv (u64 d)),
      DE.op (70 : Nat) (Dir.con (SV.agg [u64 z1, u64 z0]) [] []),
      DE.op (71 : Nat) (Dir.con (SV.agg [u64 o1, u64 o0]) [] []),
      DE.op (72 : Nat) (Dir.con (SV.tup [SV.agg [u64 m1, u64 m0], SV.bool c1]) [] []),
      DE.op (77 : Nat) (Dir.con (SV.agg [u64 b1, u64 b0]) [] []),
      DE.op (78 : Nat) (Dir.con (SV.agg [u64 a1, u64 a0]) [] []),
      DE.op (82 : Nat) (Dir.con (SV.agg [u64 b1, u64 b0]) [] []),
      DE.op (83 : Nat) (Dir.con (SV.tup [SV.agg [u64 e1, u64 e0], SV.bool c2]) [] []),
      DE.op (89 : Nat) (Dir.con (SV.int IntKind.i64 k1) [] []), DE.op (90 : Nat) (Dir.eqv (SV.bool false)),
      DE.op (94 : Nat) (Dir.con (SV.int IntKind.i64 k2) [] []), DE.op (95 : Nat) (Dir.eqv (SV.bool false)),
      DE.op (101 : Nat) (Dir.eqv (SV.bool true)), DE.op (106 : Nat) (Dir.eqv (u64 d)),
      DE.op (107 : Nat) (Dir.eqv (u64 d2)), DE.op (108 : Nat) (Dir.eqv (u64 rm)), DE.op (109 : Nat) (Dir.eqv (u64 i)),
      DE.op (113 : Nat) (Dir.con (SV.tup [u64 v, SV.bool true]) [] []), DE.op (121 : Nat) (Dir.eqv (SV.bool false)),
      DE.op (124 : Nat) (Dir.eqv (u64 y1)), DE.op (126 : Nat) (Dir.eqv (u64 y2)),
      DE.cut
        {
          t :=
            mkT (176 : Nat)
              [((0 : Nat), u64 b), ((1 : Nat), u64 v), ((2 : Nat), u64 x), ((7 : Nat), u64 low), ((8 : Nat), u64 high)],
          h := [] }
        (0 : Nat) (Ex.exit (0 : Nat)),
      DE.op (157 : Nat) (Dir.con (SV.tup [u64 w, SV.bool true]) [] []), DE.op (165 : Nat) (Dir.eqv (SV.bool true)),
      DE.op (168 : Nat) (Dir.eqv (SV.bool true)), DE.op (172 : Nat) (Dir.eqv (SV.bool true))]) =
  some
  (SV.bool true,
    [Con Tryz.prog (5 : Nat) [] [] (SV.bool true) [],
      Con Tryz.prog (8 : Nat) [SV.int IntKind.u64 (↑v : Int), SV.int IntKind.u64 (↑b : Int)] []
        (SV.tup [SV.int IntKind.u64 (↑low : Int), SV.int IntKind.u64 (↑high : Int), SV.num IntKind.i64 (0 : Int)]) [],
      SV.bool ((↑b : Int) == (0 : Int)) = SV.bool false, SV.bool (decide ((↑v : Int) ≥ (↑b : Int))) = SV.bool false,
      SV.bool (decide ((↑low : Int) > (↑high : Int))) = SV.bool false,
      SV.int IntKind.u64 (IntKind.u64.wrap ((↑high : Int) - (↑low : Int))) = SV.int IntKind.u64 (↑d : Int),
      Con Tryz.prog (10 : Nat) [SV.int IntKind.u64 (↑d : Int)] []
        (SV.agg [SV.int IntKind.u64 (↑z1 : Int), SV.int IntKind.u64 (↑z0 : Int)]) [],
      Con Tryz.prog (10 : Nat) [SV.int IntKind.u64 (1 : Int)] []
        (SV.agg [SV.int IntKind.u64 (↑o1 : Int), SV.int IntKind.u64 (↑o0 : Int)]) [],
      Con Tryz.prog (9 : Nat)
        [SV.agg [SV.int IntKind.u64 (↑z1 : Int), SV.int IntKind.u64 (↑z0 : Int)],
          SV.agg [SV.int IntKind.u64 (↑o1 : Int), SV.int IntKind.u64 (↑o0 : Int)]]
        [] (SV.tup [SV.agg [SV.int IntKind.u64 (↑m1 : Int), SV.int IntKind.u64 (↑m0 : Int)], SV.bool c1]) [],
      Con Tryz.prog (10 : Nat) [SV.int IntKind.u64 (↑b : Int)] []
        (SV.agg [SV.int IntKind.u64 (↑b1 : Int), SV.int IntKind.u64 (↑b0 : Int)]) [],
      Con Tryz.prog (11 : Nat)
        [SV.agg [SV.int IntKind.u64 (↑m1 : Int), SV.int IntKind.u64 (↑m0 : Int)],
          SV.agg [SV.int IntKind.u64 (↑b1 : Int), SV.int IntKind.u64 (↑b0 : Int)]]
        [] (SV.agg [SV.int IntKind.u64 (↑a1 : Int), SV.int IntKind.u64 (↑a0 : Int)]) [],
      Con Tryz.prog (10 : Nat) [SV.int IntKind.u64 (↑b : Int)] []
        (SV.agg [SV.int IntKind.u64 (↑b1 : Int), SV.int IntKind.u64 (↑b0 : Int)]) [],
      Con Tryz.prog (9 : Nat)
        [SV.agg [SV.int IntKind.u64 (↑a1 : Int), SV.int IntKind.u64 (↑a0 : Int)],
          SV.agg [SV.int IntKind.u64 (↑b1 : Int), SV.int IntKind.u64 (↑b0 : Int)]]
        [] (SV.tup [SV.agg [SV.int IntKind.u64 (↑e1 : Int), SV.int IntKind.u64 (↑e0 : Int)], SV.bool c2]) [],
      Con Tryz.prog (12 : Nat)
        [SV.agg [SV.int IntKind.u64 (↑a1 : Int), SV.int IntKind.u64 (↑a0 : Int)],
          SV.agg [SV.int IntKind.u64 (1 : Int), SV.int IntKind.u64 (0 : Int)]]
        [] (SV.int IntKind.i64 k1) [],
      SV.bool (decide (k1 > (0 : Int))) = SV.bool false,
      Con Tryz.prog (12 : Nat)
        [SV.agg [SV.int IntKind.u64 (↑e1 : Int), SV.int IntKind.u64 (↑e0 : Int)],
          SV.agg [SV.int IntKind.u64 (1 : Int), SV.int IntKind.u64 (0 : Int)]]
        [] (SV.int IntKind.i64 k2) [],
      SV.bool (decide (k2 ≤ (0 : Int))) = SV.bool false,
      SV.bool (decide (IntKind.u64.wrap ((↑high : Int) - (↑low : Int)) < (18446744073709551615 : Int))) = SV.bool true,
      SV.int IntKind.u64 (IntKind.u64.wrap ((↑high : Int) - (↑low : Int))) = SV.int IntKind.u64 (↑d : Int),
      SV.int IntKind.u64 (IntKind.u64.wrap ((↑d : Int) + (1 : Int))) = SV.int IntKind.u64 (↑d2 : Int),
      SV.int IntKind.u64 ((↑x : Int).tmod (↑d2 : Int)) = SV.int IntKind.u64 (↑rm : Int), (↑d2 : Int) ≠ (0 : Int),
      SV.int IntKind.u64 (IntKind.u64.wrap ((↑low : Int) + (↑rm : Int))) = SV.int IntKind.u64 (↑i : Int),
      Con Tryz.prog (6 : Nat) [SV.int IntKind.u64 (↑i : Int), SV.int IntKind.u64 (↑b : Int)] []
        (SV.tup [SV.int IntKind.u64 (↑v : Int), SV.bool true]) [],
      SV.bool ((↑v : Int) != (↑v : Int)) = SV.bool false,
      SV.int IntKind.u64 (IntKind.u64.wrap ((↑low : Int) - (1 : Int))) = SV.int IntKind.u64 (↑y1 : Int),
      SV.int IntKind.u64 (IntKind.u64.wrap ((↑high : Int) + (1 : Int))) = SV.int IntKind.u64 (↑y2 : Int),
      CodeOK Tryz.prog (0 : Nat) (cutAt Tryz.prog (4 : FuncId) (0 : Nat))
        {
          t :=
            [some (SV.int IntKind.u64 (↑b : Int)), some (SV.int IntKind.u64 (↑v : Int)),
              some (SV.int IntKind.u64 (↑x : Int)), none, none, none, some (SV.bool false),
              some (SV.int IntKind.u64 (↑low : Int)), some (SV.int IntKind.u64 (↑high : Int)),
              some (SV.num IntKind.i64 (0 : Int)), some (SV.ptr (136 : Nat) (0 : Nat)), some (SV.bool c1),
              some (SV.ptr (164 : Nat) (0 : Nat)), some (SV.ptr (200 : Nat) (0 : Nat)), some (SV.bool c2),
              some (SV.ptr (216 : Nat) (0 : Nat)), some (SV.int IntKind.u64 (↑i : Int)),
              some (SV.int IntKind.u64 (↑v : Int)), some (SV.bool true), none, none, none, none, none, none,
              some (SV.bool true), some (SV.bool false),
              some
                (SV.tup
                  [SV.int IntKind.u64 (↑low : Int), SV.int IntKind.u64 (↑high : Int), SV.num IntKind.i64 (0 : Int)]),
              some (SV.int IntKind.u64 (↑v : Int)), some (SV.int IntKind.u64 (↑b : Int)),
              some
                (SV.tup
                  [SV.int IntKind.u64 (↑low : Int), SV.int IntKind.u64 (↑high : Int), SV.num IntKind.i64 (0 : Int)]),
              some (SV.int IntKind.u64 (↑low : Int)), some (SV.int IntKind.u64 (↑high : Int)),
              some (SV.num IntKind.i64 (0 : Int)), some (SV.int IntKind.u64 (↑b : Int)), some (SV.bool false), none,
              none, none, none, none, none, none, none, none, none, some (SV.int IntKind.u64 (↑v : Int)),
              some (SV.int IntKind.u64 (↑b : Int)), some (SV.bool false), none, none, none, none, none, none, none,
              none, none, none, some (SV.num IntKind.i64 (0 : Int)), some (SV.bool false), some (SV.bool false),
              some (SV.int IntKind.u64 (↑low : Int)), some (SV.int IntKind.u64 (↑high : Int)), some (SV.bool false),
              some (SV.bool false),
              some (SV.tup [SV.agg [SV.int IntKind.u64 (↑m1 : Int), SV.int IntKind.u64 (↑m0 : Int)], SV.bool c1]),
              some (SV.int IntKind.u64 (↑high : Int)), some (SV.int IntKind.u64 (↑low : Int)),
              some (SV.int IntKind.u64 (↑d : Int)),
              some (SV.agg [SV.int IntKind.u64 (↑z1 : Int), SV.int IntKind.u64 (↑z0 : Int)]),
              some (SV.agg [SV.int IntKind.u64 (↑o1 : Int), SV.int IntKind.u64 (↑o0 : Int)]),
              some (SV.tup [SV.agg [SV.int IntKind.u64 (↑m1 : Int), SV.int IntKind.u64 (↑m0 : Int)], SV.bool c1]),
              some (SV.agg [SV.int IntKind.u64 (↑m1 : Int), SV.int IntKind.u64 (↑m0 : Int)]), some (SV.bool c1),
              some (SV.agg [SV.int IntKind.u64 (↑m1 : Int), SV.int IntKind.u64 (↑m0 : Int)]),
              some (SV.int IntKind.u64 (↑b : Int)),
              some (SV.agg [SV.int IntKind.u64 (↑b1 : Int), SV.int IntKind.u64 (↑b0 : Int)]),
              some (SV.agg [SV.int IntKind.u64 (↑a1 : Int), SV.int IntKind.u64 (↑a0 : Int)]),
              some (SV.tup [SV.agg [SV.int IntKind.u64 (↑e1 : Int), SV.int IntKind.u64 (↑e0 : Int)], SV.bool c2]),
              some (SV.agg [SV.int IntKind.u64 (↑a1 : Int), SV.int IntKind.u64 (↑a0 : Int)]),
              some (SV.int IntKind.u64 (↑b : Int)),
              some (SV.agg [SV.int IntKind.u64 (↑b1 : Int), SV.int IntKind.u64 (↑b0 : Int)]),
              some (SV.tup [SV.agg [SV.int IntKind.u64 (↑e1 : Int), SV.int IntKind.u64 (↑e0 : Int)], SV.bool c2]),
              some (SV.agg [SV.int IntKind.u64 (↑e1 : Int), SV.int IntKind.u64 (↑e0 : Int)]), some (SV.bool c2),
              some (SV.agg [SV.num IntKind.u64 (1 : Int), SV.num IntKind.u64 (0 : Int)]),
              some (SV.agg [SV.int IntKind.u64 (↑a1 : Int), SV.int IntKind.u64 (↑a0 : Int)]),
              some (SV.agg [SV.num IntKind.u64 (1 : Int), SV.num IntKind.u64 (0 : Int)]), some (SV.int IntKind.i64 k1),
              some (SV.bool false), some (SV.bool false),
              some (SV.agg [SV.int IntKind.u64 (↑e1 : Int), SV.int IntKind.u64 (↑e0 : Int)]),
              some (SV.agg [SV.num IntKind.u64 (1 : Int), SV.num IntKind.u64 (0 : Int)]), some (SV.int IntKind.i64 k2),
              some (SV.bool false), some (SV.bool false), some (SV.int IntKind.u64 (↑x : Int)),
              some (SV.int IntKind.u64 (↑high : Int)), some (SV.int IntKind.u64 (↑low : Int)),
              some (SV.int IntKind.u64 (IntKind.u64.wrap ((↑high : Int) - (↑low : Int)))), some (SV.bool true),
              some (SV.int IntKind.u64 (↑low : Int)), some (SV.int IntKind.u64 (↑x : Int)),
              some (SV.int IntKind.u64 (↑high : Int)), some (SV.int IntKind.u64 (↑low : Int)),
              some (SV.int IntKind.u64 (↑d : Int)), some (SV.int IntKind.u64 (↑d2 : Int)),
              some (SV.int IntKind.u64 (↑rm : Int)), some (SV.int IntKind.u64 (↑i : Int)),
              some (SV.tup [SV.int IntKind.u64 (↑v : Int), SV.bool true]), some (SV.int IntKind.u64 (↑i : Int)),
              some (SV.int IntKind.u64 (↑b : Int)), some (SV.tup [SV.int IntKind.u64 (↑v : Int), SV.bool true]),
              some (SV.int IntKind.u64 (↑v : Int)), some (SV.bool true), some (SV.bool true), some (SV.bool false),
              some (SV.bool false), some (SV.int IntKind.u64 (↑v : Int)), some (SV.int IntKind.u64 (↑v : Int)),
              some (SV.bool false), some (SV.bool false), some (SV.int IntKind.u64 (↑low : Int)),
              some (SV.int IntKind.u64 (↑y1 : Int)), some (SV.int IntKind.u64 (↑high : Int)),
              some (SV.int IntKind.u64 (↑y2 : Int)),
              some (SV.agg [SV.int IntKind.u64 (↑y1 : Int), SV.int IntKind.u64 (↑y2 : Int)]),
              some (SV.num IntKind.i64 (0 : Int)), none, none, none, none, none, none, none, none, none, none, none,
              none, none, none, none, none, none, none, none, none, none, none, none, none, none, none, none, none,
              none, none, none, none, none, none, none, none, none, none, none, none, none, none, none, none, none,
              none, none],
          h :=
            [((216 : Nat), Ent.own (31 : Nat) [SV.num IntKind.u64 (1 : Int), SV.num IntKind.u64 (0 : Int)]),
              ((200 : Nat), Ent.own (31 : Nat) [SV.int IntKind.u64 (↑e1 : Int), SV.int IntKind.u64 (↑e0 : Int)]),
              ((164 : Nat), Ent.own (31 : Nat) [SV.int IntKind.u64 (↑a1 : Int), SV.int IntKind.u64 (↑a0 : Int)]),
              ((136 : Nat), Ent.own (31 : Nat) [SV.int IntKind.u64 (↑m1 : Int), SV.int IntKind.u64 (↑m0 : Int)])] }
        {
          t :=
            [some (SV.int IntKind.u64 (↑b : Int)), some (SV.int IntKind.u64 (↑v : Int)),
              some (SV.int IntKind.u64 (↑x : Int)), none, none, none, none, some (SV.int IntKind.u64 (↑low : Int)),
              some (SV.int IntKind.u64 (↑high : Int)), none, none, none, none, none, none, none, none, none, none, none,
              none, none, none, none, none, none, none, none, none, none, none, none, none, none, none, none, none,
              none, none, none, none, none, none, none, none, none, none, none, none, none, none, none, none, none,
              none, none, none, none, none, none, none, none, none, none, none, none, none, none, none, none, none,
              none, none, none, none, none, none, none, none, none, none, none, none, none, none, none, none, none,
              none, none, none, none, none, none, none, none, none, none, none, none, none, none, none, none, none,
              none, none, none, none, none, none, none, none, none, none, none, none, none, none, none, none, none,
              none, none, none, none, none, none, none, none, none, none, none, none, none, none, none, none, none,
              none, none, none, none, none, none, none, none, none, none, none, none, none, none, none, none, none,
              none, none, none, none, none, none, none, none, none, none, none, none, none, none, none, none, none,
              none, none, none],
          h := [] }
        (Ex.exit (0 : Nat)),
      Con Tryz.prog (6 : Nat) [SV.int IntKind.u64 (↑x : Int), SV.int IntKind.u64 (↑b : Int)] []
        (SV.tup [SV.int IntKind.u64 (↑w : Int), SV.bool true]) [],
      SV.bool ((↑w : Int) == (↑v : Int)) = SV.bool true, SV.bool (decide ((↑x : Int) ≥ (↑low : Int))) = SV.bool true,
      SV.bool (decide ((↑x : Int) ≤ (↑high : Int))) = SV.bool true]) := by kernel_rfl

theorem row_p3 (b : Nat) (v : Nat) (x : Nat) (low : Nat) (high : Nat) (d : Nat) (z1 : Nat) (z0 : Nat) (o1 : Nat) (o0 : Nat) (m1 : Nat) (m0 : Nat) (b1 : Nat) (b0 : Nat) (a1 : Nat) (a0 : Nat) (e1 : Nat) (e0 : Nat) (y1 : Nat) (y2 : Nat) (w : Nat) (d2 : Nat) (rm : Nat) (i : Nat) (c1 : Bool) (c2 : Bool) (k1 : Int) (k2 : Int) : out1
  (callFn Tryz.prog D0 (200 : Nat) (4 : FuncId) [u64 b, u64 v, u64 x] [] (0 : Nat)
    [DE.op (25 : Nat) (Dir.con (SV.bool true) [] []),
      DE.op (30 : Nat) (Dir.con (SV.tup [u64 low, u64 high, SV.num IntKind.i64 (0 : Int)]) [] []),
      DE.op (35 : Nat) (Dir.eqv (SV.bool false)), DE.op (48 : Nat) (Dir.eqv (SV.bool false)),
      DE.op (64 : Nat) (Dir.eqv (SV.bool false)), DE.op (69 : Nat) (Dir.eqv (u64 d)),
      DE.op (70 : Nat) (Dir.con (SV.agg [u64 z1, u64 z0]) [] []),
      DE.op (71 : Nat) (Dir.con (SV.agg [u64 o1, u64 o0]) [] []),
      DE.op (72 : Nat) (Dir.con (SV.tup [SV.agg [u64 m1, u64 m0], SV.bool c1]) [] []),
      DE.op (77 : Nat) (Dir.con (SV.agg [u64 b1, u64 b0]) [] []),
      DE.op (78 : Nat) (Dir.con (SV.agg [u64 a1, u64 a0]) [] []),
      DE.op (82 : Nat) (Dir.con (SV.agg [u64 b1, u64 b0]) [] []),
      DE.op (83 : Nat) (Dir.con (SV.tup [SV.agg [u64 e1, u64 e0], SV.bool c2]) [] []),
      DE.op (89 : Nat) (Dir.con (SV.int IntKind.i64 k1) [] []), DE.op (90 : Nat) (Dir.eqv (SV.bool false)),
      DE.op (94 : Nat) (Dir.con (SV.int IntKind.i64 k2) [] []), DE.op (95 : Nat) (Dir.eqv (SV.bool false)),
      DE.op (101 : Nat) (Dir.eqv (SV.bool true)), DE.op (106 : Nat) (Dir.eqv (u64 d)),
      DE.op (107 : Nat) (Dir.eqv (u64 d2)), DE.op (108 : Nat) (Dir.eqv (u64 rm)), DE.op (109 : Nat) (Dir.eqv (u64 i)),
      DE.op (113 : Nat) (Dir.con (SV.tup [u64 v, SV.bool true]) [] []), DE.op (121 : Nat) (Dir.eqv (SV.bool false)),
      DE.op (124 : Nat) (Dir.eqv (u64 y1)), DE.op (126 : Nat) (Dir.eqv (u64 y2)),
      DE.cut
        {
          t :=
            mkT (176 : Nat)
              [((0 : Nat), u64 b), ((1 : Nat), u64 v), ((2 : Nat), u64 x), ((7 : Nat), u64 low), ((8 : Nat), u64 high)],
          h := [] }
        (0 : Nat) (Ex.exit (0 : Nat)),
      DE.op (157 : Nat) (Dir.con (SV.tup [u64 w, SV.bool true]) [] []), DE.op (165 : Nat) (Dir.eqv (SV.bool false)),
      DE.op (168 : Nat) (Dir.eqv (SV.bool false))]) =
  some
  (SV.bool true,
    [Con Tryz.prog (5 : Nat) [] [] (SV.bool true) [],
      Con Tryz.prog (8 : Nat) [SV.int IntKind.u64 (↑v : Int), SV.int IntKind.u64 (↑b : Int)] []
        (SV.tup [SV.int IntKind.u64 (↑low : Int), SV.int IntKind.u64 (↑high : Int), SV.num IntKind.i64 (0 : Int)]) [],
      SV.bool ((↑b : Int) == (0 : Int)) = SV.bool false, SV.bool (decide ((↑v : Int) ≥ (↑b : Int))) = SV.bool false,
      SV.bool (decide ((↑low : Int) > (↑high : Int))) = SV.bool false,
      SV.int IntKind.u64 (IntKind.u64.wrap ((↑high : Int) - (↑low : Int))) = SV.int IntKind.u64 (↑d : Int),
      Con Tryz.prog (10 : Nat) [SV.int IntKind.u64 (↑d : Int)] []
        (SV.agg [SV.int IntKind.u64 (↑z1 : Int), SV.int IntKind.u64 (↑z0 : Int)]) [],
      Con Tryz.prog (10 : Nat) [SV.int IntKind.u64 (1 : Int)] []
        (SV.agg [SV.int IntKind.u64 (↑o1 : Int), SV.int IntKind.u64 (↑o0 : Int)]) [],
      Con Tryz.prog (9 : Nat)
        [SV.agg [SV.int IntKind.u64 (↑z1 : Int), SV.int IntKind.u64 (↑z0 : Int)],
          SV.agg [SV.int IntKind.u64 (↑o1 : Int), SV.int IntKind.u64 (↑o0 : Int)]]
        [] (SV.tup [SV.agg [SV.int IntKind.u64 (↑m1 : Int), SV.int IntKind.u64 (↑m0 : Int)], SV.bool c1]) [],
      Con Tryz.prog (10 : Nat) [SV.int IntKind.u64 (↑b : Int)] []
        (SV.agg [SV.int IntKind.u64 (↑b1 : Int), SV.int IntKind.u64 (↑b0 : Int)]) [],
      Con Tryz.prog (11 : Nat)
        [SV.agg [SV.int IntKind.u64 (↑m1 : Int), SV.int IntKind.u64 (↑m0 : Int)],
          SV.agg [SV.int IntKind.u64 (↑b1 : Int), SV.int IntKind.u64 (↑b0 : Int)]]
        [] (SV.agg [SV.int IntKind.u64 (↑a1 : Int), SV.int IntKind.u64 (↑a0 : Int)]) [],
      Con Tryz.prog (10 : Nat) [SV.int IntKind.u64 (↑b : Int)] []
        (SV.agg [SV.int IntKind.u64 (↑b1 : Int), SV.int IntKind.u64 (↑b0 : Int)]) [],
      Con Tryz.prog (9 : Nat)
        [SV.agg [SV.int IntKind.u64 (↑a1 : Int), SV.int IntKind.u64 (↑a0 : Int)],
          SV.agg [SV.int IntKind.u64 (↑b1 : Int), SV.int IntKind.u64 (↑b0 : Int)]]
        [] (SV.tup [SV.agg [SV.int IntKind.u64 (↑e1 : Int), SV.int IntKind.u64 (↑e0 : Int)], SV.bool c2]) [],
      Con Tryz.prog (12 : Nat)
        [SV.agg [SV.int IntKind.u64 (↑a1 : Int), SV.int IntKind.u64 (↑a0 : Int)],
          SV.agg [SV.int IntKind.u64 (1 : Int), SV.int IntKind.u64 (0 : Int)]]
        [] (SV.int IntKind.i64 k1) [],
      SV.bool (decide (k1 > (0 : Int))) = SV.bool false,
      Con Tryz.prog (12 : Nat)
        [SV.agg [SV.int IntKind.u64 (↑e1 : Int), SV.int IntKind.u64 (↑e0 : Int)],
          SV.agg [SV.int IntKind.u64 (1 : Int), SV.int IntKind.u64 (0 : Int)]]
        [] (SV.int IntKind.i64 k2) [],
      SV.bool (decide (k2 ≤ (0 : Int))) = SV.bool false,
      SV.bool (decide (IntKind.u64.wrap ((↑high : Int) - (↑low : Int)) < (18446744073709551615 : Int))) = SV.bool true,
      SV.int IntKind.u64 (IntKind.u64.wrap ((↑high : Int) - (↑low : Int))) = SV.int IntKind.u64 (↑d : Int),
      SV.int IntKind.u64 (IntKind.u64.wrap ((↑d : Int) + (1 : Int))) = SV.int IntKind.u64 (↑d2 : Int),
      SV.int IntKind.u64 ((↑x : Int).tmod (↑d2 : Int)) = SV.int IntKind.u64 (↑rm : Int), (↑d2 : Int) ≠ (0 : Int),
      SV.int IntKind.u64 (IntKind.u64.wrap ((↑low : Int) + (↑rm : Int))) = SV.int IntKind.u64 (↑i : Int),
      Con Tryz.prog (6 : Nat) [SV.int IntKind.u64 (↑i : Int), SV.int IntKind.u64 (↑b : Int)] []
        (SV.tup [SV.int IntKind.u64 (↑v : Int), SV.bool true]) [],
      SV.bool ((↑v : Int) != (↑v : Int)) = SV.bool false,
      SV.int IntKind.u64 (IntKind.u64.wrap ((↑low : Int) - (1 : Int))) = SV.int IntKind.u64 (↑y1 : Int),
      SV.int IntKind.u64 (IntKind.u64.wrap ((↑high : Int) + (1 : Int))) = SV.int IntKind.u64 (↑y2 : Int),
      CodeOK Tryz.prog (0 : Nat) (cutAt Tryz.prog (4 : FuncId) (0 : Nat))
        {
          t :=
            [some (SV.int IntKind.u64 (↑b : Int)), some (SV.int IntKind.u64 (↑v : Int)),
              some (SV.int IntKind.u64 (↑x : Int)), none, none, none, some (SV.bool false),
              some (SV.int IntKind.u64 (↑low : Int)), some (SV.int IntKind.u64 (↑high : Int)),
              some (SV.num IntKind.i64 (0 : Int)), some (SV.ptr (136 : Nat) (0 : Nat)), some (SV.bool c1),
              some (SV.ptr (164 : Nat) (0 : Nat)), some (SV.ptr (200 : Nat) (0 : Nat)), some (SV.bool c2),
              some (SV.ptr (216 : Nat) (0 : Nat)), some (SV.int IntKind.u64 (↑i : Int)),
              some (SV.int IntKind.u64 (↑v : Int)), some (SV.bool true), none, none, none, none, none, none,
              some (SV.bool true), some (SV.bool false),
              some
                (SV.tup
                  [SV.int IntKind.u64 (↑low : Int), SV.int IntKind.u64 (↑high : Int), SV.num IntKind.i64 (0 : Int)]),
              some (SV.int IntKind.u64 (↑v : Int)), some (SV.int IntKind.u64 (↑b : Int)),
              some
                (SV.tup
                  [SV.int IntKind.u64 (↑low : Int), SV.int IntKind.u64 (↑high : Int), SV.num IntKind.i64 (0 : Int)]),
              some (SV.int IntKind.u64 (↑low : Int)), some (SV.int IntKind.u64 (↑high : Int)),
              some (SV.num IntKind.i64 (0 : Int)), some (SV.int IntKind.u64 (↑b : Int)), some (SV.bool false), none,
              none, none, none, none, none, none, none, none, none, some (SV.int IntKind.u64 (↑v : Int)),
              some (SV.int IntKind.u64 (↑b : Int)), some (SV.bool false), none, none, none, none, none, none, none,
              none, none, none, some (SV.num IntKind.i64 (0 : Int)), some (SV.bool false), some (SV.bool false),
              some (SV.int IntKind.u64 (↑low : Int)), some (SV.int IntKind.u64 (↑high : Int)), some (SV.bool false),
              some (SV.bool false),
              some (SV.tup [SV.agg [SV.int IntKind.u64 (↑m1 : Int), SV.int IntKind.u64 (↑m0 : Int)], SV.bool c1]),
              some (SV.int IntKind.u64 (↑high : Int)), some (SV.int IntKind.u64 (↑low : Int)),
              some (SV.int IntKind.u64 (↑d : Int)),
              some (SV.agg [SV.int IntKind.u64 (↑z1 : Int), SV.int IntKind.u64 (↑z0 : Int)]),
              some (SV.agg [SV.int IntKind.u64 (↑o1 : Int), SV.int IntKind.u64 (↑o0 : Int)]),
              some (SV.tup [SV.agg [SV.int IntKind.u64 (↑m1 : Int), SV.int IntKind.u64 (↑m0 : Int)], SV.bool c1]),
              some (SV.agg [SV.int IntKind.u64 (↑m1 : Int), SV.int IntKind.u64 (↑m0 : Int)]), some (SV.bool c1),
              some (SV.agg [SV.int IntKind.u64 (↑m1 : Int), SV.int IntKind.u64 (↑m0 : Int)]),
              some (SV.int IntKind.u64 (↑b : Int)),
              some (SV.agg [SV.int IntKind.u64 (↑b1 : Int), SV.int IntKind.u64 (↑b0 : Int)]),
              some (SV.agg [SV.int IntKind.u64 (↑a1 : Int), SV.int IntKind.u64 (↑a0 : Int)]),
              some (SV.tup [SV.agg [SV.int IntKind.u64 (↑e1 : Int), SV.int IntKind.u64 (↑e0 : Int)], SV.bool c2]),
              some (SV.agg [SV.int IntKind.u64 (↑a1 : Int), SV.int IntKind.u64 (↑a0 : Int)]),
              some (SV.int IntKind.u64 (↑b : Int)),
              some (SV.agg [SV.int IntKind.u64 (↑b1 : Int), SV.int IntKind.u64 (↑b0 : Int)]),
              some (SV.tup [SV.agg [SV.int IntKind.u64 (↑e1 : Int), SV.int IntKind.u64 (↑e0 : Int)], SV.bool c2]),
              some (SV.agg [SV.int IntKind.u64 (↑e1 : Int), SV.int IntKind.u64 (↑e0 : Int)]), some (SV.bool c2),
              some (SV.agg [SV.num IntKind.u64 (1 : Int), SV.num IntKind.u64 (0 : Int)]),
              some (SV.agg [SV.int IntKind.u64 (↑a1 : Int), SV.int IntKind.u64 (↑a0 : Int)]),
              some (SV.agg [SV.num IntKind.u64 (1 : Int), SV.num IntKind.u64 (0 : Int)]), some (SV.int IntKind.i64 k1),
              some (SV.bool false), some (SV.bool false),
              some (SV.agg [SV.int IntKind.u64 (↑e1 : Int), SV.int IntKind.u64 (↑e0 : Int)]),
              some (SV.agg [SV.num IntKind.u64 (1 : Int), SV.num IntKind.u64 (0 : Int)]), some (SV.int IntKind.i64 k2),
              some (SV.bool false), some (SV.bool false), some (SV.int IntKind.u64 (↑x : Int)),
              some (SV.int IntKind.u64 (↑high : Int)), some (SV.int IntKind.u64 (↑low : Int)),
              some (SV.int IntKind.u64 (IntKind.u64.wrap ((↑high : Int) - (↑low : Int)))), some (SV.bool true),
              some (SV.int IntKind.u64 (↑low : Int)), some (SV.int IntKind.u64 (↑x : Int)),
              some (SV.int IntKind.u64 (↑high : Int)), some (SV.int IntKind.u64 (↑low : Int)),
              some (SV.int IntKind.u64 (↑d : Int)), some (SV.int IntKind.u64 (↑d2 : Int)),
              some (SV.int IntKind.u64 (↑rm : Int)), some (SV.int IntKind.u64 (↑i : Int)),
              some (SV.tup [SV.int IntKind.u64 (↑v : Int), SV.bool true]), some (SV.int IntKind.u64 (↑i : Int)),
              some (SV.int IntKind.u64 (↑b : Int)), some (SV.tup [SV.int IntKind.u64 (↑v : Int), SV.bool true]),
              some (SV.int IntKind.u64 (↑v : Int)), some (SV.bool true), some (SV.bool true), some (SV.bool false),
              some (SV.bool false), some (SV.int IntKind.u64 (↑v : Int)), some (SV.int IntKind.u64 (↑v : Int)),
              some (SV.bool false), some (SV.bool false), some (SV.int IntKind.u64 (↑low : Int)),
              some (SV.int IntKind.u64 (↑y1 : Int)), some (SV.int IntKind.u64 (↑high : Int)),
              some (SV.int IntKind.u64 (↑y2 : Int)),
              some (SV.agg [SV.int IntKind.u64 (↑y1 : Int), SV.int IntKind.u64 (↑y2 : Int)]),
              some (SV.num IntKind.i64 (0 : Int)), none, none, none, none, none, none, none, none, none, none, none,
              none, none, none, none, none, none, none, none, none, none, none, none, none, none, none, none, none,
              none, none, none, none, none, none, none, none, none, none, none, none, none, none, none, none, none,
              none, none],
          h :=
            [((216 : Nat), Ent.own (31 : Nat) [SV.num IntKind.u64 (1 : Int), SV.num IntKind.u64 (0 : Int)]),
              ((200 : Nat), Ent.own (31 : Nat) [SV.int IntKind.u64 (↑e1 : Int), SV.int IntKind.u64 (↑e0 : Int)]),
              ((164 : Nat), Ent.own (31 : Nat) [SV.int IntKind.u64 (↑a1 : Int), SV.int IntKind.u64 (↑a0 : Int)]),
              ((136 : Nat), Ent.own (31 : Nat) [SV.int IntKind.u64 (↑m1 : Int), SV.int IntKind.u64 (↑m0 : Int)])] }
        {
          t :=
            [some (SV.int IntKind.u64 (↑b : Int)), some (SV.int IntKind.u64 (↑v : Int)),
              some (SV.int IntKind.u64 (↑x : Int)), none, none, none, none, some (SV.int IntKind.u64 (↑low : Int)),
              some (SV.int IntKind.u64 (↑high : Int)), none, none, none, none, none, none, none, none, none, none, none,
              none, none, none, none, none, none, none, none, none, none, none, none, none, none, none, none, none,
              none, none, none, none, none, none, none, none, none, none, none, none, none, none, none, none, none,
              none, none, none, none, none, none, none, none, none, none, none, none, none, none, none, none, none,
              none, none, none, none, none, none, none, none, none, none, none, none, none, none, none, none, none,
              none, none, none, none, none, none, none, none, none, none, none, none, none, none, none, none, none,
              none, none, none, none, none, none, none, none, none, none, none, none, none, none, none, none, none,
              none, none, none, none, none, none, none, none, none, none, none, none, none, none, none, none, none,
              none, none, none, none, none, none, none, none, none, none, none, none, none, none, none, none, none,
              none, none, none, none, none, none, none, none, none, none, none, none, none, none, none, none, none,
              none, none, none],
          h := [] }
        (Ex.exit (0 : Nat)),
      Con Tryz.prog (6 : Nat) [SV.int IntKind.u64 (↑x : Int), SV.int IntKind.u64 (↑b : Int)] []
        (SV.tup [SV.int IntKind.u64 (↑w : Int), SV.bool true]) [],
      SV.bool ((↑w : Int) == (↑v : Int)) = SV.bool false, SV.bool (decide ((↑x : Int) ≥ (↑low : Int))) = SV.bool false]) := by kernel_rfl

theorem row_p4 (b : Nat) (v : Nat) (x : Nat) (low : Nat) (high : Nat) (d : Nat) (z1 : Nat) (z0 : Nat) (o1 : Nat) (o0 : Nat) (m1 : Nat) (m0 : Nat) (b1 : Nat) (b0 : Nat) (a1 : Nat) (a0 : Nat) (e1 : Nat) (e0 : Nat) (y1 : Nat) (y2 : Nat) (w : Nat) (d2 : Nat) (rm : Nat) (i : Nat) (c1 : Bool) (c2 : Bool) (k1 : Int) (k2 : Int) : out1
  (callFn Tryz.prog D0 (200 : Nat) (4 : FuncId) [u64 b, u64 v, u64 x] [] (0 : Nat)
    [DE.op (25 : Nat) (Dir.con (SV.bool true) [] []),
      DE.op (30 : Nat) (Dir.con (SV.tup [u64 low, u64 high, SV.num IntKind.i64 (0 : Int)]) [] []),
      DE.op (35 : Nat) (Dir.eqv (SV.bool false)), DE.op (48 : Nat) (Dir.eqv (SV.bool false)),
      DE.op (64 : Nat) (Dir.eqv (SV.bool false)), DE.op (69 : Nat) (Dir.eqv (u64 d)),
      DE.op (70 : Nat) (Dir.con (SV.agg [u64 z1, u64 z0]) [] []),
      DE.op (71 : Nat) (Dir.con (SV.agg [u64 o1, u64 o0]) [] []),
      DE.op (72 : Nat) (Dir.con (SV.tup [SV.agg [u64 m1, u64 m0], SV.bool c1]) [] []),
      DE.op (77 : Nat) (Dir.con (SV.agg [u64 b1, u64 b0]) [] []),
      DE.op (78 : Nat) (Dir.con (SV.agg [u64 a1, u64 a0]) [] []),
      DE.op (82 : Nat) (Dir.con (SV.agg [u64 b1, u64 b0]) [] []),
      DE.op (83 : Nat) (Dir.con (SV.tup [SV.agg [u64 e1, u64 e0], SV.bool c2]) [] []),
      DE.op (89 : Nat) (Dir.con (SV.int IntKind.i64 k1) [] []), DE.op (90 : Nat) (Dir.eqv (SV.bool false)),
      DE.op (94 : Nat) (Dir.con (SV.int IntKind.i64 k2) [] []), DE.op (95 : Nat) (Dir.eqv (SV.bool false)),
      DE.op (101 : Nat) (Dir.eqv (SV.bool true)), DE.op (106 : Nat) (Dir.eqv (u64 d)),
      DE.op (107 : Nat) (Dir.eqv (u64 d2)), DE.op (108 : Nat) (Dir.eqv (u64 rm)), DE.op (109 : Nat) (Dir.eqv (u64 i)),
      DE.op (113 : Nat) (Dir.con (SV.tup [u64 v, SV.bool true]) [] []), DE.op (121 : Nat) (Dir.eqv (SV.bool false)),
      DE.op (124 : Nat) (Dir.eqv (u64 y1)), DE.op (126 : Nat) (Dir.eqv (u64 y2)),
      DE.cut
        {
          t :=
            mkT (176 : Nat)
              [((0 : Nat), u64 b), ((1 : Nat), u64 v), ((2 : Nat), u64 x), ((7 : Nat), u64 low), ((8 : Nat), u64 high)],
          h := [] }
        (0 : Nat) (Ex.exit (0 : Nat)),
      DE.op (157 : Nat) (Dir.con (SV.tup [u64 w, SV.bool true]) [] []), DE.op (165 : Nat) (Dir.eqv (SV.bool false)),
      DE.op (168 : Nat) (Dir.eqv (SV.bool true)), DE.op (172 : Nat) (Dir.eqv (SV.bool false))]) =
  some
  (SV.bool true,
    [Con Tryz.prog (5 : Nat) [] [] (SV.bool true) [],
      Con Tryz.prog (8 : Nat) [SV.int IntKind.u64 (↑v : Int), SV.int IntKind.u64 (↑b : Int)] []
        (SV.tup [SV.int IntKind.u64 (↑low : Int), SV.int IntKind.u64 (↑high : Int), SV.num IntKind.i64 (0 : Int)]) [],
      SV.bool ((↑b : Int) == (0 : Int)) = SV.bool false, SV.bool (decide ((↑v : Int) ≥ (↑b : Int))) = SV.bool false,
      SV.bool (decide ((↑low : Int) > (↑high : Int))) = SV.bool false,
      SV.int IntKind.u64 (IntKind.u64.wrap ((↑high : Int) - (↑low : Int))) = SV.int IntKind.u64 (↑d : Int),
      Con Tryz.prog (10 : Nat) [SV.int IntKind.u64 (↑d : Int)] []
        (SV.agg [SV.int IntKind.u64 (↑z1 : Int), SV.int IntKind.u64 (↑z0 : Int)]) [],
      Con Tryz.prog (10 : Nat) [SV.int IntKind.u64 (1 : Int)] []
        (SV.agg [SV.int IntKind.u64 (↑o1 : Int), SV.int IntKind.u64 (↑o0 : Int)]) [],
      Con Tryz.prog (9 : Nat)
        [SV.agg [SV.int IntKind.u64 (↑z1 : Int), SV.int IntKind.u64 (↑z0 : Int)],
          SV.agg [SV.int IntKind.u64 (↑o1 : Int), SV.int IntKind.u64 (↑o0 : Int)]]
        [] (SV.tup [SV.agg [SV.int IntKind.u64 (↑m1 : Int), SV.int IntKind.u64 (↑m0 : Int)], SV.bool c1]) [],
      Con Tryz.prog (10 : Nat) [SV.int IntKind.u64 (↑b : Int)] []
        (SV.agg [SV.int IntKind.u64 (↑b1 : Int), SV.int IntKind.u64 (↑b0 : Int)]) [],
      Con Tryz.prog (11 : Nat)
        [SV.agg [SV.int IntKind.u64 (↑m1 : Int), SV.int IntKind.u64 (↑m0 : Int)],
          SV.agg [SV.int IntKind.u64 (↑b1 : Int), SV.int IntKind.u64 (↑b0 : Int)]]
        [] (SV.agg [SV.int IntKind.u64 (↑a1 : Int), SV.int IntKind.u64 (↑a0 : Int)]) [],
      Con Tryz.prog (10 : Nat) [SV.int IntKind.u64 (↑b : Int)] []
        (SV.agg [SV.int IntKind.u64 (↑b1 : Int), SV.int IntKind.u64 (↑b0 : Int)]) [],
      Con Tryz.prog (9 : Nat)
        [SV.agg [SV.int IntKind.u64 (↑a1 : Int), SV.int IntKind.u64 (↑a0 : Int)],
          SV.agg [SV.int IntKind.u64 (↑b1 : Int), SV.int IntKind.u64 (↑b0 : Int)]]
        [] (SV.tup [SV.agg [SV.int IntKind.u64 (↑e1 : Int), SV.int IntKind.u64 (↑e0 : Int)], SV.bool c2]) [],
      Con Tryz.prog (12 : Nat)
        [SV.agg [SV.int IntKind.u64 (↑a1 : Int), SV.int IntKind.u64 (↑a0 : Int)],
          SV.agg [SV.int IntKind.u64 (1 : Int), SV.int IntKind.u64 (0 : Int)]]
        [] (SV.int IntKind.i64 k1) [],
      SV.bool (decide (k1 > (0 : Int))) = SV.bool false,
      Con Tryz.prog (12 : Nat)
        [SV.agg [SV.int IntKind.u64 (↑e1 : Int), SV.int IntKind.u64 (↑e0 : Int)],
          SV.agg [SV.int IntKind.u64 (1 : Int), SV.int IntKind.u64 (0 : Int)]]
        [] (SV.int IntKind.i64 k2) [],
      SV.bool (decide (k2 ≤ (0 : Int))) = SV.bool false,
      SV.bool (decide (IntKind.u64.wrap ((↑high : Int) - (↑low : Int)) < (18446744073709551615 : Int))) = SV.bool true,
      SV.int IntKind.u64 (IntKind.u64.wrap ((↑high : Int) - (↑low : Int))) = SV.int IntKind.u64 (↑d : Int),
      SV.int IntKind.u64 (IntKind.u64.wrap ((↑d : Int) + (1 : Int))) = SV.int IntKind.u64 (↑d2 : Int),
      SV.int IntKind.u64 ((↑x : Int).tmod (↑d2 : Int)) = SV.int IntKind.u64 (↑rm : Int), (↑d2 : Int) ≠ (0 : Int),
      SV.int IntKind.u64 (IntKind.u64.wrap ((↑low : Int) + (↑rm : Int))) = SV.int IntKind.u64 (↑i : Int),
      Con Tryz.prog (6 : Nat) [SV.int IntKind.u64 (↑i : Int), SV.int IntKind.u64 (↑b : Int)] []
        (SV.tup [SV.int IntKind.u64 (↑v : Int), SV.bool true]) [],
      SV.bool ((↑v : Int) != (↑v : Int)) = SV.bool false,
      SV.int IntKind.u64 (IntKind.u64.wrap ((↑low : Int) - (1 : Int))) = SV.int IntKind.u64 (↑y1 : Int),
      SV.int IntKind.u64 (IntKind.u64.wrap ((↑high : Int) + (1 : Int))) = SV.int IntKind.u64 (↑y2 : Int),
      CodeOK Tryz.prog (0 : Nat) (cutAt Tryz.prog (4 : FuncId) (0 : Nat))
        {
          t :=
            [some (SV.int IntKind.u64 (↑b : Int)), some (SV.int IntKind.u64 (↑v : Int)),
              some (SV.int IntKind.u64 (↑x : Int)), none, none, none, some (SV.bool false),
              some (SV.int IntKind.u64 (↑low : Int)), some (SV.int IntKind.u64 (↑high : Int)),
              some (SV.num IntKind.i64 (0 : Int)), some (SV.ptr (136 : Nat) (0 : Nat)), some (SV.bool c1),
              some (SV.ptr (164 : Nat) (0 : Nat)), some (SV.ptr (200 : Nat) (0 : Nat)), some (SV.bool c2),
              some (SV.ptr (216 : Nat) (0 : Nat)), some (SV.int IntKind.u64 (↑i : Int)),
              some (SV.int IntKind.u64 (↑v : Int)), some (SV.bool true), none, none, none, none, none, none,
              some (SV.bool true), some (SV.bool false),
              some
                (SV.tup
                  [SV.int IntKind.u64 (↑low : Int), SV.int IntKind.u64 (↑high : Int), SV.num IntKind.i64 (0 : Int)]),
              some (SV.int IntKind.u64 (↑v : Int)), some (SV.int IntKind.u64 (↑b : Int)),
              some
                (SV.tup
                  [SV.int IntKind.u64 (↑low : Int), SV.int IntKind.u64 (↑high : Int), SV.num IntKind.i64 (0 : Int)]),
              some (SV.int IntKind.u64 (↑low : Int)), some (SV.int IntKind.u64 (↑high : Int)),
              some (SV.num IntKind.i64 (0 : Int)), some (SV.int IntKind.u64 (↑b : Int)), some (SV.bool false), none,
              none, none, none, none, none, none, none, none, none, some (SV.int IntKind.u64 (↑v : Int)),
              some (SV.int IntKind.u64 (↑b : Int)), some (SV.bool false), none, none, none, none, none, none, none,
              none, none, none, some (SV.num IntKind.i64 (0 : Int)), some (SV.bool false), some (SV.bool false),
              some (SV.int IntKind.u64 (↑low : Int)), some (SV.int IntKind.u64 (↑high : Int)), some (SV.bool false),
              some (SV.bool false),
              some (SV.tup [SV.agg [SV.int IntKind.u64 (↑m1 : Int), SV.int IntKind.u64 (↑m0 : Int)], SV.bool c1]),
              some (SV.int IntKind.u64 (↑high : Int)), some (SV.int IntKind.u64 (↑low : Int)),
              some (SV.int IntKind.u64 (↑d : Int)),
              some (SV.agg [SV.int IntKind.u64 (↑z1 : Int), SV.int IntKind.u64 (↑z0 : Int)]),
              some (SV.agg [SV.int IntKind.u64 (↑o1 : Int), SV.int IntKind.u64 (↑o0 : Int)]),
              some (SV.tup [SV.agg [SV.int IntKind.u64 (↑m1 : Int), SV.int IntKind.u64 (↑m0 : Int)], SV.bool c1]),
              some (SV.agg [SV.int IntKind.u64 (↑m1 : Int), SV.int IntKind.u64 (↑m0 : Int)]), some (SV.bool c1),
              some (SV.agg [SV.int IntKind.u64 (↑m1 : Int), SV.int IntKind.u64 (↑m0 : Int)]),
              some (SV.int IntKind.u64 (↑b : Int)),
              some (SV.agg [SV.int IntKind.u64 (↑b1 : Int), SV.int IntKind.u64 (↑b0 : Int)]),
              some (SV.agg [SV.int IntKind.u64 (↑a1 : Int), SV.int IntKind.u64 (↑a0 : Int)]),
              some (SV.tup [SV.agg [SV.int IntKind.u64 (↑e1 : Int), SV.int IntKind.u64 (↑e0 : Int)], SV.bool c2]),
              some (SV.agg [SV.int IntKind.u64 (↑a1 : Int), SV.int IntKind.u64 (↑a0 : Int)]),
              some (SV.int IntKind.u64 (↑b : Int)),
              some (SV.agg [SV.int IntKind.u64 (↑b1 : Int), SV.int IntKind.u64 (↑b0 : Int)]),
              some (SV.tup [SV.agg [SV.int IntKind.u64 (↑e1 : Int), SV.int IntKind.u64 (↑e0 : Int)], SV.bool c2]),
              some (SV.agg [SV.int IntKind.u64 (↑e1 : Int), SV.int IntKind.u64 (↑e0 : Int)]), some (SV.bool c2),
              some (SV.agg [SV.num IntKind.u64 (1 : Int), SV.num IntKind.u64 (0 : Int)]),
              some (SV.agg [SV.int IntKind.u64 (↑a1 : Int), SV.int IntKind.u64 (↑a0 : Int)]),
              some (SV.agg [SV.num IntKind.u64 (1 : Int), SV.num IntKind.u64 (0 : Int)]), some (SV.int IntKind.i64 k1),
              some (SV.bool false), some (SV.bool false),
              some (SV.agg [SV.int IntKind.u64 (↑e1 : Int), SV.int IntKind.u64 (↑e0 : Int)]),
              some (SV.agg [SV.num IntKind.u64 (1 : Int), SV.num IntKind.u64 (0 : Int)]), some (SV.int IntKind.i64 k2),
              some (SV.bool false), some (SV.bool false), some (SV.int IntKind.u64 (↑x : Int)),
              some (SV.int IntKind.u64 (↑high : Int)), some (SV.int IntKind.u64 (↑low : Int)),
              some (SV.int IntKind.u64 (IntKind.u64.wrap ((↑high : Int) - (↑low : Int)))), some (SV.bool true),
              some (SV.int IntKind.u64 (↑low : Int)), some (SV.int IntKind.u64 (↑x : Int)),
              some (SV.int IntKind.u64 (↑high : Int)), some (SV.int IntKind.u64 (↑low : Int)),
              some (SV.int IntKind.u64 (↑d : Int)), some (SV.int IntKind.u64 (↑d2 : Int)),
              some (SV.int IntKind.u64 (↑rm : Int)), some (SV.int IntKind.u64 (↑i : Int)),
              some (SV.tup [SV.int IntKind.u64 (↑v : Int), SV.bool true]), some (SV.int IntKind.u64 (↑i : Int)),
              some (SV.int IntKind.u64 (↑b : Int)), some (SV.tup [SV.int IntKind.u64 (↑v : Int), SV.bool true]),
              some (SV.int IntKind.u64 (↑v : Int)), some (SV.bool true), some (SV.bool true), some (SV.bool false),
              some (SV.bool false), some (SV.int IntKind.u64 (↑v : Int)), some (SV.int IntKind.u64 (↑v : Int)),
              some (SV.bool false), some (SV.bool false), some (SV.int IntKind.u64 (↑low : Int)),
              some (SV.int IntKind.u64 (↑y1 : Int)), some (SV.int IntKind.u64 (↑high : Int)),
              some (SV.int IntKind.u64 (↑y2 : Int)),
              some (SV.agg [SV.int IntKind.u64 (↑y1 : Int), SV.int IntKind.u64 (↑y2 : Int)]),
              some (SV.num IntKind.i64 (0 : Int)), none, none, none, none, none, none, none, none, none, none, none,
              none, none, none, none, none, none, none, none, none, none, none, none, none, none, none, none, none,
              none, none, none, none, none, none, none, none, none, none, none, none, none, none, none, none, none,
              none, none],
          h :=
            [((216 : Nat), Ent.own (31 : Nat) [SV.num IntKind.u64 (1 : Int), SV.num IntKind.u64 (0 : Int)]),
              ((200 : Nat), Ent.own (31 : Nat) [SV.int IntKind.u64 (↑e1 : Int), SV.int IntKind.u64 (↑e0 : Int)]),
              ((164 : Nat), Ent.own (31 : Nat) [SV.int IntKind.u64 (↑a1 : Int), SV.int IntKind.u64 (↑a0 : Int)]),
              ((136 : Nat), Ent.own (31 : Nat) [SV.int IntKind.u64 (↑m1 : Int), SV.int IntKind.u64 (↑m0 : Int)])] }
        {
          t :=
            [some (SV.int IntKind.u64 (↑b : Int)), some (SV.int IntKind.u64 (↑v : Int)),
              some (SV.int IntKind.u64 (↑x : Int)), none, none, none, none, some (SV.int IntKind.u64 (↑low : Int)),
              some (SV.int IntKind.u64 (↑high : Int)), none, none, none, none, none, none, none, none, none, none, none,
              none, none, none, none, none, none, none, none, none, none, none, none, none, none, none, none, none,
              none, none, none, none, none, none, none, none, none, none, none, none, none, none, none, none, none,
              none, none, none, none, none, none, none, none, none, none, none, none, none, none, none, none, none,
              none, none, none, none, none, none, none, none, none, none, none, none, none, none, none, none, none,
              none, none, none, none, none, none, none, none, none, none, none, none, none, none, none, none, none,
              none, none, none, none, none, none, none, none, none, none, none, none, none, none, none, none, none,
              none, none, none, none, none, none, none, none, none, none, none, none, none, none, none, none, none,
              none, none, none, none, none, none, none, none, none, none, none, none, none, none, none, none, none,
              none, none, none, none, none, none, none, none, none, none, none, none, none, none, none, none, none,
              none, none, none],
          h := [] }
        (Ex.exit (0 : Nat)),
      Con Tryz.prog (6 : Nat) [SV.int IntKind.u64 (↑x : Int), SV.int IntKind.u64 (↑b : Int)] []
        (SV.tup [SV.int IntKind.u64 (↑w : Int), SV.bool true]) [],
      SV.bool ((↑w : Int) == (↑v : Int)) = SV.bool false, SV.bool (decide ((↑x : Int) ≥ (↑low : Int))) = SV.bool true,
      SV.bool (decide ((↑x : Int) ≤ (↑high : Int))) = SV.bool false]) := by kernel_rfl

theorem row_q1 (b : Nat) (v : Nat) (x : Nat) (low : Nat) (high : Nat) (d : Nat) (z1 : Nat) (z0 : Nat) (o1 : Nat) (o0 : Nat) (m1 : Nat) (m0 : Nat) (b1 : Nat) (b0 : Nat) (a1 : Nat) (a0 : Nat) (e1 : Nat) (e0 : Nat) (y1 : Nat) (y2 : Nat) (w : Nat) (c1 : Bool) (c2 : Bool) (k1 : Int) (k2 : Int) : out1
  (callFn Tryz.prog D0 (200 : Nat) (4 : FuncId) [u64 b, u64 v, u64 x] [] (0 : Nat)
    [DE.op (25 : Nat) (Dir.con (SV.bool true) [] []),
      DE.op (30 : Nat) (Dir.con (SV.tup [u64 low, u64 high, SV.num IntKind.i64 (0 : Int)]) [] []),
      DE.op (35 : Nat) (Dir.eqv (SV.bool false)), DE.op (48 : Nat) (Dir.eqv (SV.bool false)),
      DE.op (64 : Nat) (Dir.eqv (SV.bool false)), DE.op (69 : Nat) (Dir.eqv (u64 d)),
      DE.op (70 : Nat) (Dir.con (SV.agg [u64 z1, u64 z0]) [] []),
      DE.op (71 : Nat) (Dir.con (SV.agg [u64 o1, u64 o0]) [] []),
      DE.op (72 : Nat) (Dir.con (SV.tup [SV.agg [u64 m1, u64 m0], SV.bool c1]) [] []),
      DE.op (77 : Nat) (Dir.con (SV.agg [u64 b1, u64 b0]) [] []),
      DE.op (78 : Nat) (Dir.con (SV.agg [u64 a1, u64 a0]) [] []),
      DE.op (82 : Nat) (Dir.con (SV.agg [u64 b1, u64 b0]) [] []),
      DE.op (83 : Nat) (Dir.con (SV.tup [SV.agg [u64 e1, u64 e0], SV.bool c2]) [] []),
      DE.op (89 : Nat) (Dir.con (SV.int IntKind.i64 k1) [] []), DE.op (90 : Nat) (Dir.eqv (SV.bool false)),
      DE.op (94 : Nat) (Dir.con (SV.int IntKind.i64 k2) [] []), DE.op (95 : Nat) (Dir.eqv (SV.bool false)),
      DE.op (101 : Nat) (Dir.eqv (SV.bool false)), DE.op (113 : Nat) (Dir.con (SV.tup [u64 v, SV.bool true]) [] []),
      DE.op (121 : Nat) (Dir.eqv (SV.bool false)), DE.op (124 : Nat) (Dir.eqv (u64 y1)),
      DE.op (126 : Nat) (Dir.eqv (u64 y2)),
      DE.cut
        {
          t :=
            mkT (176 : Nat)
              [((0 : Nat), u64 b), ((1 : Nat), u64 v), ((2 : Nat), u64 x), ((7 : Nat), u64 low), ((8 : Nat), u64 high)],
          h := [] }
        (0 : Nat) (Ex.exit (0 : Nat)),
      DE.op (157 : Nat) (Dir.con (SV.tup [u64 w, SV.bool false]) [] [])]) =
  some
  (SV.bool true,
    [Con Tryz.prog (5 : Nat) [] [] (SV.bool true) [],
      Con Tryz.prog (8 : Nat) [SV.int IntKind.u64 (↑v : Int), SV.int IntKind.u64 (↑b : Int)] []
        (SV.tup [SV.int IntKind.u64 (↑low : Int), SV.int IntKind.u64 (↑high : Int), SV.num IntKind.i64 (0 : Int)]) [],
      SV.bool ((↑b : Int) == (0 : Int)) = SV.bool false, SV.bool (decide ((↑v : Int) ≥ (↑b : Int))) = SV.bool false,
      SV.bool (decide ((↑low : Int) > (↑high : Int))) = SV.bool false,
      SV.int IntKind.u64 (IntKind.u64.wrap ((↑high : Int) - (↑low : Int))) = SV.int IntKind.u64 (↑d : Int),
      Con Tryz.prog (10 : Nat) [SV.int IntKind.u64 (↑d : Int)] []
        (SV.agg [SV.int IntKind.u64 (↑z1 : Int), SV.int IntKind.u64 (↑z0 : Int)]) [],
      Con Tryz.prog (10 : Nat) [SV.int IntKind.u64 (1 : Int)] []
        (SV.agg [SV.int IntKind.u64 (↑o1 : Int), SV.int IntKind.u64 (↑o0 : Int)]) [],
      Con Tryz.prog (9 : Nat)
        [SV.agg [SV.int IntKind.u64 (↑z1 : Int), SV.int IntKind.u64 (↑z0 : Int)],
          SV.agg [SV.int IntKind.u64 (↑o1 : Int), SV.int IntKind.u64 (↑o0 : Int)]]
        [] (SV.tup [SV.agg [SV.int IntKind.u64 (↑m1 : Int), SV.int IntKind.u64 (↑m0 : Int)], SV.bool c1]) [],
      Con Tryz.prog (10 : Nat) [SV.int IntKind.u64 (↑b : Int)] []
        (SV.agg [SV.int IntKind.u64 (↑b1 : Int), SV.int IntKind.u64 (↑b0 : Int)]) [],
      Con Tryz.prog (11 : Nat)
        [SV.agg [SV.int IntKind.u64 (↑m1 : Int), SV.int IntKind.u64 (↑m0 : Int)],
          SV.agg [SV.int IntKind.u64 (↑b1 : Int), SV.int IntKind.u64 (↑b0 : Int)]]
        [] (SV.agg [SV.int IntKind.u64 (↑a1 : Int), SV.int IntKind.u64 (↑a0 : Int)]) [],
      Con Tryz.prog (10 : Nat) [SV.int IntKind.u64 (↑b : Int)] []
        (SV.agg [SV.int IntKind.u64 (↑b1 : Int), SV.int IntKind.u64 (↑b0 : Int)]) [],
      Con Tryz.prog (9 : Nat)
        [SV.agg [SV.int IntKind.u64 (↑a1 : Int), SV.int IntKind.u64 (↑a0 : Int)],
          SV.agg [SV.int IntKind.u64 (↑b1 : Int), SV.int IntKind.u64 (↑b0 : Int)]]
        [] (SV.tup [SV.agg [SV.int IntKind.u64 (↑e1 : Int), SV.int IntKind.u64 (↑e0 : Int)], SV.bool c2]) [],
      Con Tryz.prog (12 : Nat)
        [SV.agg [SV.int IntKind.u64 (↑a1 : Int), SV.int IntKind.u64 (↑a0 : Int)],
          SV.agg [SV.int IntKind.u64 (1 : Int), SV.int IntKind.u64 (0 : Int)]]
        [] (SV.int IntKind.i64 k1) [],
      SV.bool (decide (k1 > (0 : Int))) = SV.bool false,
      Con Tryz.prog (12 : Nat)
        [SV.agg [SV.int IntKind.u64 (↑e1 : Int), SV.int IntKind.u64 (↑e0 : Int)],
          SV.agg [SV.int IntKind.u64 (1 : Int), SV.int IntKind.u64 (0 : Int)]]
        [] (SV.int IntKind.i64 k2) [],
      SV.bool (decide (k2 ≤ (0 : Int))) = SV.bool false,
      SV.bool (decide (IntKind.u64.wrap ((↑high : Int) - (↑low : Int)) < (18446744073709551615 : Int))) = SV.bool false,
      Con Tryz.prog (6 : Nat) [SV.int IntKind.u64 (↑x : Int), SV.int IntKind.u64 (↑b : Int)] []
        (SV.tup [SV.int IntKind.u64 (↑v : Int), SV.bool true]) [],
      SV.bool ((↑v : Int) != (↑v : Int)) = SV.bool false,
      SV.int IntKind.u64 (IntKind.u64.wrap ((↑low : Int) - (1 : Int))) = SV.int IntKind.u64 (↑y1 : Int),
      SV.int IntKind.u64 (IntKind.u64.wrap ((↑high : Int) + (1 : Int))) = SV.int IntKind.u64 (↑y2 : Int),
      CodeOK Tryz.prog (0 : Nat) (cutAt Tryz.prog (4 : FuncId) (0 : Nat))
        {
          t :=
            [some (SV.int IntKind.u64 (↑b : Int)), some (SV.int IntKind.u64 (↑v : Int)),
              some (SV.int IntKind.u64 (↑x : Int)), none, none, none, some (SV.bool false),
              some (SV.int IntKind.u64 (↑low : Int)), some (SV.int IntKind.u64 (↑high : Int)),
              some (SV.num IntKind.i64 (0 : Int)), some (SV.ptr (136 : Nat) (0 : Nat)), some (SV.bool c1),
              some (SV.ptr (164 : Nat) (0 : Nat)), some (SV.ptr (200 : Nat) (0 : Nat)), some (SV.bool c2),
              some (SV.ptr (216 : Nat) (0 : Nat)), some (SV.int IntKind.u64 (↑x : Int)),
              some (SV.int IntKind.u64 (↑v : Int)), some (SV.bool true), none, none, none, none, none, none,
              some (SV.bool true), some (SV.bool false),
              some
                (SV.tup
                  [SV.int IntKind.u64 (↑low : Int), SV.int IntKind.u64 (↑high : Int), SV.num IntKind.i64 (0 : Int)]),
              some (SV.int IntKind.u64 (↑v : Int)), some (SV.int IntKind.u64 (↑b : Int)),
              some
                (SV.tup
                  [SV.int IntKind.u64 (↑low : Int), SV.int IntKind.u64 (↑high : Int), SV.num IntKind.i64 (0 : Int)]),
              some (SV.int IntKind.u64 (↑low : Int)), some (SV.int IntKind.u64 (↑high : Int)),
              some (SV.num IntKind.i64 (0 : Int)), some (SV.int IntKind.u64 (↑b : Int)), some (SV.bool false), none,
              none, none, none, none, none, none, none, none, none, some (SV.int IntKind.u64 (↑v : Int)),
              some (SV.int IntKind.u64 (↑b : Int)), some (SV.bool false), none, none, none, none, none, none, none,
              none, none, none, some (SV.num IntKind.i64 (0 : Int)), some (SV.bool false), some (SV.bool false),
              some (SV.int IntKind.u64 (↑low : Int)), some (SV.int IntKind.u64 (↑high : Int)), some (SV.bool false),
              some (SV.bool false),
              some (SV.tup [SV.agg [SV.int IntKind.u64 (↑m1 : Int), SV.int IntKind.u64 (↑m0 : Int)], SV.bool c1]),
              some (SV.int IntKind.u64 (↑high : Int)), some (SV.int IntKind.u64 (↑low : Int)),
              some (SV.int IntKind.u64 (↑d : Int)),
              some (SV.agg [SV.int IntKind.u64 (↑z1 : Int), SV.int IntKind.u64 (↑z0 : Int)]),
              some (SV.agg [SV.int IntKind.u64 (↑o1 : Int), SV.int IntKind.u64 (↑o0 : Int)]),
              some (SV.tup [SV.agg [SV.int IntKind.u64 (↑m1 : Int), SV.int IntKind.u64 (↑m0 : Int)], SV.bool c1]),
              some (SV.agg [SV.int IntKind.u64 (↑m1 : Int), SV.int IntKind.u64 (↑m0 : Int)]), some (SV.bool c1),
              some (SV.agg [SV.int IntKind.u64 (↑m1 : Int), SV.int IntKind.u64 (↑m0 : Int)]),
              some (SV.int IntKind.u64 (↑b : Int)),
              some (SV.agg [SV.int IntKind.u64 (↑b1 : Int), SV.int IntKind.u64 (↑b0 : Int)]),
              some (SV.agg [SV.int IntKind.u64 (↑a1 : Int), SV.int IntKind.u64 (↑a0 : Int)]),
              some (SV.tup [SV.agg [SV.int IntKind.u64 (↑e1 : Int), SV.int IntKind.u64 (↑e0 : Int)], SV.bool c2]),
              some (SV.agg [SV.int IntKind.u64 (↑a1 : Int), SV.int IntKind.u64 (↑a0 : Int)]),
              some (SV.int IntKind.u64 (↑b : Int)),
              some (SV.agg [SV.int IntKind.u64 (↑b1 : Int), SV.int IntKind.u64 (↑b0 : Int)]),
              some (SV.tup [SV.agg [SV.int IntKind.u64 (↑e1 : Int), SV.int IntKind.u64 (↑e0 : Int)], SV.bool c2]),
              some (SV.agg [SV.int IntKind.u64 (↑e1 : Int), SV.int IntKind.u64 (↑e0 : Int)]), some (SV.bool c2),
              some (SV.agg [SV.num IntKind.u64 (1 : Int), SV.num IntKind.u64 (0 : Int)]),
              some (SV.agg [SV.int IntKind.u64 (↑a1 : Int), SV.int IntKind.u64 (↑a0 : Int)]),
              some (SV.agg [SV.num IntKind.u64 (1 : Int), SV.num IntKind.u64 (0 : Int)]), some (SV.int IntKind.i64 k1),
              some (SV.bool false), some (SV.bool false),
              some (SV.agg [SV.int IntKind.u64 (↑e1 : Int), SV.int IntKind.u64 (↑e0 : Int)]),
              some (SV.agg [SV.num IntKind.u64 (1 : Int), SV.num IntKind.u64 (0 : Int)]), some (SV.int IntKind.i64 k2),
              some (SV.bool false), some (SV.bool false), some (SV.int IntKind.u64 (↑x : Int)),
              some (SV.int IntKind.u64 (↑high : Int)), some (SV.int IntKind.u64 (↑low : Int)),
              some (SV.int IntKind.u64 (IntKind.u64.wrap ((↑high : Int) - (↑low : Int)))), some (SV.bool false), none,
              none, none, none, none, none, none, none, some (SV.tup [SV.int IntKind.u64 (↑v : Int), SV.bool true]),
              some (SV.int IntKind.u64 (↑x : Int)), some (SV.int IntKind.u64 (↑b : Int)),
              some (SV.tup [SV.int IntKind.u64 (↑v : Int), SV.bool true]), some (SV.int IntKind.u64 (↑v : Int)),
              some (SV.bool true), some (SV.bool true), some (SV.bool false), some (SV.bool false),
              some (SV.int IntKind.u64 (↑v : Int)), some (SV.int IntKind.u64 (↑v : Int)), some (SV.bool false),
              some (SV.bool false), some (SV.int IntKind.u64 (↑low : Int)), some (SV.int IntKind.u64 (↑y1 : Int)),
              some (SV.int IntKind.u64 (↑high : Int)), some (SV.int IntKind.u64 (↑y2 : Int)),
              some (SV.agg [SV.int IntKind.u64 (↑y1 : Int), SV.int IntKind.u64 (↑y2 : Int)]),
              some (SV.num IntKind.i64 (0 : Int)), none, none, none, none, none, none, none, none, none, none, none,
              none, none, none, none, none, none, none, none, none, none, none, none, none, none, none, none, none,
              none, none, none, none, none, none, none, none, none, none, none, none, none, none, none, none, none,
              none, none],
          h :=
            [((216 : Nat), Ent.own (31 : Nat) [SV.num IntKind.u64 (1 : Int), SV.num IntKind.u64 (0 : Int)]),
              ((200 : Nat), Ent.own (31 : Nat) [SV.int IntKind.u64 (↑e1 : Int), SV.int IntKind.u64 (↑e0 : Int)]),
              ((164 : Nat), Ent.own (31 : Nat) [SV.int IntKind.u64 (↑a1 : Int), SV.int IntKind.u64 (↑a0 : Int)]),
              ((136 : Nat), Ent.own (31 : Nat) [SV.int IntKind.u64 (↑m1 : Int), SV.int IntKind.u64 (↑m0 : Int)])] }
        {
          t :=
            [some (SV.int IntKind.u64 (↑b : Int)), some (SV.int IntKind.u64 (↑v : Int)),
              some (SV.int IntKind.u64 (↑x : Int)), none, none, none, none, some (SV.int IntKind.u64 (↑low : Int)),
              some (SV.int IntKind.u64 (↑high : Int)), none, none, none, none, none, none, none, none, none, none, none,
              none, none, none, none, none, none, none, none, none, none, none, none, none, none, none, none, none,
              none, none, none, none, none, none, none, none, none, none, none, none, none, none, none, none, none,
              none, none, none, none, none, none, none, none, none, none, none, none, none, none, none, none, none,
              none, none, none, none, none, none, none, none, none, none, none, none, none, none, none, none, none,
              none, none, none, none, none, none, none, none, none, none, none, none, none, none, none, none, none,
              none, none, none, none, none, none, none, none, none, none, none, none, none, none, none, none, none,
              none, none, none, none, none, none, none, none, none, none, none, none, none, none, none, none, none,
              none, none, none, none, none, none, none, none, none, none, none, none, none, none, none, none, none,
              none, none, none, none, none, none, none, none, none, none, none, none, none, none, none, none, none,
              none, none, none],
          h := [] }
        (Ex.exit (0 : Nat)),
      Con Tryz.prog (6 : Nat) [SV.int IntKind.u64 (↑x : Int), SV.int IntKind.u64 (↑b : Int)] []
        (SV.tup [SV.int IntKind.u64 (↑w : Int), SV.bool false]) []]) := by kernel_rfl

theorem row_q2 (b : Nat) (v : Nat) (x : Nat) (low : Nat) (high : Nat) (d : Nat) (z1 : Nat) (z0 : Nat) (o1 : Nat) (o0 : Nat) (m1 : Nat) (m0 : Nat) (b1 : Nat) (b0 : Nat) (a1 : Nat) (a0 : Nat) (e1 : Nat) (e0 : Nat) (y1 : Nat) (y2 : Nat) (w : Nat) (c1 : Bool) (c2 : Bool) (k1 : Int) (k2 : Int) : out1
  (callFn Tryz.prog D0 (200 : Nat) (4 : FuncId) [u64 b, u64 v, u64 x] [] (0 : Nat)
    [DE.op (25 : Nat) (Dir.con (SV.bool true) [] []),
      DE.op (30 : Nat) (Dir.con (SV.tup [u64 low, u64 high, SV.num IntKind.i64 (0 : Int)]) [] []),
      DE.op (35 : Nat) (Dir.eqv (SV.bool false)), DE.op (48 : Nat) (Dir.eqv (SV.bool false)),
      DE.op (64 : Nat) (Dir.eqv (SV.bool false)), DE.op (69 : Nat) (Dir.eqv (u64 d)),
      DE.op (70 : Nat) (Dir.con (SV.agg [u64 z1, u64 z0]) [] []),
      DE.op (71 : Nat) (Dir.con (SV.agg [u64 o1, u64 o0]) [] []),
      DE.op (72 : Nat) (Dir.con (SV.tup [SV.agg [u64 m1, u64 m0], SV.bool c1]) [] []),
      DE.op (77 : Nat) (Dir.con (SV.agg [u64 b1, u64 b0]) [] []),
      DE.op (78 : Nat) (Dir.con (SV.agg [u64 a1, u64 a0]) [] []),
      DE.op (82 : Nat) (Dir.con (SV.agg [u64 b1, u64 b0]) [] []),
      DE.op (83 : Nat) (Dir.con (SV.tup [SV.agg [u64 e1, u64 e0], SV.bool c2]) [] []),
      DE.op (89 : Nat) (Dir.con (SV.int IntKind.i64 k1) [] []), DE.op (90 : Nat) (Dir.eqv (SV.bool false)),
      DE.op (94 : Nat) (Dir.con (SV.int IntKind.i64 k2) [] []), DE.op (95 : Nat) (Dir.eqv (SV.bool false)),
      DE.op (101 : Nat) (Dir.eqv (SV.bool false)), DE.op (113 : Nat) (Dir.con (SV.tup [u64 v, SV.bool true]) [] []),
      DE.op (121 : Nat) (Dir.eqv (SV.bool false)), DE.op (124 : Nat) (Dir.eqv (u64 y1)),
      DE.op (126 : Nat) (Dir.eqv (u64 y2)),
      DE.cut
        {
          t :=
            mkT (176 : Nat)
              [((0 : Nat), u64 b), ((1 : Nat), u64 v), ((2 : Nat), u64 x), ((7 : Nat), u64 low), ((8 : Nat), u64 high)],
          h := [] }
        (0 : Nat) (Ex.exit (0 : Nat)),
      DE.op (157 : Nat) (Dir.con (SV.tup [u64 w, SV.bool true]) [] []), DE.op (165 : Nat) (Dir.eqv (SV.bool true)),
      DE.op (168 : Nat) (Dir.eqv (SV.bool true)), DE.op (172 : Nat) (Dir.eqv (SV.bool true))]) =
  some
  (SV.bool true,
    [Con Tryz.prog (5 : Nat) [] [] (SV.bool true) [],
      Con Tryz.prog (8 : Nat) [SV.int IntKind.u64 (↑v : Int), SV.int IntKind.u64 (↑b : Int)] []
        (SV.tup [SV.int IntKind.u64 (↑low : Int), SV.int IntKind.u64 (↑high : Int), SV.num IntKind.i64 (0 : Int)]) [],
      SV.bool ((↑b : Int) == (0 : Int)) = SV.bool false, SV.bool (decide ((↑v : Int) ≥ (↑b : Int))) = SV.bool false,
      SV.bool (decide ((↑low : Int) > (↑high : Int))) = SV.bool false,
      SV.int IntKind.u64 (IntKind.u64.wrap ((↑high : Int) - (↑low : Int))) = SV.int IntKind.u64 (↑d : Int),
      Con Tryz.prog (10 : Nat) [SV.int IntKind.u64 (↑d : Int)] []
        (SV.agg [SV.int IntKind.u64 (↑z1 : Int), SV.int IntKind.u64 (↑z0 : Int)]) [],
      Con Tryz.prog (10 : Nat) [SV.int IntKind.u64 (1 : Int)] []
        (SV.agg [SV.int IntKind.u64 (↑o1 : Int), SV.int IntKind.u64 (↑o0 : Int)]) [],
      Con Tryz.prog (9 : Nat)
        [SV.agg [SV.int IntKind.u64 (↑z1 : Int), SV.int IntKind.u64 (↑z0 : Int)],
          SV.agg [SV.int IntKind.u64 (↑o1 : Int), SV.int IntKind.u64 (↑o0 : Int)]]
        [] (SV.tup [SV.agg [SV.int IntKind.u64 (↑m1 : Int), SV.int IntKind.u64 (↑m0 : Int)], SV.bool c1]) [],
      Con Tryz.prog (10 : Nat) [SV.int IntKind.u64 (↑b : Int)] []
        (SV.agg [SV.int IntKind.u64 (↑b1 : Int), SV.int IntKind.u64 (↑b0 : Int)]) [],
      Con Tryz.prog (11 : Nat)
        [SV.agg [SV.int IntKind.u64 (↑m1 : Int), SV.int IntKind.u64 (↑m0 : Int)],
          SV.agg [SV.int IntKind.u64 (↑b1 : Int), SV.int IntKind.u64 (↑b0 : Int)]]
        [] (SV.agg [SV.int IntKind.u64 (↑a1 : Int), SV.int IntKind.u64 (↑a0 : Int)]) [],
      Con Tryz.prog (10 : Nat) [SV.int IntKind.u64 (↑b : Int)] []
        (SV.agg [SV.int IntKind.u64 (↑b1 : Int), SV.int IntKind.u64 (↑b0 : Int)]) [],
      Con Tryz.prog (9 : Nat)
        [SV.agg [SV.int IntKind.u64 (↑a1 : Int), SV.int IntKind.u64 (↑a0 : Int)],
          SV.agg [SV.int IntKind.u64 (↑b1 : Int), SV.int IntKind.u64 (↑b0 : Int)]]
        [] (SV.tup [SV.agg [SV.int IntKind.u64 (↑e1 : Int), SV.int IntKind.u64 (↑e0 : Int)], SV.bool c2]) [],
      Con Tryz.prog (12 : Nat)
        [SV.agg [SV.int IntKind.u64 (↑a1 : Int), SV.int IntKind.u64 (↑a0 : Int)],
          SV.agg [SV.int IntKind.u64 (1 : Int), SV.int IntKind.u64 (0 : Int)]]
        [] (SV.int IntKind.i64 k1) [],
      SV.bool (decide (k1 > (0 : Int))) = SV.bool false,
      Con Tryz.prog (12 : Nat)
        [SV.agg [SV.int IntKind.u64 (↑e1 : Int), SV.int IntKind.u64 (↑e0 : Int)],
          SV.agg [SV.int IntKind.u64 (1 : Int), SV.int IntKind.u64 (0 : Int)]]
        [] (SV.int IntKind.i64 k2) [],
      SV.bool (decide (k2 ≤ (0 : Int))) = SV.bool false,
      SV.bool (decide (IntKind.u64.wrap ((↑high : Int) - (↑low : Int)) < (18446744073709551615 : Int))) = SV.bool false,
      Con Tryz.prog (6 : Nat) [SV.int IntKind.u64 (↑x : Int), SV.int IntKind.u64 (↑b : Int)] []
        (SV.tup [SV.int IntKind.u64 (↑v : Int), SV.bool true]) [],
      SV.bool ((↑v : Int) != (↑v : Int)) = SV.bool false,
      SV.int IntKind.u64 (IntKind.u64.wrap ((↑low : Int) - (1 : Int))) = SV.int IntKind.u64 (↑y1 : Int),
      SV.int IntKind.u64 (IntKind.u64.wrap ((↑high : Int) + (1 : Int))) = SV.int IntKind.u64 (↑y2 : Int),
      CodeOK Tryz.prog (0 : Nat) (cutAt Tryz.prog (4 : FuncId) (0 : Nat))
        {
          t :=
            [some (SV.int IntKind.u64 (↑b : Int)), some (SV.int IntKind.u64 (↑v : Int)),
              some (SV.int IntKind.u64 (↑x : Int)), none, none, none, some (SV.bool false),
              some (SV.int IntKind.u64 (↑low : Int)), some (SV.int IntKind.u64 (↑high : Int)),
              some (SV.num IntKind.i64 (0 : Int)), some (SV.ptr (136 : Nat) (0 : Nat)), some (SV.bool c1),
              some (SV.ptr (164 : Nat) (0 : Nat)), some (SV.ptr (200 : Nat) (0 : Nat)), some (SV.bool c2),
              some (SV.ptr (216 : Nat) (0 : Nat)), some (SV.int IntKind.u64 (↑x : Int)),
              some (SV.int IntKind.u64 (↑v : Int)), some (SV.bool true), none, none, none, none, none, none,
              some (SV.bool true), some (SV.bool false),
              some
                (SV.tup
                  [SV.int IntKind.u64 (↑low : Int), SV.int IntKind.u64 (↑high : Int), SV.num IntKind.i64 (0 : Int)]),
              some (SV.int IntKind.u64 (↑v : Int)), some (SV.int IntKind.u64 (↑b : Int)),
              some
                (SV.tup
                  [SV.int IntKind.u64 (↑low : Int), SV.int IntKind.u64 (↑high : Int), SV.num IntKind.i64 (0 : Int)]),
              some (SV.int IntKind.u64 (↑low : Int)), some (SV.int IntKind.u64 (↑high : Int)),
              some (SV.num IntKind.i64 (0 : Int)), some (SV.int IntKind.u64 (↑b : Int)), some (SV.bool false), none,
              none, none, none, none, none, none, none, none, none, some (SV.int IntKind.u64 (↑v : Int)),
              some (SV.int IntKind.u64 (↑b : Int)), some (SV.bool false), none, none, none, none, none, none, none,
              none, none, none, some (SV.num IntKind.i64 (0 : Int)), some (SV.bool false), some (SV.bool false),
              some (SV.int IntKind.u64 (↑low : Int)), some (SV.int IntKind.u64 (↑high : Int)), some (SV.bool false),
              some (SV.bool false),
              some (SV.tup [SV.agg [SV.int IntKind.u64 (↑m1 : Int), SV.int IntKind.u64 (↑m0 : Int)], SV.bool c1]),
              some (SV.int IntKind.u64 (↑high : Int)), some (SV.int IntKind.u64 (↑low : Int)),
              some (SV.int IntKind.u64 (↑d : Int)),
              some (SV.agg [SV.int IntKind.u64 (↑z1 : Int), SV.int IntKind.u64 (↑z0 : Int)]),
              some (SV.agg [SV.int IntKind.u64 (↑o1 : Int), SV.int IntKind.u64 (↑o0 : Int)]),
              some (SV.tup [SV.agg [SV.int IntKind.u64 (↑m1 : Int), SV.int IntKind.u64 (↑m0 : Int)], SV.bool c1]),
              some (SV.agg [SV.int IntKind.u64 (↑m1 : Int), SV.int IntKind.u64 (↑m0 : Int)]), some (SV.bool c1),
              some (SV.agg [SV.int IntKind.u64 (↑m1 : Int), SV.int IntKind.u64 (↑m0 : Int)]),
              some (SV.int IntKind.u64 (↑b : Int)),
              some (SV.agg [SV.int IntKind.u64 (↑b1 : Int), SV.int IntKind.u64 (↑b0 : Int)]),
              some (SV.agg [SV.int IntKind.u64 (↑a1 : Int), SV.int IntKind.u64 (↑a0 : Int)]),
              some (SV.tup [SV.agg [SV.int IntKind.u64 (↑e1 : Int), SV.int IntKind.u64 (↑e0 : Int)], SV.bool c2]),
              some (SV.agg [SV.int IntKind.u64 (↑a1 : Int), SV.int IntKind.u64 (↑a0 : Int)]),
              some (SV.int IntKind.u64 (↑b : Int)),
              some (SV.agg [SV.int IntKind.u64 (↑b1 : Int), SV.int IntKind.u64 (↑b0 : Int)]),
              some (SV.tup [SV.agg [SV.int IntKind.u64 (↑e1 : Int), SV.int IntKind.u64 (↑e0 : Int)], SV.bool c2]),
              some (SV.agg [SV.int IntKind.u64 (↑e1 : Int), SV.int IntKind.u64 (↑e0 : Int)]), some (SV.bool c2),
              some (SV.agg [SV.num IntKind.u64 (1 : Int), SV.num IntKind.u64 (0 : Int)]),
              some (SV.agg [SV.int IntKind.u64 (↑a1 : Int), SV.int IntKind.u64 (↑a0 : Int)]),
              some (SV.agg [SV.num IntKind.u64 (1 : Int), SV.num IntKind.u64 (0 : Int)]), some (SV.int IntKind.i64 k1),
              some (SV.bool false), some (SV.bool false),
              some (SV.agg [SV.int IntKind.u64 (↑e1 : Int), SV.int IntKind.u64 (↑e0 : Int)]),
              some (SV.agg [SV.num IntKind.u64 (1 : Int), SV.num IntKind.u64 (0 : Int)]), some (SV.int IntKind.i64 k2),
              some (SV.bool false), some (SV.bool false), some (SV.int IntKind.u64 (↑x : Int)),
              some (SV.int IntKind.u64 (↑high : Int)), some (SV.int IntKind.u64 (↑low : Int)),
              some (SV.int IntKind.u64 (IntKind.u64.wrap ((↑high : Int) - (↑low : Int)))), some (SV.bool false), none,
              none, none, none, none, none, none, none, some (SV.tup [SV.int IntKind.u64 (↑v : Int), SV.bool true]),
              some (SV.int IntKind.u64 (↑x : Int)), some (SV.int IntKind.u64 (↑b : Int)),
              some (SV.tup [SV.int IntKind.u64 (↑v : Int), SV.bool true]), some (SV.int IntKind.u64 (↑v : Int)),
              some (SV.bool true), some (SV.bool true), some (SV.bool false), some (SV.bool false),
              some (SV.int IntKind.u64 (↑v : Int)), some (SV.int IntKind.u64 (↑v : Int)), some (SV.bool false),
              some (SV.bool false), some (SV.int IntKind.u64 (↑low : Int)), some (SV.int IntKind.u64 (↑y1 : Int)),
              some (SV.int IntKind.u64 (↑high : Int)), some (SV.int IntKind.u64 (↑y2 : Int)),
              some (SV.agg [SV.int IntKind.u64 (↑y1 : Int), SV.int IntKind.u64 (↑y2 : Int)]),
              some (SV.num IntKind.i64 (0 : Int)), none, none, none, none, none, none, none, none, none, none, none,
              none, none, none, none, none, none, none, none, none, none, none, none, none, none, none, none, none,
              none, none, none, none, none, none, none, none, none, none, none, none, none, none, none, none, none,
              none, none],
          h :=
            [((216 : Nat), Ent.own (31 : Nat) [SV.num IntKind.u64 (1 : Int), SV.num IntKind.u64 (0 : Int)]),
              ((200 : Nat), Ent.own (31 : Nat) [SV.int IntKind.u64 (↑e1 : Int), SV.int IntKind.u64 (↑e0 : Int)]),
              ((164 : Nat), Ent.own (31 : Nat) [SV.int IntKind.u64 (↑a1 : Int), SV.int IntKind.u64 (↑a0 : Int)]),
              ((136 : Nat), Ent.own (31 : Nat) [SV.int IntKind.u64 (↑m1 : Int), SV.int IntKind.u64 (↑m0 : Int)])] }
        {
          t :=
            [some (SV.int IntKind.u64 (↑b : Int)), some (SV.int IntKind.u64 (↑v : Int)),
              some (SV.int IntKind.u64 (↑x : Int)), none, none, none, none, some (SV.int IntKind.u64 (↑low : Int)),
              some (SV.int IntKind.u64 (↑high : Int)), none, none, none, none, none, none, none, none, none, none, none,
              none, none, none, none, none, none, none, none, none, none, none, none, none, none, none, none, none,
              none, none, none, none, none, none, none, none, none, none, none, none, none, none, none, none, none,
              none, none, none, none, none, none, none, none, none, none, none, none, none, none, none, none, none,
              none, none, none, none, none, none, none, none, none, none, none, none, none, none, none, none, none,
              none, none, none, none, none, none, none, none, none, none, none, none, none, none, none, none, none,
              none, none, none, none, none, none, none, none, none, none, none, none, none, none, none, none, none,
              none, none, none, none, none, none, none, none, none, none, none, none, none, none, none, none, none,
              none, none, none, none, none, none, none, none, none, none, none, none, none, none, none, none, none,
              none, none, none, none, none, none, none, none, none, none, none, none, none, none, none, none, none,
              none, none, none],
          h := [] }
        (Ex.exit (0 : Nat)),
      Con Tryz.prog (6 : Nat) [SV.int IntKind.u64 (↑x : Int), SV.int IntKind.u64 (↑b : Int)] []
        (SV.tup [SV.int IntKind.u64 (↑w : Int), SV.bool true]) [],
      SV.bool ((↑w : Int) == (↑v : Int)) = SV.bool true, SV.bool (decide ((↑x : Int) ≥ (↑low : Int))) = SV.bool true,
      SV.bool (decide ((↑x : Int) ≤ (↑high : Int))) = SV.bool true]) := by kernel_rfl

theorem row_q3 (b : Nat) (v : Nat) (x : Nat) (low : Nat) (high : Nat) (d : Nat) (z1 : Nat) (z0 : Nat) (o1 : Nat) (o0 : Nat) (m1 : Nat) (m0 : Nat) (b1 : Nat) (b0 : Nat) (a1 : Nat) (a0 : Nat) (e1 : Nat) (e0 : Nat) (y1 : Nat) (y2 : Nat) (w : Nat) (c1 : Bool) (c2 : Bool) (k1 : Int) (k2 : Int) : out1
  (callFn Tryz.prog D0 (200 : Nat) (4 : FuncId) [u64 b, u64 v, u64 x] [] (0 : Nat)
    [DE.op (25 : Nat) (Dir.con (SV.bool true) [] []),
      DE.op (30 : Nat) (Dir.con (SV.tup [u64 low, u64 high, SV.num IntKind.i64 (0 : Int)]) [] []),
      DE.op (35 : Nat) (Dir.eqv (SV.bool false)), DE.op (48 : Nat) (Dir.eqv (SV.bool false)),
      DE.op (64 : Nat) (Dir.eqv (SV.bool false)), DE.op (69 : Nat) (Dir.eqv (u64 d)),
      DE.op (70 : Nat) (Dir.con (SV.agg [u64 z1, u64 z0]) [] []),
      DE.op (71 : Nat) (Dir.con (SV.agg [u64 o1, u64 o0]) [] []),
      DE.op (72 : Nat) (Dir.con (SV.tup [SV.agg [u64 m1, u64 m0], SV.bool c1]) [] []),
      DE.op (77 : Nat) (Dir.con (SV.agg [u64 b1, u64 b0]) [] []),
      DE.op (78 : Nat) (Dir.con (SV.agg [u64 a1, u64 a0]) [] []),
      DE.op (82 : Nat) (Dir.con (SV.agg [u64 b1, u64 b0]) [] []),
      DE.op (83 : Nat) (Dir.con (SV.tup [SV.agg [u64 e1, u64 e0], SV.bool c2]) [] []),
      DE.op (89 : Nat) (Dir.con (SV.int IntKind.i64 k1) [] []), DE.op (90 : Nat) (Dir.eqv (SV.bool false)),
      DE.op (94 : Nat) (Dir.con (SV.int IntKind.i64 k2) [] []), DE.op (95 : Nat) (Dir.eqv (SV.bool false)),
      DE.op (101 : Nat) (Dir.eqv (SV.bool false)), DE.op (113 : Nat) (Dir.con (SV.tup [u64 v, SV.bool true]) [] []),
      DE.op (121 : Nat) (Dir.eqv (SV.bool false)), DE.op (124 : Nat) (Dir.eqv (u64 y1)),
      DE.op (126 : Nat) (Dir.eqv (u64 y2)),
      DE.cut
        {
          t :=
            mkT (176 : Nat)
              [((0 : Nat), u64 b), ((1 : Nat), u64 v), ((2 : Nat), u64 x), ((7 : Nat), u64 low), ((8 : Nat), u64 high)],
          h := [] }
        (0 : Nat) (Ex.exit (0 : Nat)),
      DE.op (157 : Nat) (Dir.con (SV.tup [u64 w, SV.bool true]) [] []), DE.op (165 : Nat) (Dir.eqv (SV.bool false)),
      DE.op (168 : Nat) (Dir.eqv (SV.bool false))]) =
  some
  (SV.bool true,
    [Con Tryz.prog (5 : Nat) [] [] (SV.bool true) [],
      Con Tryz.prog (8 : Nat) [SV.int IntKind.u64 (↑v : Int), SV.int IntKind.u64 (↑b : Int)] []
        (SV.tup [SV.int IntKind.u64 (↑low : Int), SV.int IntKind.u64 (↑high : Int), SV.num IntKind.i64 (0 : Int)]) [],
      SV.bool ((↑b : Int) == (0 : Int)) = SV.bool false, SV.bool (decide ((↑v : Int) ≥ (↑b : Int))) = SV.bool false,
      SV.bool (decide ((↑low : Int) > (↑high : Int))) = SV.bool false,
      SV.int IntKind.u64 (IntKind.u64.wrap ((↑high : Int) - (↑low : Int))) = SV.int IntKind.u64 (↑d : Int),
      Con Tryz.prog (10 : Nat) [SV.int IntKind.u64 (↑d : Int)] []
        (SV.agg [SV.int IntKind.u64 (↑z1 : Int), SV.int IntKind.u64 (↑z0 : Int)]) [],
      Con Tryz.prog (10 : Nat) [SV.int IntKind.u64 (1 : Int)] []
        (SV.agg [SV.int IntKind.u64 (↑o1 : Int), SV.int IntKind.u64 (↑o0 : Int)]) [],
      Con Tryz.prog (9 : Nat)
        [SV.agg [SV.int IntKind.u64 (↑z1 : Int), SV.int IntKind.u64 (↑z0 : Int)],
          SV.agg [SV.int IntKind.u64 (↑o1 : Int), SV.int IntKind.u64 (↑o0 : Int)]]
        [] (SV.tup [SV.agg [SV.int IntKind.u64 (↑m1 : Int), SV.int IntKind.u64 (↑m0 : Int)], SV.bool c1]) [],
      Con Tryz.prog (10 : Nat) [SV.int IntKind.u64 (↑b : Int)] []
        (SV.agg [SV.int IntKind.u64 (↑b1 : Int), SV.int IntKind.u64 (↑b0 : Int)]) [],
      Con Tryz.prog (11 : Nat)
        [SV.agg [SV.int IntKind.u64 (↑m1 : Int), SV.int IntKind.u64 (↑m0 : Int)],
          SV.agg [SV.int IntKind.u64 (↑b1 : Int), SV.int IntKind.u64 (↑b0 : Int)]]
        [] (SV.agg [SV.int IntKind.u64 (↑a1 : Int), SV.int IntKind.u64 (↑a0 : Int)]) [],
      Con Tryz.prog (10 : Nat) [SV.int IntKind.u64 (↑b : Int)] []
        (SV.agg [SV.int IntKind.u64 (↑b1 : Int), SV.int IntKind.u64 (↑b0 : Int)]) [],
      Con Tryz.prog (9 : Nat)
        [SV.agg [SV.int IntKind.u64 (↑a1 : Int), SV.int IntKind.u64 (↑a0 : Int)],
          SV.agg [SV.int IntKind.u64 (↑b1 : Int), SV.int IntKind.u64 (↑b0 : Int)]]
        [] (SV.tup [SV.agg [SV.int IntKind.u64 (↑e1 : Int), SV.int IntKind.u64 (↑e0 : Int)], SV.bool c2]) [],
      Con Tryz.prog (12 : Nat)
        [SV.agg [SV.int IntKind.u64 (↑a1 : Int), SV.int IntKind.u64 (↑a0 : Int)],
          SV.agg [SV.int IntKind.u64 (1 : Int), SV.int IntKind.u64 (0 : Int)]]
        [] (SV.int IntKind.i64 k1) [],
      SV.bool (decide (k1 > (0 : Int))) = SV.bool false,
      Con Tryz.prog (12 : Nat)
        [SV.agg [SV.int IntKind.u64 (↑e1 : Int), SV.int IntKind.u64 (↑e0 : Int)],
          SV.agg [SV.int IntKind.u64 (1 : Int), SV.int IntKind.u64 (0 : Int)]]
        [] (SV.int IntKind.i64 k2) [],
      SV.bool (decide (k2 ≤ (0 : Int))) = SV.bool false,
      SV.bool (decide (IntKind.u64.wrap ((↑high : Int) - (↑low : Int)) < (18446744073709551615 : Int))) = SV.bool false,
      Con Tryz.prog (6 : Nat) [SV.int IntKind.u64 (↑x : Int), SV.int IntKind.u64 (↑b : Int)] []
        (SV.tup [SV.int IntKind.u64 (↑v : Int), SV.bool true]) [],
      SV.bool ((↑v : Int) != (↑v : Int)) = SV.bool false,
      SV.int IntKind.u64 (IntKind.u64.wrap ((↑low : Int) - (1 : Int))) = SV.int IntKind.u64 (↑y1 : Int),
      SV.int IntKind.u64 (IntKind.u64.wrap ((↑high : Int) + (1 : Int))) = SV.int IntKind.u64 (↑y2 : Int),
      CodeOK Tryz.prog (0 : Nat) (cutAt Tryz.prog (4 : FuncId) (0 : Nat))
        {
          t :=
            [some (SV.int IntKind.u64 (↑b : Int)), some (SV.int IntKind.u64 (↑v : Int)),
              some (SV.int IntKind.u64 (↑x : Int)), none, none, none, some (SV.bool false),
              some (SV.int IntKind.u64 (↑low : Int)), some (SV.int IntKind.u64 (↑high : Int)),
              some (SV.num IntKind.i64 (0 : Int)), some (SV.ptr (136 : Nat) (0 : Nat)), some (SV.bool c1),
              some (SV.ptr (164 : Nat) (0 : Nat)), some (SV.ptr (200 : Nat) (0 : Nat)), some (SV.bool c2),
              some (SV.ptr (216 : Nat) (0 : Nat)), some (SV.int IntKind.u64 (↑x : Int)),
              some (SV.int IntKind.u64 (↑v : Int)), some (SV.bool true), none, none, none, none, none, none,
              some (SV.bool true), some (SV.bool false),
              some
                (SV.tup
                  [SV.int IntKind.u64 (↑low : Int), SV.int IntKind.u64 (↑high : Int), SV.num IntKind.i64 (0 : Int)]),
              some (SV.int IntKind.u64 (↑v : Int)), some (SV.int IntKind.u64 (↑b : Int)),
              some
                (SV.tup
                  [SV.int IntKind.u64 (↑low : Int), SV.int IntKind.u64 (↑high : Int), SV.num IntKind.i64 (0 : Int)]),
              some (SV.int IntKind.u64 (↑low : Int)), some (SV.int IntKind.u64 (↑high : Int)),
              some (SV.num IntKind.i64 (0 : Int)), some (SV.int IntKind.u64 (↑b : Int)), some (SV.bool false), none,
              none, none, none, none, none, none, none, none, none, some (SV.int IntKind.u64 (↑v : Int)),
              some (SV.int IntKind.u64 (↑b : Int)), some (SV.bool false), none, none, none, none, none, none, none,
              none, none, none, some (SV.num IntKind.i64 (0 : Int)), some (SV.bool false), some (SV.bool false),
              some (SV.int IntKind.u64 (↑low : Int)), some (SV.int IntKind.u64 (↑high : Int)), some (SV.bool false),
              some (SV.bool false),
              some (SV.tup [SV.agg [SV.int IntKind.u64 (↑m1 : Int), SV.int IntKind.u64 (↑m0 : Int)], SV.bool c1]),
              some (SV.int IntKind.u64 (↑high : Int)), some (SV.int IntKind.u64 (↑low : Int)),
              some (SV.int IntKind.u64 (↑d : Int)),
              some (SV.agg [SV.int IntKind.u64 (↑z1 : Int), SV.int IntKind.u64 (↑z0 : Int)]),
              some (SV.agg [SV.int IntKind.u64 (↑o1 : Int), SV.int IntKind.u64 (↑o0 : Int)]),
              some (SV.tup [SV.agg [SV.int IntKind.u64 (↑m1 : Int), SV.int IntKind.u64 (↑m0 : Int)], SV.bool c1]),
              some (SV.agg [SV.int IntKind.u64 (↑m1 : Int), SV.int IntKind.u64 (↑m0 : Int)]), some (SV.bool c1),
              some (SV.agg [SV.int IntKind.u64 (↑m1 : Int), SV.int IntKind.u64 (↑m0 : Int)]),
              some (SV.int IntKind.u64 (↑b : Int)),
              some (SV.agg [SV.int IntKind.u64 (↑b1 : Int), SV.int IntKind.u64 (↑b0 : Int)]),
              some (SV.agg [SV.int IntKind.u64 (↑a1 : Int), SV.int IntKind.u64 (↑a0 : Int)]),
              some (SV.tup [SV.agg [SV.int IntKind.u64 (↑e1 : Int), SV.int IntKind.u64 (↑e0 : Int)], SV.bool c2]),
              some (SV.agg [SV.int IntKind.u64 (↑a1 : Int), SV.int IntKind.u64 (↑a0 : Int)]),
              some (SV.int IntKind.u64 (↑b : Int)),
              some (SV.agg [SV.int IntKind.u64 (↑b1 : Int), SV.int IntKind.u64 (↑b0 : Int)]),
              some (SV.tup [SV.agg [SV.int IntKind.u64 (↑e1 : Int), SV.int IntKind.u64 (↑e0 : Int)], SV.bool c2]),
              some (SV.agg [SV.int IntKind.u64 (↑e1 : Int), SV.int IntKind.u64 (↑e0 : Int)]), some (SV.bool c2),
              some (SV.agg [SV.num IntKind.u64 (1 : Int), SV.num IntKind.u64 (0 : Int)]),
              some (SV.agg [SV.int IntKind.u64 (↑a1 : Int), SV.int IntKind.u64 (↑a0 : Int)]),
              some (SV.agg [SV.num IntKind.u64 (1 : Int), SV.num IntKind.u64 (0 : Int)]), some (SV.int IntKind.i64 k1),
              some (SV.bool false), some (SV.bool false),
              some (SV.agg [SV.int IntKind.u64 (↑e1 : Int), SV.int IntKind.u64 (↑e0 : Int)]),
              some (SV.agg [SV.num IntKind.u64 (1 : Int), SV.num IntKind.u64 (0 : Int)]), some (SV.int IntKind.i64 k2),
              some (SV.bool false), some (SV.bool false), some (SV.int IntKind.u64 (↑x : Int)),
              some (SV.int IntKind.u64 (↑high : Int)), some (SV.int IntKind.u64 (↑low : Int)),
              some (SV.int IntKind.u64 (IntKind.u64.wrap ((↑high : Int) - (↑low : Int)))), some (SV.bool false), none,
              none, none, none, none, none, none, none, some (SV.tup [SV.int IntKind.u64 (↑v : Int), SV.bool true]),
              some (SV.int IntKind.u64 (↑x : Int)), some (SV.int IntKind.u64 (↑b : Int)),
              some (SV.tup [SV.int IntKind.u64 (↑v : Int), SV.bool true]), some (SV.int IntKind.u64 (↑v : Int)),
              some (SV.bool true), some (SV.bool true), some (SV.bool false), some (SV.bool false),
              some (SV.int IntKind.u64 (↑v : Int)), some (SV.int IntKind.u64 (↑v : Int)), some (SV.bool false),
              some (SV.bool false), some (SV.int IntKind.u64 (↑low : Int)), some (SV.int IntKind.u64 (↑y1 : Int)),
              some (SV.int IntKind.u64 (↑high : Int)), some (SV.int IntKind.u64 (↑y2 : Int)),
              some (SV.agg [SV.int IntKind.u64 (↑y1 : Int), SV.int IntKind.u64 (↑y2 : Int)]),
              some (SV.num IntKind.i64 (0 : Int)), none, none, none, none, none, none, none, none, none, none, none,
              none, none, none, none, none, none, none, none, none, none, none, none, none, none, none, none, none,
              none, none, none, none, none, none, none, none, none, none, none, none, none, none, none, none, none,
              none, none],
          h :=
            [((216 : Nat), Ent.own (31 : Nat) [SV.num IntKind.u64 (1 : Int), SV.num IntKind.u64 (0 : Int)]),
              ((200 : Nat), Ent.own (31 : Nat) [SV.int IntKind.u64 (↑e1 : Int), SV.int IntKind.u64 (↑e0 : Int)]),
              ((164 : Nat), Ent.own (31 : Nat) [SV.int IntKind.u64 (↑a1 : Int), SV.int IntKind.u64 (↑a0 : Int)]),
              ((136 : Nat), Ent.own (31 : Nat) [SV.int IntKind.u64 (↑m1 : Int), SV.int IntKind.u64 (↑m0 : Int)])] }
        {
          t :=
            [some (SV.int IntKind.u64 (↑b : Int)), some (SV.int IntKind.u64 (↑v : Int)),
              some (SV.int IntKind.u64 (↑x : Int)), none, none, none, none, some (SV.int IntKind.u64 (↑low : Int)),
              some (SV.int IntKind.u64 (↑high : Int)), none, none, none, none, none, none, none, none, none, none, none,
              none, none, none, none, none, none, none, none, none, none, none, none, none, none, none, none, none,
              none, none, none, none, none, none, none, none, none, none, none, none, none, none, none, none, none,
              none, none, none, none, none, none, none, none, none, none, none, none, none, none, none, none, none,
              none, none, none, none, none, none, none, none, none, none, none, none, none, none, none, none, none,
              none, none, none, none, none, none, none, none, none, none, none, none, none, none, none, none, none,
              none, none, none, none, none, none, none, none, none, none, none, none, none, none, none, none, none,
              none, none, none, none, none, none, none, none, none, none, none, none, none, none, none, none, none,
              none, none, none, none, none, none, none, none, none, none, none, none, none, none, none, none, none,
              none, none, none, none, none, none, none, none, none, none, none, none, none, none, none, none, none,
              none, none, none],
          h := [] }
        (Ex.exit (0 : Nat)),
      Con Tryz.prog (6 : Nat) [SV.int IntKind.u64 (↑x : Int), SV.int IntKind.u64 (↑b : Int)] []
        (SV.tup [SV.int IntKind.u64 (↑w : Int), SV.bool true]) [],
      SV.bool ((↑w : Int) == (↑v : Int)) = SV.bool false, SV.bool (decide ((↑x : Int) ≥ (↑low : Int))) = SV.bool false]) := by kernel_rfl

theorem row_q4 (b : Nat) (v : Nat) (x : Nat) (low : Nat) (high : Nat) (d : Nat) (z1 : Nat) (z0 : Nat) (o1 : Nat) (o0 : Nat) (m1 : Nat) (m0 : Nat) (b1 : Nat) (b0 : Nat) (a1 : Nat) (a0 : Nat) (e1 : Nat) (e0 : Nat) (y1 : Nat) (y2 : Nat) (w : Nat) (c1 : Bool) (c2 : Bool) (k1 : Int) (k2 : Int) : out1
  (callFn Tryz.prog D0 (200 : Nat) (4 : FuncId) [u64 b, u64 v, u64 x] [] (0 : Nat)
    [DE.op (25 : Nat) (Dir.con (SV.bool true) [] []),
      DE.op (30 : Nat) (Dir.con (SV.tup [u64 low, u64 high, SV.num IntKind.i64 (0 : Int)]) [] []),
      DE.op (35 : Nat) (Dir.eqv (SV.bool false)), DE.op (48 : Nat) (Dir.eqv (SV.bool false)),
      DE.op (64 : Nat) (Dir.eqv (SV.bool false)), DE.op (69 : Nat) (Dir.eqv (u64 d)),
      DE.op (70 : Nat) (Dir.con (SV.agg [u64 z1, u64 z0]) [] []),
      DE.op (71 : Nat) (Dir.con (SV.agg [u64 o1, u64 o0]) [] []),
      DE.op (72 : Nat) (Dir.con (SV.tup [SV.agg [u64 m1, u64 m0], SV.bool c1]) [] []),
      DE.op (77 : Nat) (Dir.con (SV.agg [u64 b1, u64 b0]) [] []),
      DE.op (78 : Nat) (Dir.con (SV.agg [u64 a1, u64 a0]) [] []),
      DE.op (82 : Nat) (Dir.con (SV.agg [u64 b1, u64 b0]) [] []),
      DE.op (83 : Nat) (Dir.con (SV.tup [SV.agg [u64 e1, u64 e0], SV.bool c2]) [] []),
      DE.op (89 : Nat) (Dir.con (SV.int IntKind.i64 k1) [] []), DE.op (90 : Nat) (Dir.eqv (SV.bool false)),
      DE.op (94 : Nat) (Dir.con (SV.int IntKind.i64 k2) [] []), DE.op (95 : Nat) (Dir.eqv (SV.bool false)),
      DE.op (101 : Nat) (Dir.eqv (SV.bool false)), DE.op (113 : Nat) (Dir.con (SV.tup [u64 v, SV.bool true]) [] []),
      DE.op (121 : Nat) (Dir.eqv (SV.bool false)), DE.op (124 : Nat) (Dir.eqv (u64 y1)),
      DE.op (126 : Nat) (Dir.eqv (u64 y2)),
      DE.cut
        {
          t :=
            mkT (176 : Nat)
              [((0 : Nat), u64 b), ((1 : Nat), u64 v), ((2 : Nat), u64 x), ((7 : Nat), u64 low), ((8 : Nat), u64 high)],
          h := [] }
        (0 : Nat) (Ex.exit (0 : Nat)),
      DE.op (157 : Nat) (Dir.con (SV.tup [u64 w, SV.bool true]) [] []), DE.op (165 : Nat) (Dir.eqv (SV.bool false)),
      DE.op (168 : Nat) (Dir.eqv (SV.bool true)), DE.op (172 : Nat) (Dir.eqv (SV.bool false))]) =
  some
  (SV.bool true,
    [Con Tryz.prog (5 : Nat) [] [] (SV.bool true) [],
      Con Tryz.prog (8 : Nat) [SV.int IntKind.u64 (↑v : Int), SV.int IntKind.u64 (↑b : Int)] []
        (SV.tup [SV.int IntKind.u64 (↑low : Int), SV.int IntKind.u64 (↑high : Int), SV.num IntKind.i64 (0 : Int)]) [],
      SV.bool ((↑b : Int) == (0 : Int)) = SV.bool false, SV.bool (decide ((↑v : Int) ≥ (↑b : Int))) = SV.bool false,
      SV.bool (decide ((↑low : Int) > (↑high : Int))) = SV.bool false,
      SV.int IntKind.u64 (IntKind.u64.wrap ((↑high : Int) - (↑low : Int))) = SV.int IntKind.u64 (↑d : Int),
      Con Tryz.prog (10 : Nat) [SV.int IntKind.u64 (↑d : Int)] []
        (SV.agg [SV.int IntKind.u64 (↑z1 : Int), SV.int IntKind.u64 (↑z0 : Int)]) [],
      Con Tryz.prog (10 : Nat) [SV.int IntKind.u64 (1 : Int)] []
        (SV.agg [SV.int IntKind.u64 (↑o1 : Int), SV.int IntKind.u64 (↑o0 : Int)]) [],
      Con Tryz.prog (9 : Nat)
        [SV.agg [SV.int IntKind.u64 (↑z1 : Int), SV.int IntKind.u64 (↑z0 : Int)],
          SV.agg [SV.int IntKind.u64 (↑o1 : Int), SV.int IntKind.u64 (↑o0 : Int)]]
        [] (SV.tup [SV.agg [SV.int IntKind.u64 (↑m1 : Int), SV.int IntKind.u64 (↑m0 : Int)], SV.bool c1]) [],
      Con Tryz.prog (10 : Nat) [SV.int IntKind.u64 (↑b : Int)] []
        (SV.agg [SV.int IntKind.u64 (↑b1 : Int), SV.int IntKind.u64 (↑b0 : Int)]) [],
      Con Tryz.prog (11 : Nat)
        [SV.agg [SV.int IntKind.u64 (↑m1 : Int), SV.int IntKind.u64 (↑m0 : Int)],
          SV.agg [SV.int IntKind.u64 (↑b1 : Int), SV.int IntKind.u64 (↑b0 : Int)]]
        [] (SV.agg [SV.int IntKind.u64 (↑a1 : Int), SV.int IntKind.u64 (↑a0 : Int)]) [],
      Con Tryz.prog (10 : Nat) [SV.int IntKind.u64 (↑b : Int)] []
        (SV.agg [SV.int IntKind.u64 (↑b1 : Int), SV.int IntKind.u64 (↑b0 : Int)]) [],
      Con Tryz.prog (9 : Nat)
        [SV.agg [SV.int IntKind.u64 (↑a1 : Int), SV.int IntKind.u64 (↑a0 : Int)],
          SV.agg [SV.int IntKind.u64 (↑b1 : Int), SV.int IntKind.u64 (↑b0 : Int)]]
        [] (SV.tup [SV.agg [SV.int IntKind.u64 (↑e1 : Int), SV.int IntKind.u64 (↑e0 : Int)], SV.bool c2]) [],
      Con Tryz.prog (12 : Nat)
        [SV.agg [SV.int IntKind.u64 (↑a1 : Int), SV.int IntKind.u64 (↑a0 : Int)],
          SV.agg [SV.int IntKind.u64 (1 : Int), SV.int IntKind.u64 (0 : Int)]]
        [] (SV.int IntKind.i64 k1) [],
      SV.bool (decide (k1 > (0 : Int))) = SV.bool false,
      Con Tryz.prog (12 : Nat)
        [SV.agg [SV.int IntKind.u64 (↑e1 : Int), SV.int IntKind.u64 (↑e0 : Int)],
          SV.agg [SV.int IntKind.u64 (1 : Int), SV.int IntKind.u64 (0 : Int)]]
        [] (SV.int IntKind.i64 k2) [],
      SV.bool (decide (k2 ≤ (0 : Int))) = SV.bool false,
      SV.bool (decide (IntKind.u64.wrap ((↑high : Int) - (↑low : Int)) < (18446744073709551615 : Int))) = SV.bool false,
      Con Tryz.prog (6 : Nat) [SV.int IntKind.u64 (↑x : Int), SV.int IntKind.u64 (↑b : Int)] []
        (SV.tup [SV.int IntKind.u64 (↑v : Int), SV.bool true]) [],
      SV.bool ((↑v : Int) != (↑v : Int)) = SV.bool false,
      SV.int IntKind.u64 (IntKind.u64.wrap ((↑low : Int) - (1 : Int))) = SV.int IntKind.u64 (↑y1 : Int),
      SV.int IntKind.u64 (IntKind.u64.wrap ((↑high : Int) + (1 : Int))) = SV.int IntKind.u64 (↑y2 : Int),
      CodeOK Tryz.prog (0 : Nat) (cutAt Tryz.prog (4 : FuncId) (0 : Nat))
        {
          t :=
            [some (SV.int IntKind.u64 (↑b : Int)), some (SV.int IntKind.u64 (↑v : Int)),
              some (SV.int IntKind.u64 (↑x : Int)), none, none, none, some (SV.bool false),
              some (SV.int IntKind.u64 (↑low : Int)), some (SV.int IntKind.u64 (↑high : Int)),
              some (SV.num IntKind.i64 (0 : Int)), some (SV.ptr (136 : Nat) (0 : Nat)), some (SV.bool c1),
              some (SV.ptr (164 : Nat) (0 : Nat)), some (SV.ptr (200 : Nat) (0 : Nat)), some (SV.bool c2),
              some (SV.ptr (216 : Nat) (0 : Nat)), some (SV.int IntKind.u64 (↑x : Int)),
              some (SV.int IntKind.u64 (↑v : Int)), some (SV.bool true), none, none, none, none, none, none,
              some (SV.bool true), some (SV.bool false),
              some
                (SV.tup
                  [SV.int IntKind.u64 (↑low : Int), SV.int IntKind.u64 (↑high : Int), SV.num IntKind.i64 (0 : Int)]),
              some (SV.int IntKind.u64 (↑v : Int)), some (SV.int IntKind.u64 (↑b : Int)),
              some
                (SV.tup
                  [SV.int IntKind.u64 (↑low : Int), SV.int IntKind.u64 (↑high : Int), SV.num IntKind.i64 (0 : Int)]),
              some (SV.int IntKind.u64 (↑low : Int)), some (SV.int IntKind.u64 (↑high : Int)),
              some (SV.num IntKind.i64 (0 : Int)), some (SV.int IntKind.u64 (↑b : Int)), some (SV.bool false), none,
              none, none, none, none, none, none, none, none, none, some (SV.int IntKind.u64 (↑v : Int)),
              some (SV.int IntKind.u64 (↑b : Int)), some (SV.bool false), none, none, none, none, none, none, none,
              none, none, none, some (SV.num IntKind.i64 (0 : Int)), some (SV.bool false), some (SV.bool false),
              some (SV.int IntKind.u64 (↑low : Int)), some (SV.int IntKind.u64 (↑high : Int)), some (SV.bool false),
              some (SV.bool false),
              some (SV.tup [SV.agg [SV.int IntKind.u64 (↑m1 : Int), SV.int IntKind.u64 (↑m0 : Int)], SV.bool c1]),
              some (SV.int IntKind.u64 (↑high : Int)), some (SV.int IntKind.u64 (↑low : Int)),
              some (SV.int IntKind.u64 (↑d : Int)),
              some (SV.agg [SV.int IntKind.u64 (↑z1 : Int), SV.int IntKind.u64 (↑z0 : Int)]),
              some (SV.agg [SV.int IntKind.u64 (↑o1 : Int), SV.int IntKind.u64 (↑o0 : Int)]),
              some (SV.tup [SV.agg [SV.int IntKind.u64 (↑m1 : Int), SV.int IntKind.u64 (↑m0 : Int)], SV.bool c1]),
              some (SV.agg [SV.int IntKind.u64 (↑m1 : Int), SV.int IntKind.u64 (↑m0 : Int)]), some (SV.bool c1),
              some (SV.agg [SV.int IntKind.u64 (↑m1 : Int), SV.int IntKind.u64 (↑m0 : Int)]),
              some (SV.int IntKind.u64 (↑b : Int)),
              some (SV.agg [SV.int IntKind.u64 (↑b1 : Int), SV.int IntKind.u64 (↑b0 : Int)]),
              some (SV.agg [SV.int IntKind.u64 (↑a1 : Int), SV.int IntKind.u64 (↑a0 : Int)]),
              some (SV.tup [SV.agg [SV.int IntKind.u64 (↑e1 : Int), SV.int IntKind.u64 (↑e0 : Int)], SV.bool c2]),
              some (SV.agg [SV.int IntKind.u64 (↑a1 : Int), SV.int IntKind.u64 (↑a0 : Int)]),
              some (SV.int IntKind.u64 (↑b : Int)),
              some (SV.agg [SV.int IntKind.u64 (↑b1 : Int), SV.int IntKind.u64 (↑b0 : Int)]),
              some (SV.tup [SV.agg [SV.int IntKind.u64 (↑e1 : Int), SV.int IntKind.u64 (↑e0 : Int)], SV.bool c2]),
              some (SV.agg [SV.int IntKind.u64 (↑e1 : Int), SV.int IntKind.u64 (↑e0 : Int)]), some (SV.bool c2),
              some (SV.agg [SV.num IntKind.u64 (1 : Int), SV.num IntKind.u64 (0 : Int)]),
              some (SV.agg [SV.int IntKind.u64 (↑a1 : Int), SV.int IntKind.u64 (↑a0 : Int)]),
              some (SV.agg [SV.num IntKind.u64 (1 : Int), SV.num IntKind.u64 (0 : Int)]), some (SV.int IntKind.i64 k1),
              some (SV.bool false), some (SV.bool false),
              some (SV.agg [SV.int IntKind.u64 (↑e1 : Int), SV.int IntKind.u64 (↑e0 : Int)]),
              some (SV.agg [SV.num IntKind.u64 (1 : Int), SV.num IntKind.u64 (0 : Int)]), some (SV.int IntKind.i64 k2),
              some (SV.bool false), some (SV.bool false), some (SV.int IntKind.u64 (↑x : Int)),
              some (SV.int IntKind.u64 (↑high : Int)), some (SV.int IntKind.u64 (↑low : Int)),
              some (SV.int IntKind.u64 (IntKind.u64.wrap ((↑high : Int) - (↑low : Int)))), some (SV.bool false), none,
              none, none, none, none, none, none, none, some (SV.tup [SV.int IntKind.u64 (↑v : Int), SV.bool true]),
              some (SV.int IntKind.u64 (↑x : Int)), some (SV.int IntKind.u64 (↑b : Int)),
              some (SV.tup [SV.int IntKind.u64 (↑v : Int), SV.bool true]), some (SV.int IntKind.u64 (↑v : Int)),
              some (SV.bool true), some (SV.bool true), some (SV.bool false), some (SV.bool false),
              some (SV.int IntKind.u64 (↑v : Int)), some (SV.int IntKind.u64 (↑v : Int)), some (SV.bool false),
              some (SV.bool false), some (SV.int IntKind.u64 (↑low : Int)), some (SV.int IntKind.u64 (↑y1 : Int)),
              some (SV.int IntKind.u64 (↑high : Int)), some (SV.int IntKind.u64 (↑y2 : Int)),
              some (SV.agg [SV.int IntKind.u64 (↑y1 : Int), SV.int IntKind.u64 (↑y2 : Int)]),
              some (SV.num IntKind.i64 (0 : Int)), none, none, none, none, none, none, none, none, none, none, none,
              none, none, none, none, none, none, none, none, none, none, none, none, none, none, none, none, none,
              none, none, none, none, none, none, none, none, none, none, none, none, none, none, none, none, none,
              none, none],
          h :=
            [((216 : Nat), Ent.own (31 : Nat) [SV.num IntKind.u64 (1 : Int), SV.num IntKind.u64 (0 : Int)]),
              ((200 : Nat), Ent.own (31 : Nat) [SV.int IntKind.u64 (↑e1 : Int), SV.int IntKind.u64 (↑e0 : Int)]),
              ((164 : Nat), Ent.own (31 : Nat) [SV.int IntKind.u64 (↑a1 : Int), SV.int IntKind.u64 (↑a0 : Int)]),
              ((136 : Nat), Ent.own (31 : Nat) [SV.int IntKind.u64 (↑m1 : Int), SV.int IntKind.u64 (↑m0 : Int)])] }
        {
          t :=
            [some (SV.int IntKind.u64 (↑b : Int)), some (SV.int IntKind.u64 (↑v : Int)),
              some (SV.int IntKind.u64 (↑x : Int)), none, none, none, none, some (SV.int IntKind.u64 (↑low : Int)),
              some (SV.int IntKind.u64 (↑high : Int)), none, none, none, none, none, none, none, none, none, none, none,
              none, none, none, none, none, none, none, none, none, none, none, none, none, none, none, none, none,
              none, none, none, none, none, none, none, none, none, none, none, none, none, none, none, none, none,
              none, none, none, none, none, none, none, none, none, none, none, none, none, none, none, none, none,
              none, none, none, none, none, none, none, none, none, none, none, none, none, none, none, none, none,
              none, none, none, none, none, none, none, none, none, none, none, none, none, none, none, none, none,
              none, none, none, none, none, none, none, none, none, none, none, none, none, none, none, none, none,
              none, none, none, none, none, none, none, none, none, none, none, none, none, none, none, none, none,
              none, none, none, none, none, none, none, none, none, none, none, none, none, none, none, none, none,
              none, none, none, none, none, none, none, none, none, none, none, none, none, none, none, none, none,
              none, none, none],
          h := [] }
        (Ex.exit (0 : Nat)),
      Con Tryz.prog (6 : Nat) [SV.int IntKind.u64 (↑x : Int), SV.int IntKind.u64 (↑b : Int)] []
        (SV.tup [SV.int IntKind.u64 (↑w : Int), SV.bool true]) [],
      SV.bool ((↑w : Int) == (↑v : Int)) = SV.bool false, SV.bool (decide ((↑x : Int) ≥ (↑low : Int))) = SV.bool true,
      SV.bool (decide ((↑x : Int) ≤ (↑high : Int))) = SV.bool false]) := by kernel_rfl

theorem rr0a (b : Nat) (v : Nat) (x : Nat) (low : Nat) (high : Nat) (y1 : Nat) (y2 : Nat) (w : Nat) : view (0 : Nat) [(0 : Nat), (1 : Nat), (2 : Nat), (7 : Nat), (8 : Nat), (127 : Nat), (128 : Nat)] [] []
  (runCode Tryz.prog D0 (100 : Nat) (0 : Nat) (loopB Tryz.prog (4 : Nat) (0 : Nat))
    {
      t :=
        mkT (176 : Nat)
          [((0 : Nat), u64 b), ((1 : Nat), u64 v), ((2 : Nat), u64 x), ((7 : Nat), u64 low), ((8 : Nat), u64 high),
            ((127 : Nat), SV.agg [u64 y1, u64 y2]), ((128 : Nat), SV.num IntKind.i64 (0 : Int))],
      h := [] }
    (0 : Nat) [DE.op (134 : Nat) (Dir.con (SV.tup [u64 w, SV.bool false]) [] [])]) =
  some
  ({ e := Ex.normal, len := (176 : Nat),
      vs :=
        [some (SV.int IntKind.u64 (↑b : Int)), some (SV.int IntKind.u64 (↑v : Int)),
          some (SV.int IntKind.u64 (↑x : Int)), some (SV.int IntKind.u64 (↑low : Int)),
          some (SV.int IntKind.u64 (↑high : Int)),
          some (SV.agg [SV.int IntKind.u64 (↑y1 : Int), SV.int IntKind.u64 (↑y2 : Int)]),
          some (SV.num IntKind.i64 (Int.ofNat (1 : Nat)))],
      es := [], low := true },
    [Con Tryz.prog (6 : Nat) [SV.int IntKind.u64 (↑y1 : Int), SV.int IntKind.u64 (↑b : Int)] []
        (SV.tup [SV.int IntKind.u64 (↑w : Int), SV.bool false]) []]) := by kernel_rfl

theorem rr0b (b : Nat) (v : Nat) (x : Nat) (low : Nat) (high : Nat) (y1 : Nat) (y2 : Nat) (w : Nat) : view (0 : Nat) [(0 : Nat), (1 : Nat), (2 : Nat), (7 : Nat), (8 : Nat), (127 : Nat), (128 : Nat)] [] []
  (runCode Tryz.prog D0 (100 : Nat) (0 : Nat) (loopB Tryz.prog (4 : Nat) (0 : Nat))
    {
      t :=
        mkT (176 : Nat)
          [((0 : Nat), u64 b), ((1 : Nat), u64 v), ((2 : Nat), u64 x), ((7 : Nat), u64 low), ((8 : Nat), u64 high),
            ((127 : Nat), SV.agg [u64 y1, u64 y2]), ((128 : Nat), SV.num IntKind.i64 (0 : Int))],
      h := [] }
    (0 : Nat)
    [DE.op (134 : Nat) (Dir.con (SV.tup [u64 w, SV.bool true]) [] []), DE.op (141 : Nat) (Dir.eqv (SV.bool false))]) =
  some
  ({ e := Ex.normal, len := (176 : Nat),
      vs :=
        [some (SV.int IntKind.u64 (↑b : Int)), some (SV.int IntKind.u64 (↑v : Int)),
          some (SV.int IntKind.u64 (↑x : Int)), some (SV.int IntKind.u64 (↑low : Int)),
          some (SV.int IntKind.u64 (↑high : Int)),
          some (SV.agg [SV.int IntKind.u64 (↑y1 : Int), SV.int IntKind.u64 (↑y2 : Int)]),
          some (SV.num IntKind.i64 (Int.ofNat (1 : Nat)))],
      es := [], low := true },
    [Con Tryz.prog (6 : Nat) [SV.int IntKind.u64 (↑y1 : Int), SV.int IntKind.u64 (↑b : Int)] []
        (SV.tup [SV.int IntKind.u64 (↑w : Int), SV.bool true]) [],
      SV.bool ((↑w : Int) == (↑v : Int)) = SV.bool false]) := by kernel_rfl

theorem rr0c (b : Nat) (v : Nat) (x : Nat) (low : Nat) (high : Nat) (y1 : Nat) (y2 : Nat) (w : Nat) : view (0 : Nat) [(0 : Nat), (1 : Nat), (2 : Nat), (7 : Nat), (8 : Nat), (127 : Nat), (128 : Nat)] [] []
  (runCode Tryz.prog D0 (100 : Nat) (0 : Nat) (loopB Tryz.prog (4 : Nat) (0 : Nat))
    {
      t :=
        mkT (176 : Nat)
          [((0 : Nat), u64 b), ((1 : Nat), u64 v), ((2 : Nat), u64 x), ((7 : Nat), u64 low), ((8 : Nat), u64 high),
            ((127 : Nat), SV.agg [u64 y1, u64 y2]), ((128 : Nat), SV.num IntKind.i64 (0 : Int))],
      h := [] }
    (0 : Nat)
    [DE.op (134 : Nat) (Dir.con (SV.tup [u64 w, SV.bool true]) [] []), DE.op (141 : Nat) (Dir.eqv (SV.bool true)),
      DE.op (146 : Nat) (Dir.eqv (SV.bool false)), DE.op (150 : Nat) (Dir.eqv (SV.bool false))]) =
  some
  ({ e := Ex.normal, len := (176 : Nat),
      vs :=
        [some (SV.int IntKind.u64 (↑b : Int)), some (SV.int IntKind.u64 (↑v : Int)),
          some (SV.int IntKind.u64 (↑x : Int)), some (SV.int IntKind.u64 (↑low : Int)),
          some (SV.int IntKind.u64 (↑high : Int)),
          some (SV.agg [SV.int IntKind.u64 (↑y1 : Int), SV.int IntKind.u64 (↑y2 : Int)]),
          some (SV.num IntKind.i64 (Int.ofNat (1 : Nat)))],
      es := [], low := true },
    [Con Tryz.prog (6 : Nat) [SV.int IntKind.u64 (↑y1 : Int), SV.int IntKind.u64 (↑b : Int)] []
        (SV.tup [SV.int IntKind.u64 (↑w : Int), SV.bool true]) [],
      SV.bool ((↑w : Int) == (↑v : Int)) = SV.bool true, SV.bool (decide ((↑y1 : Int) < (↑low : Int))) = SV.bool false,
      SV.bool (decide ((↑y1 : Int) > (↑high : Int))) = SV.bool false]) := by kernel_rfl

theorem rr1a (b : Nat) (v : Nat) (x : Nat) (low : Nat) (high : Nat) (y1 : Nat) (y2 : Nat) (w : Nat) : view (0 : Nat) [(0 : Nat), (1 : Nat), (2 : Nat), (7 : Nat), (8 : Nat), (127 : Nat), (128 : Nat)] [] []
  (runCode Tryz.prog D0 (100 : Nat) (0 : Nat) (loopB Tryz.prog (4 : Nat) (0 : Nat))
    {
      t :=
        mkT (176 : Nat)
          [((0 : Nat), u64 b), ((1 : Nat), u64 v), ((2 : Nat), u64 x), ((7 : Nat), u64 low), ((8 : Nat), u64 high),
            ((127 : Nat), SV.agg [u64 y1, u64 y2]), ((128 : Nat), SV.num IntKind.i64 (1 : Int))],
      h := [] }
    (0 : Nat) [DE.op (134 : Nat) (Dir.con (SV.tup [u64 w, SV.bool false]) [] [])]) =
  some
  ({ e := Ex.normal, len := (176 : Nat),
      vs :=
        [some (SV.int IntKind.u64 (↑b : Int)), some (SV.int IntKind.u64 (↑v : Int)),
          some (SV.int IntKind.u64 (↑x : Int)), some (SV.int IntKind.u64 (↑low : Int)),
          some (SV.int IntKind.u64 (↑high : Int)),
          some (SV.agg [SV.int IntKind.u64 (↑y1 : Int), SV.int IntKind.u64 (↑y2 : Int)]),
          some (SV.num IntKind.i64 (Int.ofNat (2 : Nat)))],
      es := [], low := true },
    [Con Tryz.prog (6 : Nat) [SV.int IntKind.u64 (↑y2 : Int), SV.int IntKind.u64 (↑b : Int)] []
        (SV.tup [SV.int IntKind.u64 (↑w : Int), SV.bool false]) []]) := by kernel_rfl

theorem rr1b (b : Nat) (v : Nat) (x : Nat) (low : Nat) (high : Nat) (y1 : Nat) (y2 : Nat) (w : Nat) : view (0 : Nat) [(0 : Nat), (1 : Nat), (2 : Nat), (7 : Nat), (8 : Nat), (127 : Nat), (128 : Nat)] [] []
  (runCode Tryz.prog D0 (100 : Nat) (0 : Nat) (loopB Tryz.prog (4 : Nat) (0 : Nat))
    {
      t :=
        mkT (176 : Nat)
          [((0 : Nat), u64 b), ((1 : Nat), u64 v), ((2 : Nat), u64 x), ((7 : Nat), u64 low), ((8 : Nat), u64 high),
            ((127 : Nat), SV.agg [u64 y1, u64 y2]), ((128 : Nat), SV.num IntKind.i64 (1 : Int))],
      h := [] }
    (0 : Nat)
    [DE.op (134 : Nat) (Dir.con (SV.tup [u64 w, SV.bool true]) [] []), DE.op (141 : Nat) (Dir.eqv (SV.bool false))]) =
  some
  ({ e := Ex.normal, len := (176 : Nat),
      vs :=
        [some (SV.int IntKind.u64 (↑b : Int)), some (SV.int IntKind.u64 (↑v : Int)),
          some (SV.int IntKind.u64 (↑x : Int)), some (SV.int IntKind.u64 (↑low : Int)),
          some (SV.int IntKind.u64 (↑high : Int)),
          some (SV.agg [SV.int IntKind.u64 (↑y1 : Int), SV.int IntKind.u64 (↑y2 : Int)]),
          some (SV.num IntKind.i64 (Int.ofNat (2 : Nat)))],
      es := [], low := true },
    [Con Tryz.prog (6 : Nat) [SV.int IntKind.u64 (↑y2 : Int), SV.int IntKind.u64 (↑b : Int)] []
        (SV.tup [SV.int IntKind.u64 (↑w : Int), SV.bool true]) [],
      SV.bool ((↑w : Int) == (↑v : Int)) = SV.bool false]) := by kernel_rfl

theorem rr1c (b : Nat) (v : Nat) (x : Nat) (low : Nat) (high : Nat) (y1 : Nat) (y2 : Nat) (w : Nat) : view (0 : Nat) [(0 : Nat), (1 : Nat), (2 : Nat), (7 : Nat), (8 : Nat), (127 : Nat), (128 : Nat)] [] []
  (runCode Tryz.prog D0 (100 : Nat) (0 : Nat) (loopB Tryz.prog (4 : Nat) (0 : Nat))
    {
      t :=
        mkT (176 : Nat)
          [((0 : Nat), u64 b), ((1 : Nat), u64 v), ((2 : Nat), u64 x), ((7 : Nat), u64 low), ((8 : Nat), u64 high),
            ((127 : Nat), SV.agg [u64 y1, u64 y2]), ((128 : Nat), SV.num IntKind.i64 (1 : Int))],
      h := [] }
    (0 : Nat)
    [DE.op (134 : Nat) (Dir.con (SV.tup [u64 w, SV.bool true]) [] []), DE.op (141 : Nat) (Dir.eqv (SV.bool true)),
      DE.op (146 : Nat) (Dir.eqv (SV.bool false)), DE.op (150 : Nat) (Dir.eqv (SV.bool false))]) =
  some
  ({ e := Ex.normal, len := (176 : Nat),
      vs :=
        [some (SV.int IntKind.u64 (↑b : Int)), some (SV.int IntKind.u64 (↑v : Int)),
          some (SV.int IntKind.u64 (↑x : Int)), some (SV.int IntKind.u64 (↑low : Int)),
          some (SV.int IntKind.u64 (↑high : Int)),
          some (SV.agg [SV.int IntKind.u64 (↑y1 : Int), SV.int IntKind.u64 (↑y2 : Int)]),
          some (SV.num IntKind.i64 (Int.ofNat (2 : Nat)))],
      es := [], low := true },
    [Con Tryz.prog (6 : Nat) [SV.int IntKind.u64 (↑y2 : Int), SV.int IntKind.u64 (↑b : Int)] []
        (SV.tup [SV.int IntKind.u64 (↑w : Int), SV.bool true]) [],
      SV.bool ((↑w : Int) == (↑v : Int)) = SV.bool true, SV.bool (decide ((↑y2 : Int) < (↑low : Int))) = SV.bool false,
      SV.bool (decide ((↑y2 : Int) > (↑high : Int))) = SV.bool false]) := by kernel_rfl

theorem rr2 (b : Nat) (v : Nat) (x : Nat) (low : Nat) (high : Nat) (y1 : Nat) (y2 : Nat) : view (0 : Nat) [(0 : Nat), (1 : Nat), (2 : Nat), (7 : Nat), (8 : Nat)] [] []
  (runCode Tryz.prog D0 (100 : Nat) (0 : Nat) (loopB Tryz.prog (4 : Nat) (0 : Nat))
    {
      t :=
        mkT (176 : Nat)
          [((0 : Nat), u64 b), ((1 : Nat), u64 v), ((2 : Nat), u64 x), ((7 : Nat), u64 low), ((8 : Nat), u64 high),
            ((127 : Nat), SV.agg [u64 y1, u64 y2]), ((128 : Nat), SV.num IntKind.i64 (2 : Int))],
      h := [] }
    (0 : Nat) []) =
  some
  ({ e := Ex.exit (0 : Nat), len := (176 : Nat),
      vs :=
        [some (SV.int IntKind.u64 (↑b : Int)), some (SV.int IntKind.u64 (↑v : Int)),
          some (SV.int IntKind.u64 (↑x : Int)), some (SV.int IntKind.u64 (↑low : Int)),
          some (SV.int IntKind.u64 (↑high : Int))],
      es := [], low := true },
    []) := by kernel_rfl

end Go.Sx
