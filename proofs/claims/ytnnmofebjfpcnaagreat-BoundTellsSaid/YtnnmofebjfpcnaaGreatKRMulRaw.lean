/- What functions of the program answer: contracts, each proved by the executor. -/
import Derived.Test.YtnnmofebjfpcnaaGreatSeatD
import Derived.Test.YtnnmofebjfpcnaaGreatSxCut
import Derived.Test.YtnnmofebjfpcnaaGreatSxArith
namespace Go.Sx
open Go.Proofs
set_option maxRecDepth 100000
theorem digits_raw (h : Nat) (l : Nat) : out1 (callFn Tryz.prog D0 (200 : Nat) (32 : FuncId) [SV.agg [u64 h, u64 l]] [] (0 : Nat) []) =
  some
  (SV.agg
      [SV.int IntKind.u64 ((↑l : Int).tmod (4294967296 : Int)),
        SV.int IntKind.u64 (IntKind.u64.wrap ((↑l : Int).tdiv (4294967296 : Int))),
        SV.int IntKind.u64 ((↑h : Int).tmod (4294967296 : Int)),
        SV.int IntKind.u64 (IntKind.u64.wrap ((↑h : Int).tdiv (4294967296 : Int)))],
    []) := by kernel_rfl

theorem whole_raw (d0 : Nat) (d1 : Nat) (d2 : Nat) (d3 : Nat) : out1 (callFn Tryz.prog D0 (200 : Nat) (33 : FuncId) [SV.agg [u64 d0, u64 d1, u64 d2, u64 d3]] [] (0 : Nat) []) =
  some
  (SV.agg
      [SV.int IntKind.u64 (IntKind.u64.wrap ((↑d2 : Int) + IntKind.u64.wrap ((4294967296 : Int) * (↑d3 : Int)))),
        SV.int IntKind.u64 (IntKind.u64.wrap ((↑d0 : Int) + IntKind.u64.wrap ((4294967296 : Int) * (↑d1 : Int))))],
    []) := by kernel_rfl

theorem rmul_raw (ah : Nat) (al : Nat) (bh : Nat) (bl : Nat) (x0 : Nat) (x1 : Nat) (x2 : Nat) (x3 : Nat) (y0 : Nat) (y1 : Nat) (y2 : Nat) (y3 : Nat) (n0 : Nat) (n1 : Nat) (n2 : Nat) (n3 : Nat) (n4 : Nat) (n5 : Nat) (n6 : Nat) (n7 : Nat) (n8 : Nat) (n9 : Nat) (z0 : Nat) (z1 : Nat) (z2 : Nat) (z3 : Nat) (z4 : Nat) (z5 : Nat) (z6 : Nat) (z7 : Nat) (z8 : Nat) (z9 : Nat) (c0 : Nat) (c1 : Nat) (c2 : Nat) (c3 : Nat) (c4 : Nat) (c5 : Nat) (c6 : Nat) (c7 : Nat) (c8 : Nat) (c9 : Nat) (rh : Nat) (rl : Nat) : out1
  (callFn Tryz.prog D0 (400 : Nat) (20 : FuncId) [SV.agg [u64 ah, u64 al], SV.agg [u64 bh, u64 bl]] [] (0 : Nat)
    (let y :=
      let y :=
        let y :=
          [DE.op (49 : Nat) (Dir.eqv (u64 c8)), DE.op (41 : Nat) (Dir.eqv (u64 n9)),
            DE.op (46 : Nat) (Dir.eqv (u64 z9)), DE.op (49 : Nat) (Dir.eqv (u64 c9)),
            DE.op (51 : Nat) (Dir.con (SV.agg [u64 rh, u64 rl]) [] [])];
        DE.op (46 : Nat) (Dir.eqv (u64 z7)) ::
          DE.op (49 : Nat) (Dir.eqv (u64 c7)) ::
            DE.op (41 : Nat) (Dir.eqv (u64 n8)) :: DE.op (46 : Nat) (Dir.eqv (u64 z8)) :: y;
      let y :=
        DE.op (41 : Nat) (Dir.eqv (u64 n6)) ::
          DE.op (46 : Nat) (Dir.eqv (u64 z6)) ::
            DE.op (49 : Nat) (Dir.eqv (u64 c6)) :: DE.op (41 : Nat) (Dir.eqv (u64 n7)) :: y;
      DE.op (49 : Nat) (Dir.eqv (u64 c4)) ::
        DE.op (41 : Nat) (Dir.eqv (u64 n5)) ::
          DE.op (46 : Nat) (Dir.eqv (u64 z5)) :: DE.op (49 : Nat) (Dir.eqv (u64 c5)) :: y;
    let y :=
      let y :=
        DE.op (46 : Nat) (Dir.eqv (u64 z3)) ::
          DE.op (49 : Nat) (Dir.eqv (u64 c3)) ::
            DE.op (41 : Nat) (Dir.eqv (u64 n4)) :: DE.op (46 : Nat) (Dir.eqv (u64 z4)) :: y;
      DE.op (41 : Nat) (Dir.eqv (u64 n2)) ::
        DE.op (46 : Nat) (Dir.eqv (u64 z2)) ::
          DE.op (49 : Nat) (Dir.eqv (u64 c2)) :: DE.op (41 : Nat) (Dir.eqv (u64 n3)) :: y;
    let y :=
      DE.op (49 : Nat) (Dir.eqv (u64 c0)) ::
        DE.op (41 : Nat) (Dir.eqv (u64 n1)) ::
          DE.op (46 : Nat) (Dir.eqv (u64 z1)) :: DE.op (49 : Nat) (Dir.eqv (u64 c1)) :: y;
    DE.op (13 : Nat) (Dir.con (SV.agg [u64 x0, u64 x1, u64 x2, u64 x3]) [] []) ::
      DE.op (15 : Nat) (Dir.con (SV.agg [u64 y0, u64 y1, u64 y2, u64 y3]) [] []) ::
        DE.op (41 : Nat) (Dir.eqv (u64 n0)) :: DE.op (46 : Nat) (Dir.eqv (u64 z0)) :: y)) =
  some
  (SV.agg [SV.int IntKind.u64 (↑rh : Int), SV.int IntKind.u64 (↑rl : Int)],
    [Con Tryz.prog (32 : Nat) [SV.agg [SV.int IntKind.u64 (↑ah : Int), SV.int IntKind.u64 (↑al : Int)]] []
        (SV.agg
          [SV.int IntKind.u64 (↑x0 : Int), SV.int IntKind.u64 (↑x1 : Int), SV.int IntKind.u64 (↑x2 : Int),
            SV.int IntKind.u64 (↑x3 : Int)])
        [],
      Con Tryz.prog (32 : Nat) [SV.agg [SV.int IntKind.u64 (↑bh : Int), SV.int IntKind.u64 (↑bl : Int)]] []
        (SV.agg
          [SV.int IntKind.u64 (↑y0 : Int), SV.int IntKind.u64 (↑y1 : Int), SV.int IntKind.u64 (↑y2 : Int),
            SV.int IntKind.u64 (↑y3 : Int)])
        [],
      SV.int IntKind.u64
          (IntKind.u64.wrap (IntKind.u64.wrap ((0 : Int) + IntKind.u64.wrap ((↑x0 : Int) * (↑y0 : Int))) + (0 : Int))) =
        SV.int IntKind.u64 (↑n0 : Int),
      SV.int IntKind.u64 ((↑n0 : Int).tmod (4294967296 : Int)) = SV.int IntKind.u64 (↑z0 : Int),
      SV.int IntKind.u64 (IntKind.u64.wrap ((↑n0 : Int).tdiv (4294967296 : Int))) = SV.int IntKind.u64 (↑c0 : Int),
      SV.int IntKind.u64
          (IntKind.u64.wrap
            (IntKind.u64.wrap ((0 : Int) + IntKind.u64.wrap ((↑x0 : Int) * (↑y1 : Int))) + (↑c0 : Int))) =
        SV.int IntKind.u64 (↑n1 : Int),
      SV.int IntKind.u64 ((↑n1 : Int).tmod (4294967296 : Int)) = SV.int IntKind.u64 (↑z1 : Int),
      SV.int IntKind.u64 (IntKind.u64.wrap ((↑n1 : Int).tdiv (4294967296 : Int))) = SV.int IntKind.u64 (↑c1 : Int),
      SV.int IntKind.u64
          (IntKind.u64.wrap
            (IntKind.u64.wrap ((0 : Int) + IntKind.u64.wrap ((↑x0 : Int) * (↑y2 : Int))) + (↑c1 : Int))) =
        SV.int IntKind.u64 (↑n2 : Int),
      SV.int IntKind.u64 ((↑n2 : Int).tmod (4294967296 : Int)) = SV.int IntKind.u64 (↑z2 : Int),
      SV.int IntKind.u64 (IntKind.u64.wrap ((↑n2 : Int).tdiv (4294967296 : Int))) = SV.int IntKind.u64 (↑c2 : Int),
      SV.int IntKind.u64
          (IntKind.u64.wrap
            (IntKind.u64.wrap ((0 : Int) + IntKind.u64.wrap ((↑x0 : Int) * (↑y3 : Int))) + (↑c2 : Int))) =
        SV.int IntKind.u64 (↑n3 : Int),
      SV.int IntKind.u64 ((↑n3 : Int).tmod (4294967296 : Int)) = SV.int IntKind.u64 (↑z3 : Int),
      SV.int IntKind.u64 (IntKind.u64.wrap ((↑n3 : Int).tdiv (4294967296 : Int))) = SV.int IntKind.u64 (↑c3 : Int),
      SV.int IntKind.u64
          (IntKind.u64.wrap
            (IntKind.u64.wrap ((↑z1 : Int) + IntKind.u64.wrap ((↑x1 : Int) * (↑y0 : Int))) + (0 : Int))) =
        SV.int IntKind.u64 (↑n4 : Int),
      SV.int IntKind.u64 ((↑n4 : Int).tmod (4294967296 : Int)) = SV.int IntKind.u64 (↑z4 : Int),
      SV.int IntKind.u64 (IntKind.u64.wrap ((↑n4 : Int).tdiv (4294967296 : Int))) = SV.int IntKind.u64 (↑c4 : Int),
      SV.int IntKind.u64
          (IntKind.u64.wrap
            (IntKind.u64.wrap ((↑z2 : Int) + IntKind.u64.wrap ((↑x1 : Int) * (↑y1 : Int))) + (↑c4 : Int))) =
        SV.int IntKind.u64 (↑n5 : Int),
      SV.int IntKind.u64 ((↑n5 : Int).tmod (4294967296 : Int)) = SV.int IntKind.u64 (↑z5 : Int),
      SV.int IntKind.u64 (IntKind.u64.wrap ((↑n5 : Int).tdiv (4294967296 : Int))) = SV.int IntKind.u64 (↑c5 : Int),
      SV.int IntKind.u64
          (IntKind.u64.wrap
            (IntKind.u64.wrap ((↑z3 : Int) + IntKind.u64.wrap ((↑x1 : Int) * (↑y2 : Int))) + (↑c5 : Int))) =
        SV.int IntKind.u64 (↑n6 : Int),
      SV.int IntKind.u64 ((↑n6 : Int).tmod (4294967296 : Int)) = SV.int IntKind.u64 (↑z6 : Int),
      SV.int IntKind.u64 (IntKind.u64.wrap ((↑n6 : Int).tdiv (4294967296 : Int))) = SV.int IntKind.u64 (↑c6 : Int),
      SV.int IntKind.u64
          (IntKind.u64.wrap
            (IntKind.u64.wrap ((↑z5 : Int) + IntKind.u64.wrap ((↑x2 : Int) * (↑y0 : Int))) + (0 : Int))) =
        SV.int IntKind.u64 (↑n7 : Int),
      SV.int IntKind.u64 ((↑n7 : Int).tmod (4294967296 : Int)) = SV.int IntKind.u64 (↑z7 : Int),
      SV.int IntKind.u64 (IntKind.u64.wrap ((↑n7 : Int).tdiv (4294967296 : Int))) = SV.int IntKind.u64 (↑c7 : Int),
      SV.int IntKind.u64
          (IntKind.u64.wrap
            (IntKind.u64.wrap ((↑z6 : Int) + IntKind.u64.wrap ((↑x2 : Int) * (↑y1 : Int))) + (↑c7 : Int))) =
        SV.int IntKind.u64 (↑n8 : Int),
      SV.int IntKind.u64 ((↑n8 : Int).tmod (4294967296 : Int)) = SV.int IntKind.u64 (↑z8 : Int),
      SV.int IntKind.u64 (IntKind.u64.wrap ((↑n8 : Int).tdiv (4294967296 : Int))) = SV.int IntKind.u64 (↑c8 : Int),
      SV.int IntKind.u64
          (IntKind.u64.wrap
            (IntKind.u64.wrap ((↑z8 : Int) + IntKind.u64.wrap ((↑x3 : Int) * (↑y0 : Int))) + (0 : Int))) =
        SV.int IntKind.u64 (↑n9 : Int),
      SV.int IntKind.u64 ((↑n9 : Int).tmod (4294967296 : Int)) = SV.int IntKind.u64 (↑z9 : Int),
      SV.int IntKind.u64 (IntKind.u64.wrap ((↑n9 : Int).tdiv (4294967296 : Int))) = SV.int IntKind.u64 (↑c9 : Int),
      Con Tryz.prog (33 : Nat)
        [SV.agg
            [SV.int IntKind.u64 (↑z0 : Int), SV.int IntKind.u64 (↑z4 : Int), SV.int IntKind.u64 (↑z7 : Int),
              SV.int IntKind.u64 (↑z9 : Int)]]
        [] (SV.agg [SV.int IntKind.u64 (↑rh : Int), SV.int IntKind.u64 (↑rl : Int)]) []]) := by kernel_rfl

end Go.Sx
