/- What functions of the program answer: contracts, each proved by the executor. -/
import Derived.Test.YtnnmofebjfpcnaaGreatKAwake18
import Derived.Test.YtnnmofebjfpcnaaGreatKMul
import Derived.Test.YtnnmofebjfpcnaaGreatKRMul
namespace Go.Sx
open Go.Proofs
set_option maxRecDepth 100000
theorem tells_t (x : Nat) (b : Nat) (v : Nat) : out1
  (callFn Tryz.prog D0 (200 : Nat) (3 : FuncId) [u64 x, u64 b] [] (0 : Nat)
    [DE.op (9 : Nat) (Dir.con (SV.bool true) [] []), DE.op (14 : Nat) (Dir.con (SV.tup [u64 v, SV.bool true]) [] []),
      DE.op (20 : Nat) (Dir.con (SV.tup [u64 v, SV.bool true]) [] []), DE.op (25 : Nat) (Dir.eqv (SV.bool true)),
      DE.op (37 : Nat) (Dir.eqv (SV.bool true))]) =
  some
  (SV.bool true,
    [Con Tryz.prog (5 : Nat) [] [] (SV.bool true) [],
      Con Tryz.prog (6 : Nat) [SV.int IntKind.u64 (↑x : Int), SV.int IntKind.u64 (↑b : Int)] []
        (SV.tup [SV.int IntKind.u64 (↑v : Int), SV.bool true]) [],
      Con Tryz.prog (7 : Nat) [SV.int IntKind.u64 (↑x : Int), SV.int IntKind.u64 (↑b : Int)] []
        (SV.tup [SV.int IntKind.u64 (↑v : Int), SV.bool true]) [],
      SV.bool ((↑v : Int) == (↑v : Int)) = SV.bool true, SV.bool (decide ((↑v : Int) < (↑b : Int))) = SV.bool true]) := by kernel_rfl

theorem tells_f (x : Nat) (b : Nat) (v : Nat) : out1
  (callFn Tryz.prog D0 (200 : Nat) (3 : FuncId) [u64 x, u64 b] [] (0 : Nat)
    [DE.op (9 : Nat) (Dir.con (SV.bool true) [] []), DE.op (14 : Nat) (Dir.con (SV.tup [u64 v, SV.bool false]) [] []),
      DE.op (20 : Nat) (Dir.con (SV.tup [u64 v, SV.bool false]) [] []), DE.op (25 : Nat) (Dir.eqv (SV.bool true))]) =
  some
  (SV.bool true,
    [Con Tryz.prog (5 : Nat) [] [] (SV.bool true) [],
      Con Tryz.prog (6 : Nat) [SV.int IntKind.u64 (↑x : Int), SV.int IntKind.u64 (↑b : Int)] []
        (SV.tup [SV.int IntKind.u64 (↑v : Int), SV.bool false]) [],
      Con Tryz.prog (7 : Nat) [SV.int IntKind.u64 (↑x : Int), SV.int IntKind.u64 (↑b : Int)] []
        (SV.tup [SV.int IntKind.u64 (↑v : Int), SV.bool false]) [],
      SV.bool ((↑v : Int) == (↑v : Int)) = SV.bool true]) := by kernel_rfl

end Go.Sx
