/- What functions of the program answer: contracts, each proved by the executor. -/
import Derived.Test.YtnnmofebjfpcnaaGreatSeatD
import Derived.Test.YtnnmofebjfpcnaaGreatSxCut
import Derived.Test.YtnnmofebjfpcnaaGreatSxArith
set_option linter.unusedVariables false
set_option linter.unusedSimpArgs false

namespace Go.Sx
open Go.Proofs
set_option maxRecDepth 100000
theorem awake18_raw (u : Unit) : out1 (callFn Tryz.prog D0 (2000 : Nat) (5 : FuncId) [] [] (0 : Nat) []) =
  some
  (SV.bool true,
    [(8 : Nat) ≤ (140737488355328 : Nat) ∧ (1 : Nat) ≤ (9223372036854775807 : Nat),
      (16 : Nat) ≤ (140737488355328 : Nat) ∧ (2 : Nat) ≤ (9223372036854775807 : Nat), (1 : Nat) = (1 : Nat),
      (0 : Nat) < (1 : Nat), (24 : Nat) ≤ (140737488355328 : Nat) ∧ (3 : Nat) ≤ (9223372036854775807 : Nat),
      (2 : Nat) = (2 : Nat), (0 : Nat) < (1 : Nat),
      (32 : Nat) ≤ (140737488355328 : Nat) ∧ (4 : Nat) ≤ (9223372036854775807 : Nat), (3 : Nat) = (3 : Nat),
      (0 : Nat) < (1 : Nat), (0 : Nat) < (1 : Nat),
      (8 : Nat) ≤ (140737488355328 : Nat) ∧ (1 : Nat) ≤ (9223372036854775807 : Nat),
      (16 : Nat) ≤ (140737488355328 : Nat) ∧ (2 : Nat) ≤ (9223372036854775807 : Nat), (1 : Nat) = (1 : Nat),
      (0 : Nat) < (1 : Nat), (24 : Nat) ≤ (140737488355328 : Nat) ∧ (3 : Nat) ≤ (9223372036854775807 : Nat),
      (2 : Nat) = (2 : Nat), (0 : Nat) < (1 : Nat),
      (32 : Nat) ≤ (140737488355328 : Nat) ∧ (4 : Nat) ≤ (9223372036854775807 : Nat), (3 : Nat) = (3 : Nat),
      (0 : Nat) < (1 : Nat), (40 : Nat) ≤ (140737488355328 : Nat) ∧ (5 : Nat) ≤ (9223372036854775807 : Nat),
      (4 : Nat) = (4 : Nat), (0 : Nat) < (1 : Nat),
      (48 : Nat) ≤ (140737488355328 : Nat) ∧ (6 : Nat) ≤ (9223372036854775807 : Nat), (5 : Nat) = (5 : Nat),
      (0 : Nat) < (1 : Nat), (56 : Nat) ≤ (140737488355328 : Nat) ∧ (7 : Nat) ≤ (9223372036854775807 : Nat),
      (6 : Nat) = (6 : Nat), (0 : Nat) < (1 : Nat),
      (64 : Nat) ≤ (140737488355328 : Nat) ∧ (8 : Nat) ≤ (9223372036854775807 : Nat), (7 : Nat) = (7 : Nat),
      (0 : Nat) < (1 : Nat), (0 : Nat) < (1 : Nat),
      (8 : Nat) ≤ (140737488355328 : Nat) ∧ (1 : Nat) ≤ (9223372036854775807 : Nat),
      (0 : Int) ≤ (0 : Int) ∧ (0 : Int) < (↑(1 : Nat) : Int), (1 : Nat) ≤ (1 : Nat), (0 : Nat) < (1 : Nat),
      (8 : Nat) ≤ (140737488355328 : Nat) ∧ (1 : Nat) ≤ (9223372036854775807 : Nat),
      (0 : Int) ≤ (0 : Int) ∧ (0 : Int) < (↑(1 : Nat) : Int), (1 : Nat) ≤ (1 : Nat), (0 : Nat) < (1 : Nat)]) := by kernel_rfl

end Go.Sx
