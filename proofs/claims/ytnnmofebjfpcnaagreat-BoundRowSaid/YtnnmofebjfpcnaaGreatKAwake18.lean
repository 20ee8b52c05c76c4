/- What functions of the program answer: contracts, each proved by the executor. -/
import Derived.Test.YtnnmofebjfpcnaaGreatSeatD
import Derived.Test.YtnnmofebjfpcnaaGreatSxCut
import Derived.Test.YtnnmofebjfpcnaaGreatSxArith
import Derived.Test.YtnnmofebjfpcnaaGreatKAwake18Raw
set_option linter.unusedVariables false
set_option linter.unusedSimpArgs false

namespace Go.Sx
open Go.Proofs
set_option maxRecDepth 100000
theorem awake18 : Pure Tryz.prog 5 [] (.bool true) := pure_of L0 2000 [] (awake18_raw ()) (by decide +kernel) rfl rfl
end Go.Sx
