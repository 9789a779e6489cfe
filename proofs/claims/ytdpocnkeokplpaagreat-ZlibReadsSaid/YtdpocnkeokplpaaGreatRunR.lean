/- The document's inflate: Rest; clear. -/
import Derived.Test.YtdpocnkeokplpaaGreatRunZ
import Derived.Test.YtdpocnkeokplpaaGreatRunB
namespace Go.Proofs.YtdpocnkeokplpaaGreat
open Go.RowKit Go.Hal
set_option linter.unusedVariables false
set_option linter.unusedSimpArgs false

def clearE (e : Nat) : Nat := if e = 2 then 0 else e
end Go.Proofs.YtdpocnkeokplpaaGreat
