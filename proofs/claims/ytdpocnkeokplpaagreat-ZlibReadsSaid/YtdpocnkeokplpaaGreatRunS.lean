/- The document's inflate: Rest, the Run's fields told. -/
import Derived.Test.YtdpocnkeokplpaaGreatRunR
namespace Go.Proofs.YtdpocnkeokplpaaGreat
open Go.RowKit Go.Hal
set_option linter.unusedVariables false
set_option linter.unusedSimpArgs false

end Go.Proofs.YtdpocnkeokplpaaGreat
