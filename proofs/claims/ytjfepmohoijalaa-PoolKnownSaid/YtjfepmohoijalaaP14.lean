/- Contract of Insert. -/
import Derived.Test.YtjfepmohoijalaaP12
import Derived.Test.YtjfepmohoijalaaMgF
set_option maxRecDepth 100000
set_option linter.unusedVariables false
set_option linter.unusedSimpArgs false
namespace Mun
open Go Go.RowKit
open Go.Proofs

end Mun
