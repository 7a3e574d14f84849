/- Contracts of the packages bits and demesneref4: why no number stands there, by the document. -/
import Derived.Test.YtfiofjalpaeohaaBitsBytes
namespace Go.Proofs.Ytfiofjalpaeohaa
set_option linter.unusedVariables false
set_option linter.unusedSimpArgs false
open Go.RowKit

end Go.Proofs.Ytfiofjalpaeohaa
