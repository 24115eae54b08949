/- Layer 7, the document's: rows of classes that are the same. -/
import Derived.Test.YtoelilejohfglaaGreatBunF
namespace Go.Proofs.YtoelilejohfglaaGreat
open Go.RowKit
set_option linter.unusedVariables false
set_option linter.unusedSimpArgs false
attribute [local go_sem ↓] Go.wp_at_zero Go.wp_at_succ
end Go.Proofs.YtoelilejohfglaaGreat
