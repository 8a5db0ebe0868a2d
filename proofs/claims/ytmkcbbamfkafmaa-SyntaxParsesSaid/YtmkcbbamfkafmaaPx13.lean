import Derived.Test.YtmkcbbamfkafmaaPx0
import Derived.Test.YtmkcbbamfkafmaaPx1
-- Written by a program of this project (wip/xp over the words of the print), not by hand.
namespace Go.Proofs.Ytmkcbbamfkafmaa.P
open Go.RowKit Go.Proofs.YtmkcbbamfkafmaaW.PrintWords Go.Proofs.YtmkcbbamfkafmaaW.PrintLast Go.Proofs.YtmkcbbamfkafmaaW.PrintMore
attribute [local go_sem] max2_int min2_int max_two min_two max_three min_three max_four min_four   -- for this text's walks alone
set_option linter.unusedVariables false
set_option linter.unusedSimpArgs false

attribute [local go_sem high] eqA25
/-! ### ostinatoref02_Formed: function 19 -/
end Go.Proofs.Ytmkcbbamfkafmaa.P
