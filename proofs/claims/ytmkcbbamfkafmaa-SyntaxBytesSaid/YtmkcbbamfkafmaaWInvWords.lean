-- (less what this claim does not use: left out by wip/trim.py)
-- PRINTED BY print.sh 35421559b90ae4d0a3588c463048766b98c2df88dd9212a6774a882060cdf62d: not written by this session
import Derived.Test.YtmkcbbamfkafmaaWInv
import Derived.Test.YtmkcbbamfkafmaaWFootNe
namespace Go.Proofs.YtmkcbbamfkafmaaW.PrintWords
open Go.RowKit
end Go.Proofs.YtmkcbbamfkafmaaW.PrintWords
namespace Go.Proofs.YtmkcbbamfkafmaaW.PrintLast
section
variable {ops : Array Oper} {a : Act} {o og : Oper} {g : Nat} {t : Tmp} {u : Bool}
end
end Go.Proofs.YtmkcbbamfkafmaaW.PrintLast
