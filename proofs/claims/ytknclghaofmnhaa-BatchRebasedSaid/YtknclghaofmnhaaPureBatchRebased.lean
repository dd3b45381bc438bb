/- For any two tapes and any base BatchRebased answers true: at another base a batch is the same, but for its base; two that are not the same have not the same bytes; no condition. -/
import Derived.Test.YtknclghaofmnhaaPureBatch
namespace Go.Proofs.Ytknclghaofmnhaa.Pure
theorem BatchRebased : Go.Proofs.Ytknclghaofmnhaa.PBR.bordereaulaw6_BatchRebased.Pure := Go.Proofs.Ytknclghaofmnhaa.BB.rebased
end Go.Proofs.Ytknclghaofmnhaa.Pure
