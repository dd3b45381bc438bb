/- For any row of bytes, place and turn, CrcTurns answers true: with up to 32 bits side by side turned a row has another sum; no condition. -/
import Derived.Test.YtddgichochdgcaaPureCrcT
namespace Go.Proofs.Ytddgichochdgcaa.Pure
theorem CrcTurns : Go.Proofs.Ytddgichochdgcaa.PT.bordereaulaw1_CrcTurns.Pure := Go.Proofs.Ytddgichochdgcaa.CrcPureT.turns
end Go.Proofs.Ytddgichochdgcaa.Pure
