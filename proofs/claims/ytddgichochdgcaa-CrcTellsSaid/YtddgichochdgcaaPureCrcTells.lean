/- For any row of bytes, sum, byte, place and turn, CrcTells answers true: sums are what the reference says; no condition. -/
import Derived.Test.YtddgichochdgcaaPureCrc
namespace Go.Proofs.Ytddgichochdgcaa.Pure
theorem CrcTells : Go.Proofs.Ytddgichochdgcaa.PD.bordereaulaw1_CrcTells.Pure := Go.Proofs.Ytddgichochdgcaa.CrcPure.tells
end Go.Proofs.Ytddgichochdgcaa.Pure
