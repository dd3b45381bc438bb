/- The closed run CrcNumbers answers true: no condition. -/
import Derived.Test.YtddgichochdgcaaPureCrc
namespace Go.Proofs.Ytddgichochdgcaa.Pure
theorem CrcNumbers : Go.Proofs.Ytddgichochdgcaa.PD.bordereaulaw1_CrcNumbers.Pure := Go.Proofs.Ytddgichochdgcaa.CrcPure.numbers
end Go.Proofs.Ytddgichochdgcaa.Pure
