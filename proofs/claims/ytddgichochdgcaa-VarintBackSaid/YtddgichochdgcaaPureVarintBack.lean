/- For any number, text and row of bytes, VarintBack answers true: what is put is got, whatever stands behind it; no condition. -/
import Derived.Test.YtddgichochdgcaaPureVarint
namespace Go.Proofs.Ytddgichochdgcaa.Pure
theorem VarintBack : Go.Proofs.Ytddgichochdgcaa.PM.bordereaulaw2_VarintBack.Pure := Go.Proofs.Ytddgichochdgcaa.VarPure.back
end Go.Proofs.Ytddgichochdgcaa.Pure
