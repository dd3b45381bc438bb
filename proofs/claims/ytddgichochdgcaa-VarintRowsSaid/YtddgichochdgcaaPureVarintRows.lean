/- For any row of numbers and any place, VarintRows answers true: numbers in a row are got one by one, small ones take one byte; no condition. -/
import Derived.Test.YtddgichochdgcaaPureVarint
namespace Go.Proofs.Ytddgichochdgcaa.Pure
theorem VarintRows : Go.Proofs.Ytddgichochdgcaa.PM.bordereaulaw2_VarintRows.Pure := Go.Proofs.Ytddgichochdgcaa.VarPure.rows
end Go.Proofs.Ytddgichochdgcaa.Pure
