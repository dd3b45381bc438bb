/- For any two numbers and row of bytes, VarintLongs answers true: eight bytes go as their numbers go; no condition. -/
import Derived.Test.YtddgichochdgcaaPureVarint
namespace Go.Proofs.Ytddgichochdgcaa.Pure
theorem VarintLongs : Go.Proofs.Ytddgichochdgcaa.PM.bordereaulaw2_VarintLongs.Pure := Go.Proofs.Ytddgichochdgcaa.VarPure.longs
end Go.Proofs.Ytddgichochdgcaa.Pure
