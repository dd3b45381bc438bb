/- For any row of bytes, number, text, place and limit, VarintTells answers true: what is written and read is what the reference writes and reads; no condition. -/
import Derived.Test.YtddgichochdgcaaPureVarint
namespace Go.Proofs.Ytddgichochdgcaa.Pure
theorem VarintTells : Go.Proofs.Ytddgichochdgcaa.PM.bordereaulaw2_VarintTells.Pure := Go.Proofs.Ytddgichochdgcaa.VarPure.tells
end Go.Proofs.Ytddgichochdgcaa.Pure
