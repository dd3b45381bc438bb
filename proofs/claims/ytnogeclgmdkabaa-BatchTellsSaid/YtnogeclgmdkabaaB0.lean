import Derived.Test.YtnogeclgmdkabaaBC
set_option linter.unusedVariables false
set_option linter.unusedSimpArgs false
namespace Go.Abs
open Go Go.RowKit
set_option maxRecDepth 100000 in
theorem known_ok : callN tbl ext1 90 n_law6_known [] [] = some (.bool true, []) := by kernel_rfl
theorem known_spec (H : Heap) : W n_law6_known [] H = some (.bool true, H) := W_law6_known_of (callW_of known_ok)
end Go.Abs
