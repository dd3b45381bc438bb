/- The closed facts of TopOrder. -/
import Derived.Test.YtheaccppdikjgaaGreatDoorRows
import Derived.ChangeSame
import Derived.ChangeVars
import Derived.JoinedOf
import Derived.LaidLaws
import Derived.LaidHandle
import Derived.LaidMore
import Derived.Stop.Joined
import Derived.SevenTiedAt
import Derived.WalkKit
import Derived.ProofKit
import Derived.OpenShut
import Derived.ShutString
import Derived.ChangeOld
import Derived.Below
import Derived.SizedLaws
namespace Go.Proofs.YtheaccppdikjgaaGreatDoor.topOrder
open Go.ChangeShapes Go.WideShapes Go.ChangeAt Go.RowKit
theorem facts : joinedFacts Tryz.prog 4 Tryz.f4 Rows.topOrderSpec Rows.topOrderRow = true := by kernel_rfl
end Go.Proofs.YtheaccppdikjgaaGreatDoor.topOrder
