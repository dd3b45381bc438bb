/- The closed facts of TopOnce. -/
import Derived.Test.YtheaccppdikjgaaGreatDoorRows
import Derived.ChangeSame
import Derived.ChangeVars
import Derived.JoinedOf
import Derived.LaidLaws
import Derived.LaidHandle
import Derived.LaidMore
import Derived.Stop.Joined
import Derived.SevenTiedAt
import Derived.WalkKit
import Derived.ProofKit
import Derived.OpenShut
import Derived.ShutString
import Derived.ChangeOld
import Derived.Below
import Derived.SizedLaws
namespace Go.Proofs.YtheaccppdikjgaaGreatDoor.topOnce
open Go.ChangeShapes Go.WideShapes Go.ChangeAt Go.RowKit
theorem facts : joinedFacts Tryz.prog 3 Tryz.f3 Rows.topOnceSpec Rows.topOnceRow = true := by kernel_rfl
end Go.Proofs.YtheaccppdikjgaaGreatDoor.topOnce
