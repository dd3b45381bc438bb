/- The closed facts of TopFenced. -/
import Derived.Test.YtheaccppdikjgaaGreatDoorRows
import Derived.ChangeSame
import Derived.ChangeVars
import Derived.JoinedOf
import Derived.LaidLaws
import Derived.LaidHandle
import Derived.LaidMore
import Derived.Stop.Joined
import Derived.SevenTiedAt
import Derived.WalkKit
import Derived.ProofKit
import Derived.OpenShut
import Derived.ShutString
import Derived.ChangeOld
import Derived.Below
import Derived.SizedLaws
namespace Go.Proofs.YtheaccppdikjgaaGreatDoor.topFenced
open Go.ChangeShapes Go.WideShapes Go.ChangeAt Go.RowKit
theorem facts : joinedFacts Tryz.prog 6 Tryz.f6 Rows.topFencedSpec Rows.topFencedRow = true := by kernel_rfl
end Go.Proofs.YtheaccppdikjgaaGreatDoor.topFenced
