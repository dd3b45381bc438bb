-- Written by a program of this session (wip/print/myprint.sh).
import Derived.Test.YtddgichochdgcaaProg
import Derived.Below
import Derived.Deep.Draws
import Derived.Deep.AppendLies
import Derived.Maps.AppendAt
import Derived.OwnWalk
import Derived.Laws.BytesArg
import Derived.Laws.MakeOwn
import Derived.Laws.OwnMore
import Derived.Deep.OwnRows
import Derived.Tactics
import Derived.Lib.ConvBytes
import Derived.Laws.Slices
import Derived.WalkKit
import Derived.KernelRfl
import Derived.RowKit3
import Derived.Deep.LoopGhost
import Derived.Deep.QuietTactic
import Derived.BigQuiet
import Derived.WideLaws
import Derived.Deep.DeepCutAuto
import Derived.Deep.CutBlock
import Derived.Deep.RegionHeld3
import Derived.Laws.Rows
import Derived.Lib.AppendStr
import Derived.ArgAppend
import Derived.Laws.IdiomCopy
import Derived.OrdersHeld
import Derived.Laws.BitsLemmas
import Derived.RowKit
import Derived.WalkSpells
import Derived.Lib.SlBytesConst
import Derived.Test.YtddgichochdgcaaVWords
import Derived.Test.YtddgichochdgcaaVLast
import Derived.Test.YtddgichochdgcaaVTab
import Derived.Test.YtddgichochdgcaaVFour
import Derived.Test.YtddgichochdgcaaVQPut
import Derived.Test.YtddgichochdgcaaVApart
import Derived.Test.YtddgichochdgcaaVArr
import Derived.Test.YtddgichochdgcaaVZeros
import Derived.Test.YtddgichochdgcaaVFoot
import Derived.Test.YtddgichochdgcaaVKept
import Derived.Test.YtddgichochdgcaaVShare
import Derived.Test.YtddgichochdgcaaVN
import Derived.Test.YtddgichochdgcaaVFootNe
import Derived.Test.YtddgichochdgcaaVAt
import Derived.Test.YtddgichochdgcaaVEqStruct
import Derived.Test.YtddgichochdgcaaVRepsOne
import Derived.Test.YtddgichochdgcaaVInv
import Derived.Test.YtddgichochdgcaaVInvWords
import Derived.Test.YtddgichochdgcaaVGuard
import Derived.Test.YtddgichochdgcaaVNEv
import Derived.Test.YtddgichochdgcaaVMore
import Derived.Test.YtddgichochdgcaaVClip
import Derived.Test.YtddgichochdgcaaVKeep
import Derived.Test.YtddgichochdgcaaVShort
namespace Go.Proofs.Ytddgichochdgcaa.PM
open Go.RowKit Go.Proofs.YtddgichochdgcaaV.PrintWords Go.Proofs.YtddgichochdgcaaV.PrintLast Go.Proofs.YtddgichochdgcaaV.PrintMore
attribute [local go_sem] max2_int min2_int max_two min_two max_three min_three max_four min_four   -- for this text's walks alone
set_option linter.unusedVariables false
set_option linter.unusedSimpArgs false



def errW : Option Int → Value
  | none => .nilIface
  | some c => .iface 0 (.int .i64 c)
theorem errW_none : errW none = .nilIface := rfl
theorem errW_some (c : Int) : errW (some c) = .iface 0 (.int .i64 c) := rfl

theorem info5 : (Try.prog.info? 5).map (fun i => (i.zero, i.size, i.bytes)) = some (some (.int .u8 0), 1, 1) := by kernel_rfl
-- the values' own types

end Go.Proofs.Ytddgichochdgcaa.PM
