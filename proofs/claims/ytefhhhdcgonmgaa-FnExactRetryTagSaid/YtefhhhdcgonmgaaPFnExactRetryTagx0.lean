-- Written by a program of this seat (hprint.py), by way of the kit's print. Lean checks it.
import Derived.Test.YtefhhhdcgonmgaaProg
import Derived.Below
import Derived.Deep.Draws
import Derived.Deep.AppendLies
import Derived.Maps.AppendAt
import Derived.OwnWalk
import Derived.Laws.BytesArg
import Derived.Laws.MakeOwn
import Derived.Laws.OwnMore
import Derived.Deep.OwnRows
import Derived.Tactics
import Derived.Lib.ConvBytes
import Derived.Laws.Slices
import Derived.WalkKit
import Derived.KernelRfl
import Derived.RowKit3
import Derived.Deep.LoopGhost
import Derived.Deep.QuietTactic
import Derived.BigQuiet
import Derived.WideLaws
import Derived.Deep.DeepCutAuto
import Derived.Deep.CutBlock
import Derived.Deep.RegionHeld3
import Derived.Laws.Rows
import Derived.Lib.AppendStr
import Derived.ArgAppend
import Derived.Laws.IdiomCopy
import Derived.OrdersHeld
import Derived.Laws.BitsLemmas
import Derived.RowKit
import Derived.Test.YtefhhhdcgonmgaaWWords
import Derived.Test.YtefhhhdcgonmgaaWLast
import Derived.Test.YtefhhhdcgonmgaaWTab
import Derived.Test.YtefhhhdcgonmgaaWFour
import Derived.Test.YtefhhhdcgonmgaaWQPut
import Derived.Test.YtefhhhdcgonmgaaWApart
import Derived.Test.YtefhhhdcgonmgaaWArr
import Derived.Test.YtefhhhdcgonmgaaWZeros
import Derived.Test.YtefhhhdcgonmgaaWFoot
import Derived.Test.YtefhhhdcgonmgaaWKept
import Derived.Test.YtefhhhdcgonmgaaWShare
import Derived.Test.YtefhhhdcgonmgaaWN
import Derived.Test.YtefhhhdcgonmgaaWFootNe
import Derived.Test.YtefhhhdcgonmgaaWAt
import Derived.Test.YtefhhhdcgonmgaaWEqStruct
import Derived.Test.YtefhhhdcgonmgaaWRepsOne
import Derived.Test.YtefhhhdcgonmgaaWInv
import Derived.Test.YtefhhhdcgonmgaaWInvWords
import Derived.Test.YtefhhhdcgonmgaaWGuard
import Derived.Test.YtefhhhdcgonmgaaWNEv
import Derived.Test.YtefhhhdcgonmgaaWMore
namespace Go.Proofs.Ytefhhhdcgonmgaa.PFnExactRetryTag
open Go.RowKit Go.Proofs.YtefhhhdcgonmgaaW.PrintWords Go.Proofs.YtefhhhdcgonmgaaW.PrintLast Go.Proofs.YtefhhhdcgonmgaaW.PrintMore
attribute [local go_sem] max2_int min2_int max_two min_two max_three min_three max_four min_four   -- for this text's walks alone
set_option linter.unusedVariables false
set_option linter.unusedSimpArgs false



def errW : Option Int → Value
  | none => .nilIface
  | some c => .iface 0 (.int .i64 c)
theorem errW_none : errW none = .nilIface := rfl
theorem errW_some (c : Int) : errW (some c) = .iface 0 (.int .i64 c) := rfl

theorem info5 : (Try.prog.info? 5).map (fun i => (i.zero, i.size, i.bytes)) = some (some (.int .u8 0), 1, 1) := by kernel_rfl
-- the values' own types

end Go.Proofs.Ytefhhhdcgonmgaa.PFnExactRetryTag
