/- Functions of the program as plain Lean functions, and that their calls come to these: written by a program of this session. Conditions: what each theorem asks. -/
import Derived.Test.YtgpeppnbgfdaaaaDoorProg
import Derived.Below
import Derived.Deep.Draws
import Derived.Deep.AppendLies
import Derived.Maps.AppendAt
import Derived.OwnWalk
import Derived.Laws.BytesArg
import Derived.Laws.MakeOwn
import Derived.Laws.OwnMore
import Derived.Deep.OwnRows
import Derived.Tactics
import Derived.Lib.ConvBytes
import Derived.Laws.Slices
import Derived.WalkKit
import Derived.KernelRfl
import Derived.RowKit3
import Derived.Deep.LoopGhost
import Derived.Deep.QuietTactic
import Derived.BigQuiet
import Derived.WideLaws
import Derived.Deep.DeepCutAuto
import Derived.Deep.CutBlock
import Derived.Deep.RegionHeld3
import Derived.Laws.Rows
import Derived.Lib.AppendStr
import Derived.ArgAppend
import Derived.Laws.IdiomCopy
import Derived.OrdersHeld
import Derived.Laws.BitsLemmas
import Derived.RowKit
import Derived.Test.YtgpeppnbgfdaaaaDoorWWords
import Derived.Test.YtgpeppnbgfdaaaaDoorWLast
import Derived.Test.YtgpeppnbgfdaaaaDoorWTab
import Derived.Test.YtgpeppnbgfdaaaaDoorWFour
import Derived.Test.YtgpeppnbgfdaaaaDoorWQPut
import Derived.Test.YtgpeppnbgfdaaaaDoorWApart
import Derived.Test.YtgpeppnbgfdaaaaDoorWArr
import Derived.Test.YtgpeppnbgfdaaaaDoorWZeros
import Derived.Test.YtgpeppnbgfdaaaaDoorWFoot
import Derived.Test.YtgpeppnbgfdaaaaDoorWKept
import Derived.Test.YtgpeppnbgfdaaaaDoorWShare
import Derived.Test.YtgpeppnbgfdaaaaDoorWN
import Derived.Test.YtgpeppnbgfdaaaaDoorWFootNe
import Derived.Test.YtgpeppnbgfdaaaaDoorWAt
import Derived.Test.YtgpeppnbgfdaaaaDoorWEqStruct
import Derived.Test.YtgpeppnbgfdaaaaDoorWRepsOne
import Derived.Test.YtgpeppnbgfdaaaaDoorWInv
import Derived.Test.YtgpeppnbgfdaaaaDoorWInvWords
import Derived.Test.YtgpeppnbgfdaaaaDoorWGuard
import Derived.Test.YtgpeppnbgfdaaaaDoorWNEv
import Derived.Test.YtgpeppnbgfdaaaaDoorWMore
namespace Go.Proofs.YtgpeppnbgfdaaaaDoor.M
open Go.RowKit  Go.Proofs.YtgpeppnbgfdaaaaDoorW.PrintWords Go.Proofs.YtgpeppnbgfdaaaaDoorW.PrintLast Go.Proofs.YtgpeppnbgfdaaaaDoorW.PrintMore
attribute [local go_sem] max2_int min2_int max_two min_two max_three min_three max_four min_four   -- for this text's walks alone
set_option linter.unusedVariables false
set_option linter.unusedSimpArgs false



def errW : Option Int → Value
  | none => .nilIface
  | some c => .iface 0 (.int .i64 c)
theorem errW_none : errW none = .nilIface := rfl
theorem errW_some (c : Int) : errW (some c) = .iface 0 (.int .i64 c) := rfl

theorem info2 : (Tryd.prog.info? 2).map (fun i => (i.zero, i.size, i.bytes)) = some (some (.int .i64 0), 1, 8) := by kernel_rfl
-- the values' own types

end Go.Proofs.YtgpeppnbgfdaaaaDoor.M
