/- The printed contracts' own words (print.sh's head text for NoticeReads). -/
import Derived.Test.YtgohhallpkknfaaDoorProg
import Derived.Below
import Derived.Deep.Draws
import Derived.Deep.AppendLies
import Derived.Maps.AppendAt
import Derived.OwnWalk
import Derived.Laws.BytesArg
import Derived.Laws.MakeOwn
import Derived.Laws.OwnMore
import Derived.Deep.OwnRows
import Derived.Tactics
import Derived.Lib.ConvBytes
import Derived.Laws.Slices
import Derived.WalkKit
import Derived.KernelRfl
import Derived.RowKit3
import Derived.Deep.LoopGhost
import Derived.Deep.QuietTactic
import Derived.BigQuiet
import Derived.WideLaws
import Derived.Deep.DeepCutAuto
import Derived.Deep.CutBlock
import Derived.Deep.RegionHeld3
import Derived.Laws.Rows
import Derived.Lib.AppendStr
import Derived.ArgAppend
import Derived.Laws.IdiomCopy
import Derived.OrdersHeld
import Derived.Laws.BitsLemmas
import Derived.RowKit
import Derived.Test.YtgohhallpkknfaaDoorWWords
import Derived.Test.YtgohhallpkknfaaDoorWLast
import Derived.Test.YtgohhallpkknfaaDoorWTab
import Derived.Test.YtgohhallpkknfaaDoorWFour
import Derived.Test.YtgohhallpkknfaaDoorWQPut
import Derived.Test.YtgohhallpkknfaaDoorWApart
import Derived.Test.YtgohhallpkknfaaDoorWArr
import Derived.Test.YtgohhallpkknfaaDoorWZeros
import Derived.Test.YtgohhallpkknfaaDoorWFoot
import Derived.Test.YtgohhallpkknfaaDoorWKept
import Derived.Test.YtgohhallpkknfaaDoorWShare
import Derived.Test.YtgohhallpkknfaaDoorWN
import Derived.Test.YtgohhallpkknfaaDoorWFootNe
import Derived.Test.YtgohhallpkknfaaDoorWAt
import Derived.Test.YtgohhallpkknfaaDoorWEqStruct
import Derived.Test.YtgohhallpkknfaaDoorWRepsOne
import Derived.Test.YtgohhallpkknfaaDoorWInv
import Derived.Test.YtgohhallpkknfaaDoorWInvWords
import Derived.Test.YtgohhallpkknfaaDoorWGuard
import Derived.Test.YtgohhallpkknfaaDoorWNEv
import Derived.Test.YtgohhallpkknfaaDoorWMore
namespace Go.Proofs.YtgohhallpkknfaaDoor.PNoticeReads
open Go.RowKit Go.Proofs.YtgohhallpkknfaaDoorW.PrintWords Go.Proofs.YtgohhallpkknfaaDoorW.PrintLast Go.Proofs.YtgohhallpkknfaaDoorW.PrintMore
attribute [local go_sem] max2_int min2_int max_two min_two max_three min_three max_four min_four   -- for this text's walks alone
set_option linter.unusedVariables false
set_option linter.unusedSimpArgs false



def errW : Option Int → Value
  | none => .nilIface
  | some c => .iface 86 (.int .i64 c)
theorem errW_none : errW none = .nilIface := rfl
theorem errW_some (c : Int) : errW (some c) = .iface 86 (.int .i64 c) := rfl

theorem info3 : (Tryd.prog.info? 3).map (fun i => (i.zero, i.size, i.bytes)) = some (some (.int .i64 0), 1, 8) := by kernel_rfl
-- the values' own types

end Go.Proofs.YtgohhallpkknfaaDoor.PNoticeReads
