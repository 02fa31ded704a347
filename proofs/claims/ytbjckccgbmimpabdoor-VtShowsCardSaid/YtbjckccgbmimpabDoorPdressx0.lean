-- PRINTED BY print.sh 35421559b90ae4d0a3588c463048766b98c2df88dd9212a6774a882060cdf62d: not written by this session
import Derived.Test.YtbjckccgbmimpabDoorProg
import Derived.Below
import Derived.Deep.Draws
import Derived.Deep.AppendLies
import Derived.Maps.AppendAt
import Derived.OwnWalk
import Derived.Laws.BytesArg
import Derived.Laws.MakeOwn
import Derived.Laws.OwnMore
import Derived.Deep.OwnRows
import Derived.Tactics
import Derived.Lib.ConvBytes
import Derived.Laws.Slices
import Derived.WalkKit
import Derived.KernelRfl
import Derived.RowKit3
import Derived.Deep.LoopGhost
import Derived.Deep.QuietTactic
import Derived.BigQuiet
import Derived.WideLaws
import Derived.Deep.DeepCutAuto
import Derived.Deep.CutBlock
import Derived.Deep.RegionHeld3
import Derived.Laws.Rows
import Derived.Lib.AppendStr
import Derived.ArgAppend
import Derived.Laws.IdiomCopy
import Derived.OrdersHeld
import Derived.Laws.BitsLemmas
import Derived.RowKit
import Derived.Test.YtbjckccgbmimpabDoorWWords
import Derived.Test.YtbjckccgbmimpabDoorWLast
import Derived.Test.YtbjckccgbmimpabDoorWTab
import Derived.Test.YtbjckccgbmimpabDoorWFour
import Derived.Test.YtbjckccgbmimpabDoorWQPut
import Derived.Test.YtbjckccgbmimpabDoorWApart
import Derived.Test.YtbjckccgbmimpabDoorWArr
import Derived.Test.YtbjckccgbmimpabDoorWZeros
import Derived.Test.YtbjckccgbmimpabDoorWFoot
import Derived.Test.YtbjckccgbmimpabDoorWKept
import Derived.Test.YtbjckccgbmimpabDoorWShare
import Derived.Test.YtbjckccgbmimpabDoorWN
import Derived.Test.YtbjckccgbmimpabDoorWFootNe
import Derived.Test.YtbjckccgbmimpabDoorWAt
import Derived.Test.YtbjckccgbmimpabDoorWEqStruct
import Derived.Test.YtbjckccgbmimpabDoorWRepsOne
import Derived.Test.YtbjckccgbmimpabDoorWInv
import Derived.Test.YtbjckccgbmimpabDoorWInvWords
import Derived.Test.YtbjckccgbmimpabDoorWGuard
import Derived.Test.YtbjckccgbmimpabDoorWNEv
import Derived.Test.YtbjckccgbmimpabDoorWMore
namespace Go.Proofs.YtbjckccgbmimpabDoor.Pdress
open Go.RowKit Go.Proofs.YtbjckccgbmimpabDoorW.PrintWords Go.Proofs.YtbjckccgbmimpabDoorW.PrintLast Go.Proofs.YtbjckccgbmimpabDoorW.PrintMore
attribute [local go_sem] max2_int min2_int max_two min_two max_three min_three max_four min_four   -- for this text's walks alone
set_option linter.unusedVariables false
set_option linter.unusedSimpArgs false



def errW : Option Int → Value
  | none => .nilIface
  | some c => .iface 0 (.int .i64 c)
theorem errW_none : errW none = .nilIface := rfl
theorem errW_some (c : Int) : errW (some c) = .iface 0 (.int .i64 c) := rfl

theorem info9 : (Tryd.prog.info? 9).map (fun i => (i.zero, i.size, i.bytes)) = some (some (.string ⟨#[]⟩), 1, 16) := by kernel_rfl
-- the values' own types

end Go.Proofs.YtbjckccgbmimpabDoor.Pdress
