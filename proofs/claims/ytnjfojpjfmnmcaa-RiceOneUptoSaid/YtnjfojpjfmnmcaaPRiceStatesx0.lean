-- PRINTED BY print.sh 35421559b90ae4d0a3588c463048766b98c2df88dd9212a6774a882060cdf62d: not written by this session
import Derived.Test.YtnjfojpjfmnmcaaProg
import Derived.Below
import Derived.Deep.Draws
import Derived.Deep.AppendLies
import Derived.Maps.AppendAt
import Derived.OwnWalk
import Derived.Laws.BytesArg
import Derived.Laws.MakeOwn
import Derived.Laws.OwnMore
import Derived.Deep.OwnRows
import Derived.Tactics
import Derived.Lib.ConvBytes
import Derived.Laws.Slices
import Derived.WalkKit
import Derived.KernelRfl
import Derived.RowKit3
import Derived.Deep.LoopGhost
import Derived.Deep.QuietTactic
import Derived.BigQuiet
import Derived.WideLaws
import Derived.Deep.DeepCutAuto
import Derived.Deep.CutBlock
import Derived.Deep.RegionHeld3
import Derived.Laws.Rows
import Derived.Lib.AppendStr
import Derived.ArgAppend
import Derived.Laws.IdiomCopy
import Derived.OrdersHeld
import Derived.Laws.BitsLemmas
import Derived.RowKit
import Derived.Test.YtnjfojpjfmnmcaaWWords
import Derived.Test.YtnjfojpjfmnmcaaWLast
import Derived.Test.YtnjfojpjfmnmcaaWTab
import Derived.Test.YtnjfojpjfmnmcaaWFour
import Derived.Test.YtnjfojpjfmnmcaaWQPut
import Derived.Test.YtnjfojpjfmnmcaaWApart
import Derived.Test.YtnjfojpjfmnmcaaWArr
import Derived.Test.YtnjfojpjfmnmcaaWZeros
import Derived.Test.YtnjfojpjfmnmcaaWFoot
import Derived.Test.YtnjfojpjfmnmcaaWKept
import Derived.Test.YtnjfojpjfmnmcaaWShare
import Derived.Test.YtnjfojpjfmnmcaaWN
import Derived.Test.YtnjfojpjfmnmcaaWFootNe
import Derived.Test.YtnjfojpjfmnmcaaWAt
import Derived.Test.YtnjfojpjfmnmcaaWEqStruct
import Derived.Test.YtnjfojpjfmnmcaaWRepsOne
import Derived.Test.YtnjfojpjfmnmcaaWInv
import Derived.Test.YtnjfojpjfmnmcaaWInvWords
import Derived.Test.YtnjfojpjfmnmcaaWGuard
import Derived.Test.YtnjfojpjfmnmcaaWNEv
import Derived.Test.YtnjfojpjfmnmcaaWMore
namespace Go.Proofs.Ytnjfojpjfmnmcaa.PRiceStates
open Go.RowKit Go.Proofs.YtnjfojpjfmnmcaaW.PrintWords Go.Proofs.YtnjfojpjfmnmcaaW.PrintLast Go.Proofs.YtnjfojpjfmnmcaaW.PrintMore
attribute [local go_sem] max2_int min2_int max_two min_two max_three min_three max_four min_four   -- for this text's walks alone
set_option linter.unusedVariables false
set_option linter.unusedSimpArgs false



def errW : Option Int → Value
  | none => .nilIface
  | some c => .iface 0 (.int .i64 c)
theorem errW_none : errW none = .nilIface := rfl
theorem errW_some (c : Int) : errW (some c) = .iface 0 (.int .i64 c) := rfl

theorem info3 : (Try.prog.info? 3).map (fun i => (i.zero, i.size, i.bytes)) = some (some (.int .i64 0), 1, 8) := by kernel_rfl
-- the values' own types

end Go.Proofs.Ytnjfojpjfmnmcaa.PRiceStates
