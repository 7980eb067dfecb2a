-- PRINTED BY print.sh 35421559b90ae4d0a3588c463048766b98c2df88dd9212a6774a882060cdf62d: not written by this session
import Derived.Test.YtcjbiepdggibaaaProg
import Derived.Below
import Derived.Deep.Draws
import Derived.Deep.AppendLies
import Derived.Maps.AppendAt
import Derived.OwnWalk
import Derived.Laws.BytesArg
import Derived.Laws.MakeOwn
import Derived.Laws.OwnMore
import Derived.Deep.OwnRows
import Derived.Tactics
import Derived.Lib.ConvBytes
import Derived.Laws.Slices
import Derived.WalkKit
import Derived.KernelRfl
import Derived.RowKit3
import Derived.Deep.LoopGhost
import Derived.Deep.QuietTactic
import Derived.BigQuiet
import Derived.WideLaws
import Derived.Deep.DeepCutAuto
import Derived.Deep.CutBlock
import Derived.Deep.RegionHeld3
import Derived.Laws.Rows
import Derived.Lib.AppendStr
import Derived.ArgAppend
import Derived.Laws.IdiomCopy
import Derived.OrdersHeld
import Derived.Laws.BitsLemmas
import Derived.RowKit
import Derived.Test.YtcjbiepdggibaaaWWords
import Derived.Test.YtcjbiepdggibaaaWLast
import Derived.Test.YtcjbiepdggibaaaWTab
import Derived.Test.YtcjbiepdggibaaaWFour
import Derived.Test.YtcjbiepdggibaaaWQPut
import Derived.Test.YtcjbiepdggibaaaWApart
import Derived.Test.YtcjbiepdggibaaaWArr
import Derived.Test.YtcjbiepdggibaaaWZeros
import Derived.Test.YtcjbiepdggibaaaWFoot
import Derived.Test.YtcjbiepdggibaaaWKept
import Derived.Test.YtcjbiepdggibaaaWShare
import Derived.Test.YtcjbiepdggibaaaWN
import Derived.Test.YtcjbiepdggibaaaWFootNe
import Derived.Test.YtcjbiepdggibaaaWAt
import Derived.Test.YtcjbiepdggibaaaWEqStruct
import Derived.Test.YtcjbiepdggibaaaWRepsOne
import Derived.Test.YtcjbiepdggibaaaWInv
import Derived.Test.YtcjbiepdggibaaaWInvWords
import Derived.Test.YtcjbiepdggibaaaWGuard
import Derived.Test.YtcjbiepdggibaaaWNEv
import Derived.Test.YtcjbiepdggibaaaWMore
namespace Go.Proofs.Ytcjbiepdggibaaa.PGf8Names
open Go.RowKit Go.Proofs.YtcjbiepdggibaaaW.PrintWords Go.Proofs.YtcjbiepdggibaaaW.PrintLast Go.Proofs.YtcjbiepdggibaaaW.PrintMore
attribute [local go_sem] max2_int min2_int max_two min_two max_three min_three max_four min_four   -- for this text's walks alone
set_option linter.unusedVariables false
set_option linter.unusedSimpArgs false



def errW : Option Int → Value
  | none => .nilIface
  | some c => .iface 0 (.int .i64 c)
theorem errW_none : errW none = .nilIface := rfl
theorem errW_some (c : Int) : errW (some c) = .iface 0 (.int .i64 c) := rfl

-- the values' own types

end Go.Proofs.Ytcjbiepdggibaaa.PGf8Names
