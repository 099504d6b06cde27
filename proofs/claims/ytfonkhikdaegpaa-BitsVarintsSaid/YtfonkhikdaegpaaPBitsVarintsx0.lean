/- Functions of the given program told as plain Lean functions, and that the code does what they tell: written by a program of this session over the print of the kit, with some contracts proved by hand. Conditions: those typed at each theorem. -/
import Derived.Test.YtfonkhikdaegpaaProg
import Derived.Below
import Derived.Deep.Draws
import Derived.Deep.AppendLies
import Derived.Maps.AppendAt
import Derived.OwnWalk
import Derived.Laws.BytesArg
import Derived.Laws.MakeOwn
import Derived.Laws.OwnMore
import Derived.Deep.OwnRows
import Derived.Tactics
import Derived.Lib.ConvBytes
import Derived.Laws.Slices
import Derived.WalkKit
import Derived.KernelRfl
import Derived.RowKit3
import Derived.Deep.LoopGhost
import Derived.Deep.QuietTactic
import Derived.BigQuiet
import Derived.WideLaws
import Derived.Deep.DeepCutAuto
import Derived.Deep.CutBlock
import Derived.Deep.RegionHeld3
import Derived.Laws.Rows
import Derived.Lib.AppendStr
import Derived.ArgAppend
import Derived.Laws.IdiomCopy
import Derived.OrdersHeld
import Derived.Laws.BitsLemmas
import Derived.RowKit
import Derived.LaidEql
import Derived.Stop.Asserts
import Derived.Lib.IfaceEq
import Derived.RowKitTokens
import Derived.Lib.Hide
import Derived.LoopTactic
import Derived.Test.YtfonkhikdaegpaaWWords
import Derived.Test.YtfonkhikdaegpaaWLast
import Derived.Test.YtfonkhikdaegpaaWTab
import Derived.Test.YtfonkhikdaegpaaWFour
import Derived.Test.YtfonkhikdaegpaaWQPut
import Derived.Test.YtfonkhikdaegpaaWApart
import Derived.Test.YtfonkhikdaegpaaWArr
import Derived.Test.YtfonkhikdaegpaaWZeros
import Derived.Test.YtfonkhikdaegpaaWFoot
import Derived.Test.YtfonkhikdaegpaaWKept
import Derived.Test.YtfonkhikdaegpaaWShare
import Derived.Test.YtfonkhikdaegpaaWN
import Derived.Test.YtfonkhikdaegpaaWFootNe
import Derived.Test.YtfonkhikdaegpaaWAt
import Derived.Test.YtfonkhikdaegpaaWEqStruct
import Derived.Test.YtfonkhikdaegpaaWRepsOne
import Derived.Test.YtfonkhikdaegpaaWInv
import Derived.Test.YtfonkhikdaegpaaWInvWords
import Derived.Test.YtfonkhikdaegpaaWGuard
import Derived.Test.YtfonkhikdaegpaaWNEv
import Derived.Test.YtfonkhikdaegpaaWMore
namespace Go.Proofs.Ytfonkhikdaegpaa.PBitsVarints
open Go.RowKit Go.Proofs.YtfonkhikdaegpaaW.PrintWords Go.Proofs.YtfonkhikdaegpaaW.PrintLast Go.Proofs.YtfonkhikdaegpaaW.PrintMore
attribute [local go_sem] max2_int min2_int max_two min_two max_three min_three max_four min_four   -- for this text's walks alone
set_option linter.unusedVariables false
set_option linter.unusedSimpArgs false



def errW : Option Int → Value
  | none => .nilIface
  | some c => .iface 51 (.int .i64 c)
theorem errW_none : errW none = .nilIface := rfl
theorem errW_some (c : Int) : errW (some c) = .iface 51 (.int .i64 c) := rfl

theorem info5 : (Try.prog.info? 5).map (fun i => (i.zero, i.size, i.bytes)) = some (some (.int .u8 0), 1, 1) := by kernel_rfl
theorem info22 : (Try.prog.info? 22).map (fun i => (i.zero, i.size, i.bytes)) = some (some (.int .u64 0), 1, 8) := by kernel_rfl
-- the values' own types

end Go.Proofs.Ytfonkhikdaegpaa.PBitsVarints
