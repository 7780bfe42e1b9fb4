-- Written by a program of this session (gprint.py, over the kit's print). Not trusted: Lean checks it.
import Derived.Test.YticeddapnafomaaDoorProg
import Derived.Below
import Derived.Deep.Draws
import Derived.Deep.AppendLies
import Derived.Maps.AppendAt
import Derived.OwnWalk
import Derived.Laws.BytesArg
import Derived.Laws.MakeOwn
import Derived.Laws.OwnMore
import Derived.Deep.OwnRows
import Derived.Tactics
import Derived.Lib.ConvBytes
import Derived.Laws.Slices
import Derived.WalkKit
import Derived.KernelRfl
import Derived.RowKit3
import Derived.Deep.LoopGhost
import Derived.Deep.QuietTactic
import Derived.BigQuiet
import Derived.WideLaws
import Derived.Deep.DeepCutAuto
import Derived.Deep.CutBlock
import Derived.Deep.RegionHeld3
import Derived.Laws.Rows
import Derived.Lib.AppendStr
import Derived.ArgAppend
import Derived.Laws.IdiomCopy
import Derived.OrdersHeld
import Derived.Laws.BitsLemmas
import Derived.RowKit
import Derived.Test.YticeddapnafomaaDoorWWords
import Derived.Test.YticeddapnafomaaDoorWLast
import Derived.Test.YticeddapnafomaaDoorWTab
import Derived.Test.YticeddapnafomaaDoorWFour
import Derived.Test.YticeddapnafomaaDoorWQPut
import Derived.Test.YticeddapnafomaaDoorWApart
import Derived.Test.YticeddapnafomaaDoorWArr
import Derived.Test.YticeddapnafomaaDoorWZeros
import Derived.Test.YticeddapnafomaaDoorWFoot
import Derived.Test.YticeddapnafomaaDoorWKept
import Derived.Test.YticeddapnafomaaDoorWShare
import Derived.Test.YticeddapnafomaaDoorWN
import Derived.Test.YticeddapnafomaaDoorWFootNe
import Derived.Test.YticeddapnafomaaDoorWAt
import Derived.Test.YticeddapnafomaaDoorWEqStruct
import Derived.Test.YticeddapnafomaaDoorWRepsOne
import Derived.Test.YticeddapnafomaaDoorWInv
import Derived.Test.YticeddapnafomaaDoorWInvWords
import Derived.Test.YticeddapnafomaaDoorWGuard
import Derived.Test.YticeddapnafomaaDoorWNEv
import Derived.Test.YticeddapnafomaaDoorWMore
namespace Go.Proofs.YticeddapnafomaaDoor.PE
open Go.RowKit Go.Proofs.YticeddapnafomaaDoorW.PrintWords Go.Proofs.YticeddapnafomaaDoorW.PrintLast Go.Proofs.YticeddapnafomaaDoorW.PrintMore
attribute [local go_sem] max2_int min2_int max_two min_two max_three min_three max_four min_four   -- for this text's walks alone
set_option linter.unusedVariables false
set_option linter.unusedSimpArgs false
def errW : Option Int → Value
  | none => .nilIface
  | some c => .iface 0 (.int .i64 c)
theorem errW_none : errW none = .nilIface := rfl
theorem errW_some (c : Int) : errW (some c) = .iface 0 (.int .i64 c) := rfl
theorem info2 : (Tryd.prog.info? 2).map (fun i => (i.zero, i.size, i.bytes)) = some (some (.int .i64 0), 1, 8) := by kernel_rfl
theorem info5 : (Tryd.prog.info? 5).map (fun i => (i.zero, i.size, i.bytes)) = some (some (.int .u8 0), 1, 1) := by kernel_rfl
structure S24 where
  f0 : Int
  f1 : Int
  f2 : Int
structure S26 where
  f0 : Bool
  f1 : S24
structure S34 where
  f0 : Int
  f1 : (List Int)
structure S36 where
  f0 : Bool
  f1 : S34
structure S67 where
  f0 : Int
  f1 : Bool
structure S43 where
  f0 : Int
  f1 : (List S67)
structure S45 where
  f0 : Bool
  f1 : S43
end Go.Proofs.YticeddapnafomaaDoor.PE
