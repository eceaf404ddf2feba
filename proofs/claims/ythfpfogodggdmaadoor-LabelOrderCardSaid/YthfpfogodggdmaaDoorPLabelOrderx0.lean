-- PRINTED BY print.sh 35421559b90ae4d0a3588c463048766b98c2df88dd9212a6774a882060cdf62d: not written by this session
import Derived.Test.YthfpfogodggdmaaDoorProg
import Derived.Test.YthfpfogodggdmaaDoorBox
import Derived.Test.YthfpfogodggdmaaDoorShelfB
import Derived.Below
import Derived.Deep.Draws
import Derived.Deep.AppendLies
import Derived.Maps.AppendAt
import Derived.OwnWalk
import Derived.Laws.BytesArg
import Derived.Laws.MakeOwn
import Derived.Laws.OwnMore
import Derived.Deep.OwnRows
import Derived.Tactics
import Derived.Lib.ConvBytes
import Derived.Laws.Slices
import Derived.WalkKit
import Derived.KernelRfl
import Derived.RowKit3
import Derived.Deep.LoopGhost
import Derived.Deep.QuietTactic
import Derived.BigQuiet
import Derived.WideLaws
import Derived.Deep.DeepCutAuto
import Derived.Deep.CutBlock
import Derived.Deep.RegionHeld3
import Derived.Laws.Rows
import Derived.Lib.AppendStr
import Derived.ArgAppend
import Derived.Laws.IdiomCopy
import Derived.OrdersHeld
import Derived.Laws.BitsLemmas
import Derived.RowKit
import Derived.ChangeKeysEq
import Derived.Handy
import Derived.Test.YthfpfogodggdmaaDoorWWords
import Derived.Test.YthfpfogodggdmaaDoorWLast
import Derived.Test.YthfpfogodggdmaaDoorWTab
import Derived.Test.YthfpfogodggdmaaDoorWFour
import Derived.Test.YthfpfogodggdmaaDoorWQPut
import Derived.Test.YthfpfogodggdmaaDoorWApart
import Derived.Test.YthfpfogodggdmaaDoorWArr
import Derived.Test.YthfpfogodggdmaaDoorWZeros
import Derived.Test.YthfpfogodggdmaaDoorWFoot
import Derived.Test.YthfpfogodggdmaaDoorWKept
import Derived.Test.YthfpfogodggdmaaDoorWShare
import Derived.Test.YthfpfogodggdmaaDoorWN
import Derived.Test.YthfpfogodggdmaaDoorWFootNe
import Derived.Test.YthfpfogodggdmaaDoorWAt
import Derived.Test.YthfpfogodggdmaaDoorWEqStruct
import Derived.Test.YthfpfogodggdmaaDoorWRepsOne
import Derived.Test.YthfpfogodggdmaaDoorWInv
import Derived.Test.YthfpfogodggdmaaDoorWInvWords
import Derived.Test.YthfpfogodggdmaaDoorWGuard
import Derived.Test.YthfpfogodggdmaaDoorWNEv
import Derived.Test.YthfpfogodggdmaaDoorWMore
namespace Go.Proofs.YthfpfogodggdmaaDoor.PLabelOrder
open Go.RowKit Go.Proofs.YthfpfogodggdmaaDoorW.PrintWords Go.Proofs.YthfpfogodggdmaaDoorW.PrintLast Go.Proofs.YthfpfogodggdmaaDoorW.PrintMore Go.Proofs.YthfpfogodggdmaaDoorW.Box
attribute [local go_sem] max2_int min2_int max_two min_two max_three min_three max_four min_four   -- for this text's walks alone
set_option linter.unusedVariables false
set_option linter.unusedSimpArgs false



def errW : Option Int → Value
  | none => .nilIface
  | some c => .iface 0 (.int .i64 c)
theorem errW_none : errW none = .nilIface := rfl
theorem errW_some (c : Int) : errW (some c) = .iface 0 (.int .i64 c) := rfl

theorem info3 : (Tryd.prog.info? 3).map (fun i => (i.zero, i.size, i.bytes)) = some (some (.int .i64 0), 1, 8) := by kernel_rfl
-- the values' own types

theorem eqItems_cons1 {P : Program} {d : Nat} {e : TypeId} {xs ys : Array Value} {i : Nat} {is : List Nat} {a b : Value} {r s : Bool} {w : World} (ha : (part e xs (i * 1)).run P w = .ok a w) (hb : (part e ys (i * 1)).run P w = .ok b w) (he : (Op.equalIn d e a b).run P w = .ok r w)
    (hr : (Op.eqItems d e 1 xs ys is).run P w = .ok s w) : (Op.eqItems d e 1 xs ys (i :: is)).run P w = .ok (r && s) w := by
  rw [Op.eqItems]
  simp only [Sem.run_bind, ha, hb, he, Result.andThen_ok]
  cases r
  · simp
  · simpa using hr
theorem eqItems_last1 {P : Program} {d : Nat} {e : TypeId} {xs ys : Array Value} {i : Nat} {a b : Value} {r : Bool} {w : World} (ha : (part e xs (i * 1)).run P w = .ok a w) (hb : (part e ys (i * 1)).run P w = .ok b w) (he : (Op.equalIn d e a b).run P w = .ok r w) : (Op.eqItems d e 1 xs ys [i]).run P w = .ok r w := by
  rw [Op.eqItems]
  simp only [Sem.run_bind, ha, hb, he, Result.andThen_ok]
  cases r <;> simp [Op.eqItems]

end Go.Proofs.YthfpfogodggdmaaDoor.PLabelOrder
