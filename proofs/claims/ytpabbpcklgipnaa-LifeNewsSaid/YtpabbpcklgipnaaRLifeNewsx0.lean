/- The walks of functions that the law LifeNews reaches. Written by this session's turn of the kit's printer, not by the kit's own. -/
import Derived.LaidEqlPtr
import Derived.Test.YtpabbpcklgipnaaProg
import Derived.Below
import Derived.Deep.Draws
import Derived.Deep.AppendLies
import Derived.Maps.AppendAt
import Derived.OwnWalk
import Derived.Laws.BytesArg
import Derived.Laws.MakeOwn
import Derived.Laws.OwnMore
import Derived.Deep.OwnRows
import Derived.Tactics
import Derived.Lib.ConvBytes
import Derived.Laws.Slices
import Derived.WalkKit
import Derived.KernelRfl
import Derived.RowKit3
import Derived.Deep.LoopGhost
import Derived.Deep.QuietTactic
import Derived.BigQuiet
import Derived.WideLaws
import Derived.Deep.DeepCutAuto
import Derived.Deep.CutBlock
import Derived.Deep.RegionHeld3
import Derived.Laws.Rows
import Derived.Lib.AppendStr
import Derived.ArgAppend
import Derived.Laws.IdiomCopy
import Derived.OrdersHeld
import Derived.Laws.BitsLemmas
import Derived.RowKit
import Derived.Test.YtpabbpcklgipnaaWWords
import Derived.Test.YtpabbpcklgipnaaWLast
import Derived.Test.YtpabbpcklgipnaaWTab
import Derived.Test.YtpabbpcklgipnaaWFour
import Derived.Test.YtpabbpcklgipnaaWQPut
import Derived.Test.YtpabbpcklgipnaaWApart
import Derived.Test.YtpabbpcklgipnaaWArr
import Derived.Test.YtpabbpcklgipnaaWZeros
import Derived.Test.YtpabbpcklgipnaaWFoot
import Derived.Test.YtpabbpcklgipnaaWKept
import Derived.Test.YtpabbpcklgipnaaWShare
import Derived.Test.YtpabbpcklgipnaaWN
import Derived.Test.YtpabbpcklgipnaaWFootNe
import Derived.Test.YtpabbpcklgipnaaWAt
import Derived.Test.YtpabbpcklgipnaaWEqStruct
import Derived.Test.YtpabbpcklgipnaaWRepsOne
import Derived.Test.YtpabbpcklgipnaaWInv
import Derived.Test.YtpabbpcklgipnaaWInvWords
import Derived.Test.YtpabbpcklgipnaaWGuard
import Derived.Test.YtpabbpcklgipnaaWNEv
import Derived.Test.YtpabbpcklgipnaaWMore
namespace Go.Proofs.Ytpabbpcklgipnaa.PLifeNewsR
open Go.RowKit Go.Proofs.YtpabbpcklgipnaaW.PrintWords Go.Proofs.YtpabbpcklgipnaaW.PrintLast Go.Proofs.YtpabbpcklgipnaaW.PrintMore
attribute [local go_sem] max2_int min2_int max_two min_two max_three min_three max_four min_four   -- for this text's walks alone
set_option linter.unusedVariables false
set_option linter.unusedSimpArgs false



def errW : Option Int → Value
  | none => .nilIface
  | some c => .iface 0 (.int .i64 c)
theorem errW_none : errW none = .nilIface := rfl
theorem eql_other {P : Program} (w : World) {tp te : TypeId} {z : Option Value} {n y : Nat} {g h : Nat} {ca cb : Array Value} {ta tb : TypeId} (hp : P.underlying tp = some (.pointer te)) (hi : (P.info? te).map (fun i => (i.zero, i.size, i.bytes)) = some (z, n, y)) (hn : n ≠ 0) (hne : g ≠ h) (ha : w.heap[g]? = some (.cells ca ta (0, 0))) (hb : w.heap[h]? = some (.cells cb tb (0, 0))) : (binOp .eql tp (.pointer (some ⟨g, 0, none⟩)) (.pointer (some ⟨h, 0, none⟩))).run P w = .ok (.bool false) w := by
  cases hj : P.info? te with
  | none => simp [hj] at hi
  | some j =>
    rw [hj] at hi
    simp only [Option.map_some, Option.some.injEq, Prod.mk.injEq] at hi
    exact run_eql_ptr_other w hp hj (by omega) (fun e => hne (by injection e)) ha hb
theorem equalIn_nil_left {P : Program} (w : World) (d : Nat) (t : TypeId) (p : Option Addr) {e : TypeId} (h : P.underlying t = some (.pointer e)) : (Op.equalIn (d + 1) t (.pointer none) (.pointer p)).run P w = .ok p.isNone w := by
  cases p <;> simp [Op.equalIn, run_underlying h]
theorem equal_nil_left {P : Program} (w : World) (t : TypeId) (p : Option Addr) {e : TypeId} (h : P.underlying t = some (.pointer e)) : (Op.equal t (.pointer none) (.pointer p)).run P w = .ok p.isNone w := equalIn_nil_left w 9999 t p h
theorem eql_nil_left {P : Program} (w : World) (t : TypeId) (p : Option Addr) {e : TypeId} (h : P.underlying t = some (.pointer e)) : (binOp .eql t (.pointer none) (.pointer p)).run P w = .ok (.bool p.isNone) w := by
  simp only [binOp]
  simp [equal_nil_left w t p h]
theorem neq_nil_left {P : Program} (w : World) (t : TypeId) (p : Option Addr) {e : TypeId} (h : P.underlying t = some (.pointer e)) : (binOp .neq t (.pointer none) (.pointer p)).run P w = .ok (.bool (!p.isNone)) w := by
  simp only [binOp]
  simp [equal_nil_left w t p h]
theorem errW_some (c : Int) : errW (some c) = .iface 0 (.int .i64 c) := rfl

-- the values' own types

end Go.Proofs.Ytpabbpcklgipnaa.PLifeNewsR
