/- The law SpanDivides: for every input it returns true, and each argument reads behind the call as it read before. Conditions: none. -/
import Derived.Test.YtlhjmbhoeabhmaaRows
import Derived.Test.YtlhjmbhoeabhmaaOpen
import Derived.Test.YtlhjmbhoeabhmaaPureSpanDividesOwn
import Derived.WalkKit
import Derived.ProofKit
import Derived.OpenShut
import Derived.ShutString
import Derived.ChangeOld
import Derived.Below
import Derived.SizedLaws
namespace Go.Proofs.Ytlhjmbhoeabhmaa.spanDivides
open Go.ChangeShapes Go.WideShapes Go.ChangeAt Go.RowKit Go.Proofs.YtlhjmbhoeabhmaaW.PrintWords
open Go.ChangeMaps (open_string shut_string)
set_option linter.unusedVariables false
theorem own : ownKnob Try.prog.godebug = none := by kernel_rfl
theorem laidOut : laidOutB Try.prog = true := by kernel_rfl
theorem o3 : Open.Opens Try.prog 3 (Kd.int .i64) (fun n : Int => (Lit.int .i64 n).wf = true) := Open.opens_int Try.underlying3
theorem o37 : Open.Opens Try.prog 37 (Kd.slice 3 (Kd.int .i64)) (fun l => l.length ≤ maxLen ∧ l.length * 8 ≤ 140737488351232 ∧ ∀ x ∈ l, (fun n : Int => (Lit.int .i64 n).wf = true) x) := Open.opens_slice 8 Try.underlying37 (by kernel_rfl) (by kernel_rfl) o3
set_option maxRecDepth 100000 in
theorem lifted (os : Os) (started : os.Started) (H : Type) (enc : TypeId × Value → H) :
    ReturnsInHanded {} Try.checked os 7 .any (Rows.spanDividesSpec.pre6 enc Try.prog Try.f7 Rows.spanDividesRow.domain false) (Rows.spanDividesSpec.post enc Try.prog Try.f7 false true false false) := by
  refine returnsInHanded_of_change_sized (C := Try.checked) own started (by kernel_rfl) Try.func7
    (ChangeSpec.witness6 (enc := enc) (C := Try.checked) false ⟨#[], #[.slice none 0 0], []⟩ 8 (by kernel_rfl) (by kernel_rfl) (by kernel_rfl) (by kernel_rfl)) ?_
  intro W base args ds gs before hval0 hW hcnd hsz0 _
  have hsz : (DataW.weightsEach Try.prog (Try.f7.params.toList ++ Rows.spanDividesSpec.plain.varTypes Try.prog) (ds ++ gs)).all (· ≤ reachBytes) = true := hsz0
  have hval : ∀ (j : Nat) t v, Try.f7.params[j]? = some t → args[j]? = some v → Value.okWide Try.prog W .any base t v := hval0
  have hW' := hW
  obtain ⟨p, q, hA0, hV, rfl, hfz, hnd⟩ := hW
  have hA : DataW.TrodAll enc Try.prog W 0 (fun _ => true) true Try.f7.params.toList args.toList ds p := hA0
  rw [Try.params7] at hA hval hsz
  obtain ⟨v0, vs0, d0, ds0, p0, q0, hargs, rfl, rfl, h0, r0⟩ := trodAll_cons hA
  obtain ⟨rfl, rfl, rfl⟩ := trodAll_nil r0
  obtain rfl : args = #[v0] := by cases args; simp_all
  obtain ⟨rfl, rfl⟩ := trodVars_none hV
  have k0 := h0
  have lt0 := Open.lt_places k0
  obtain ⟨l0, ⟨A0, c0, e0, hc0, hr0⟩, ⟨m0, y0, w0⟩⟩ := Open.arg_opens (d := (Kd.slice 3 (Kd.int .i64))) o37 hsz (j := 0) (t := 37) rfl rfl h0
  obtain rfl : v0 = .slice A0 l0.length c0 := Open.cells_slice (okWide_slice Try.underlying37 (hval 0 37 v0 rfl rfl)) e0
  clear hA0 hval0 hsz0 hsz
  obtain ⟨k, h⟩ := PSpanDivides.pure_law l0 m0 y0 w0
  have cl : Calls Try.prog 7 #[.slice A0 l0.length c0] W fun e W' => e = .returned (.bool true) ∧ Below W.heap.size W W' := by
    refine (PSpanDivides.monocoquelaw01_SpanDivides.calls k _ _ l0 true W hr0 hc0 h).mono ?_
    rintro e w' ⟨rfl, hd⟩
    first | exact ⟨rfl, hd⟩ | exact ⟨rfl, hd.below⟩
  refine cl.mono fun e W' ⟨he, bel⟩ => ?_
  subst he
  exact ⟨_, rfl, _, _, _, [], _, [], hW', trodAll_mk1 (shut_bool Try.underlying4 _), (trodAll_cons_mk (Below.trod laidOut (by kernel_rfl) (of_decide_eq_true (by kernel_rfl)) k0 bel lt0) trodAll_mk0), rfl, bel.frame _, fun h => by cases h⟩
theorem over : Rows.spanDividesRow.holds Try.pinned (OpenSpec.ofChange Rows.spanDividesSpec) :=
  OpenClaim.holds_of_wide 7 Try.f7 rfl rfl rfl rfl rfl rfl rfl ⟨rfl, rfl, rfl, rfl, rfl⟩ rfl rfl rfl rfl rfl (by kernel_rfl) Try.func7 (by kernel_rfl)
    (of_decide_eq_true (by kernel_rfl)) (by unfold Func.isWrapper; first | (rw [if_pos (by decide +kernel)]; kernel_rfl) | (rw [if_neg (by decide +kernel)]; exact ⟨rfl, rfl⟩))
    (fun os started H enc _ => lifted os started H enc)
end Go.Proofs.Ytlhjmbhoeabhmaa.spanDivides
namespace Go.Proofs.Ytlhjmbhoeabhmaa
/-- The row of the law SpanDivides. -/
theorem spanDivides_holds : Rows.SpanDividesSaid := spanDivides.over
#print axioms spanDivides_holds
end Go.Proofs.Ytlhjmbhoeabhmaa
