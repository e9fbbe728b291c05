/- The law SpanMeets: for every input it returns true, and each argument reads behind the call as it read before. Conditions: none. -/
import Derived.Test.YtlhjmbhoeabhmaaRows
import Derived.Test.YtlhjmbhoeabhmaaOpen
import Derived.Test.YtlhjmbhoeabhmaaPureSpanMeets
import Derived.WalkKit
import Derived.ProofKit
import Derived.OpenShut
import Derived.ShutString
import Derived.ChangeOld
import Derived.Below
import Derived.SizedLaws
namespace Go.Proofs.Ytlhjmbhoeabhmaa.spanMeets
open Go.ChangeShapes Go.WideShapes Go.ChangeAt Go.RowKit Go.Proofs.YtlhjmbhoeabhmaaW.PrintWords
open Go.ChangeMaps (open_string shut_string)
set_option linter.unusedVariables false
theorem own : ownKnob Try.prog.godebug = none := by kernel_rfl
theorem laidOut : laidOutB Try.prog = true := by kernel_rfl
theorem o3 : Open.Opens Try.prog 3 (Kd.int .i64) (fun n : Int => (Lit.int .i64 n).wf = true) := Open.opens_int Try.underlying3
theorem o23 : Open.Opens Try.prog 23 (Kd.pair (Kd.int .i64) (Kd.pair (Kd.int .i64) (Kd.int .i64))) (fun x => (fun n : Int => (Lit.int .i64 n).wf = true) x.1 ∧ (fun x => (fun n : Int => (Lit.int .i64 n).wf = true) x.1 ∧ (fun n : Int => (Lit.int .i64 n).wf = true) x.2) x.2) := by
  refine Open.opens_struct Try.underlying23 (by kernel_rfl) ?_
  refine Open.opensFs_cons (d := (Kd.int .i64)) (e := (Kd.pair (Kd.int .i64) (Kd.int .i64))) (Good := (fun n : Int => (Lit.int .i64 n).wf = true)) (Good' := (fun x => (fun n : Int => (Lit.int .i64 n).wf = true) x.1 ∧ (fun n : Int => (Lit.int .i64 n).wf = true) x.2)) (off' := 1) (by kernel_rfl) (by kernel_rfl) (by kernel_rfl) o3 ?_
  refine Open.opensFs_cons (d := (Kd.int .i64)) (e := (Kd.int .i64)) (Good := (fun n : Int => (Lit.int .i64 n).wf = true)) (Good' := (fun n : Int => (Lit.int .i64 n).wf = true)) (off' := 2) (by kernel_rfl) (by kernel_rfl) (by kernel_rfl) o3 ?_
  exact Open.opensFs_one (by kernel_rfl) (by kernel_rfl) o3
set_option maxRecDepth 100000 in
theorem lifted (os : Os) (started : os.Started) (H : Type) (enc : TypeId × Value → H) :
    ReturnsInHanded {} Try.checked os 3 .any (Rows.spanMeetsSpec.pre6 enc Try.prog Try.f3 Rows.spanMeetsRow.domain false) (Rows.spanMeetsSpec.post enc Try.prog Try.f3 false true false false) := by
  refine returnsInHanded_of_change_sized (C := Try.checked) own started (by kernel_rfl) Try.func3
    (ChangeSpec.witness6 (enc := enc) (C := Try.checked) false ⟨#[], #[.agg #[.int .i64 0, .int .i64 0, .int .i64 0], .agg #[.int .i64 0, .int .i64 0, .int .i64 0]], []⟩ 8 (by kernel_rfl) (by kernel_rfl) (by kernel_rfl) (by kernel_rfl)) ?_
  intro W base args ds gs before hval0 hW hcnd hsz0 _
  have hsz : (DataW.weightsEach Try.prog (Try.f3.params.toList ++ Rows.spanMeetsSpec.plain.varTypes Try.prog) (ds ++ gs)).all (· ≤ reachBytes) = true := hsz0
  have hval : ∀ (j : Nat) t v, Try.f3.params[j]? = some t → args[j]? = some v → Value.okWide Try.prog W .any base t v := hval0
  have hW' := hW
  obtain ⟨p, q, hA0, hV, rfl, hfz, hnd⟩ := hW
  have hA : DataW.TrodAll enc Try.prog W 0 (fun _ => true) true Try.f3.params.toList args.toList ds p := hA0
  rw [Try.params3] at hA hval hsz
  obtain ⟨v0, vs0, d0, ds0, p0, q0, hargs, rfl, rfl, h0, r0⟩ := trodAll_cons hA
  obtain ⟨v1, vs1, d1, ds1, p1, q1, rfl, rfl, rfl, h1, r1⟩ := trodAll_cons r0
  obtain ⟨rfl, rfl, rfl⟩ := trodAll_nil r1
  obtain rfl : args = #[v0, v1] := by cases args; simp_all
  obtain ⟨rfl, rfl⟩ := trodVars_none hV
  have k0 := h0
  have lt0 := Open.lt_places k0
  obtain ⟨⟨a0_0, a0_1, a0_2⟩, ⟨_, _, e0, rfl, ⟨_, _, rfl, rfl, rfl⟩⟩, ⟨w0_0, w0_1, w0_2⟩⟩ := Open.arg_opens (d := (Kd.pair (Kd.int .i64) (Kd.pair (Kd.int .i64) (Kd.int .i64)))) o23 hsz (j := 0) (t := 23) rfl rfl h0
  obtain rfl : v0 = .agg #[.int .i64 a0_0, .int .i64 a0_1, .int .i64 a0_2] := Open.cells_agg (by obtain ⟨cs, hcs, _⟩ := okWide_struct Try.underlying23 (hval 0 23 v0 rfl rfl); exact ⟨cs, hcs⟩) e0
  have k1 := h1
  have lt1 := Open.lt_places k1
  obtain ⟨⟨a1_0, a1_1, a1_2⟩, ⟨_, _, e1, rfl, ⟨_, _, rfl, rfl, rfl⟩⟩, ⟨w1_0, w1_1, w1_2⟩⟩ := Open.arg_opens (d := (Kd.pair (Kd.int .i64) (Kd.pair (Kd.int .i64) (Kd.int .i64)))) o23 hsz (j := 1) (t := 23) rfl rfl h1
  obtain rfl : v1 = .agg #[.int .i64 a1_0, .int .i64 a1_1, .int .i64 a1_2] := Open.cells_agg (by obtain ⟨cs, hcs, _⟩ := okWide_struct Try.underlying23 (hval 1 23 v1 rfl rfl); exact ⟨cs, hcs⟩) e1
  clear hA0 hval0 hsz0 hsz
  obtain ⟨k, h⟩ := PSpanMeets.pure_law a0_0 a0_1 a0_2 a1_0 a1_1 a1_2 w0_0 w0_1 w0_2 w1_0 w1_1 w1_2
  have cl : Calls Try.prog 3 #[.agg #[.int .i64 a0_0, .int .i64 a0_1, .int .i64 a0_2], .agg #[.int .i64 a1_0, .int .i64 a1_1, .int .i64 a1_2]] W fun e W' => e = .returned (.bool true) ∧ Below W.heap.size W W' := by
    refine (PSpanMeets.monocoquelaw01_SpanMeets.calls k a0_0 a0_1 a0_2 a1_0 a1_1 a1_2 true W  h).mono ?_
    rintro e w' ⟨rfl, hd⟩
    first | exact ⟨rfl, hd⟩ | exact ⟨rfl, hd.below⟩
  refine cl.mono fun e W' ⟨he, bel⟩ => ?_
  subst he
  exact ⟨_, rfl, _, _, _, [], _, [], hW', trodAll_mk1 (shut_bool Try.underlying4 _), (trodAll_cons_mk (Below.trod laidOut (by kernel_rfl) (of_decide_eq_true (by kernel_rfl)) k0 bel lt0) (trodAll_cons_mk (Below.trod laidOut (by kernel_rfl) (of_decide_eq_true (by kernel_rfl)) k1 bel lt1) trodAll_mk0)), rfl, bel.frame _, fun h => by cases h⟩
theorem over : Rows.spanMeetsRow.holds Try.pinned (OpenSpec.ofChange Rows.spanMeetsSpec) :=
  OpenClaim.holds_of_wide 3 Try.f3 rfl rfl rfl rfl rfl rfl rfl ⟨rfl, rfl, rfl, rfl, rfl⟩ rfl rfl rfl rfl rfl (by kernel_rfl) Try.func3 (by kernel_rfl)
    (of_decide_eq_true (by kernel_rfl)) (by unfold Func.isWrapper; first | (rw [if_pos (by decide +kernel)]; kernel_rfl) | (rw [if_neg (by decide +kernel)]; exact ⟨rfl, rfl⟩))
    (fun os started H enc _ => lifted os started H enc)
end Go.Proofs.Ytlhjmbhoeabhmaa.spanMeets
namespace Go.Proofs.Ytlhjmbhoeabhmaa
/-- The row of the law SpanMeets. -/
theorem spanMeets_holds : Rows.SpanMeetsSaid := spanMeets.over
#print axioms spanMeets_holds
end Go.Proofs.Ytlhjmbhoeabhmaa
