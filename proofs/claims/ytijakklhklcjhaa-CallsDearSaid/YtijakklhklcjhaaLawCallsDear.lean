/- The law CallsDear: for every input it returns true, and each argument reads behind the call as it read before. Conditions: none. -/
import Derived.Test.YtijakklhklcjhaaRows
import Derived.Test.YtijakklhklcjhaaOpen
import Derived.Test.YtijakklhklcjhaaAb22
import Derived.Test.YtijakklhklcjhaaCL4
import Derived.WalkKit
import Derived.ProofKit
import Derived.OpenShut
import Derived.ShutString
import Derived.ChangeOld
import Derived.Below
import Derived.SizedLaws
namespace Go.Proofs.Ytijakklhklcjhaa.callsDear
open Go.ChangeShapes Go.WideShapes Go.ChangeAt Go.RowKit Go.Proofs.YtijakklhklcjhaaW.PrintWords
open Go.ChangeMaps (open_string shut_string)
set_option linter.unusedVariables false
theorem own : ownKnob Try.prog.godebug = none := by kernel_rfl
theorem laidOut : laidOutB Try.prog = true := by kernel_rfl
theorem o3 : Open.Opens Try.prog 3 (Kd.int .i64) (fun n : Int => (Lit.int .i64 n).wf = true) := Open.opens_int Try.underlying3
theorem o22 : Open.Opens Try.prog 22 (Kd.int .u32) (fun n : Int => (Lit.int .u32 n).wf = true) := Open.opens_int Try.underlying22
theorem o28 : Open.Opens Try.prog 28 (Kd.pair (Kd.int .i64) (Kd.pair (Kd.int .i64) (Kd.pair (Kd.int .u32) (Kd.pair (Kd.int .i64) (Kd.int .i64))))) (fun x : Int × Int × Int × Int × Int => (fun n : Int => (Lit.int .i64 n).wf = true) x.1 ∧ (fun x : Int × Int × Int × Int => (fun n : Int => (Lit.int .i64 n).wf = true) x.1 ∧ (fun x : Int × Int × Int => (fun n : Int => (Lit.int .u32 n).wf = true) x.1 ∧ (fun x : Int × Int => (fun n : Int => (Lit.int .i64 n).wf = true) x.1 ∧ (fun n : Int => (Lit.int .i64 n).wf = true) x.2) x.2) x.2) x.2) := by
  refine Open.opens_struct Try.underlying28 (by kernel_rfl) ?_
  refine Open.opensFs_cons (d := (Kd.int .i64)) (e := (Kd.pair (Kd.int .i64) (Kd.pair (Kd.int .u32) (Kd.pair (Kd.int .i64) (Kd.int .i64))))) (Good := (fun n : Int => (Lit.int .i64 n).wf = true)) (Good' := (fun x : Int × Int × Int × Int => (fun n : Int => (Lit.int .i64 n).wf = true) x.1 ∧ (fun x : Int × Int × Int => (fun n : Int => (Lit.int .u32 n).wf = true) x.1 ∧ (fun x : Int × Int => (fun n : Int => (Lit.int .i64 n).wf = true) x.1 ∧ (fun n : Int => (Lit.int .i64 n).wf = true) x.2) x.2) x.2)) (off' := 1) (by kernel_rfl) (by kernel_rfl) (by kernel_rfl) o3 ?_
  refine Open.opensFs_cons (d := (Kd.int .i64)) (e := (Kd.pair (Kd.int .u32) (Kd.pair (Kd.int .i64) (Kd.int .i64)))) (Good := (fun n : Int => (Lit.int .i64 n).wf = true)) (Good' := (fun x : Int × Int × Int => (fun n : Int => (Lit.int .u32 n).wf = true) x.1 ∧ (fun x : Int × Int => (fun n : Int => (Lit.int .i64 n).wf = true) x.1 ∧ (fun n : Int => (Lit.int .i64 n).wf = true) x.2) x.2)) (off' := 2) (by kernel_rfl) (by kernel_rfl) (by kernel_rfl) o3 ?_
  refine Open.opensFs_cons (d := (Kd.int .u32)) (e := (Kd.pair (Kd.int .i64) (Kd.int .i64))) (Good := (fun n : Int => (Lit.int .u32 n).wf = true)) (Good' := (fun x : Int × Int => (fun n : Int => (Lit.int .i64 n).wf = true) x.1 ∧ (fun n : Int => (Lit.int .i64 n).wf = true) x.2)) (off' := 3) (by kernel_rfl) (by kernel_rfl) (by kernel_rfl) o22 ?_
  refine Open.opensFs_cons (d := (Kd.int .i64)) (e := (Kd.int .i64)) (Good := (fun n : Int => (Lit.int .i64 n).wf = true)) (Good' := (fun n : Int => (Lit.int .i64 n).wf = true)) (off' := 4) (by kernel_rfl) (by kernel_rfl) (by kernel_rfl) o3 ?_
  exact Open.opensFs_one (by kernel_rfl) (by kernel_rfl) o3
set_option maxRecDepth 100000 in
theorem lifted (os : Os) (started : os.Started) (H : Type) (enc : TypeId × Value → H) :
    ReturnsInHanded {} Try.checked os 4 .any (Rows.callsDearSpec.pre6 enc Try.prog Try.f4 Rows.callsDearRow.domain false) (Rows.callsDearSpec.post enc Try.prog Try.f4 false true false false) := by
  refine returnsInHanded_of_change_sized (C := Try.checked) own started (by kernel_rfl) Try.func4
    (ChangeSpec.witness6 (enc := enc) (C := Try.checked) false ⟨#[], #[.agg #[.int .i64 0, .int .i64 0, .int .u32 0, .int .i64 0, .int .i64 0], .agg #[.int .i64 0, .int .i64 0, .int .u32 0, .int .i64 0, .int .i64 0]], []⟩ 8 (by kernel_rfl) (by kernel_rfl) (by kernel_rfl) (by kernel_rfl)) ?_
  intro W base args ds gs before hval0 hW hcnd hsz0 _
  have hsz : (DataW.weightsEach Try.prog (Try.f4.params.toList ++ Rows.callsDearSpec.plain.varTypes Try.prog) (ds ++ gs)).all (· ≤ reachBytes) = true := hsz0
  have hval : ∀ (j : Nat) t v, Try.f4.params[j]? = some t → args[j]? = some v → Value.okWide Try.prog W .any base t v := hval0
  have hW' := hW
  obtain ⟨p, q, hA0, hV, rfl, hfz, hnd⟩ := hW
  have hA : DataW.TrodAll enc Try.prog W 0 (fun _ => true) true Try.f4.params.toList args.toList ds p := hA0
  rw [Try.params4] at hA hval hsz
  obtain ⟨v0, vs0, d0, ds0, p0, q0, hargs, rfl, rfl, h0, r0⟩ := trodAll_cons hA
  obtain ⟨v1, vs1, d1, ds1, p1, q1, rfl, rfl, rfl, h1, r1⟩ := trodAll_cons r0
  obtain ⟨rfl, rfl, rfl⟩ := trodAll_nil r1
  obtain rfl : args = #[v0, v1] := by cases args; simp_all
  obtain ⟨rfl, rfl⟩ := trodVars_none hV
  have k0 := h0
  have lt0 := Open.lt_places k0
  obtain ⟨⟨a0_0, a0_1, a0_2, a0_3, a0_4⟩, ⟨_, _, e0, rfl, ⟨_, _, rfl, rfl, ⟨_, _, rfl, rfl, ⟨_, _, rfl, rfl, rfl⟩⟩⟩⟩, ⟨w0_0, w0_1, w0_2, w0_3, w0_4⟩⟩ := Open.arg_opens (d := (Kd.pair (Kd.int .i64) (Kd.pair (Kd.int .i64) (Kd.pair (Kd.int .u32) (Kd.pair (Kd.int .i64) (Kd.int .i64)))))) o28 hsz (j := 0) (t := 28) rfl rfl h0
  obtain rfl : v0 = .agg #[.int .i64 a0_0, .int .i64 a0_1, .int .u32 a0_2, .int .i64 a0_3, .int .i64 a0_4] := Open.cells_agg (by obtain ⟨cs, hcs, _⟩ := okWide_struct Try.underlying28 (hval 0 28 v0 rfl rfl); exact ⟨cs, hcs⟩) e0
  have k1 := h1
  have lt1 := Open.lt_places k1
  obtain ⟨⟨a1_0, a1_1, a1_2, a1_3, a1_4⟩, ⟨_, _, e1, rfl, ⟨_, _, rfl, rfl, ⟨_, _, rfl, rfl, ⟨_, _, rfl, rfl, rfl⟩⟩⟩⟩, ⟨w1_0, w1_1, w1_2, w1_3, w1_4⟩⟩ := Open.arg_opens (d := (Kd.pair (Kd.int .i64) (Kd.pair (Kd.int .i64) (Kd.pair (Kd.int .u32) (Kd.pair (Kd.int .i64) (Kd.int .i64)))))) o28 hsz (j := 1) (t := 28) rfl rfl h1
  obtain rfl : v1 = .agg #[.int .i64 a1_0, .int .i64 a1_1, .int .u32 a1_2, .int .i64 a1_3, .int .i64 a1_4] := Open.cells_agg (by obtain ⟨cs, hcs, _⟩ := okWide_struct Try.underlying28 (hval 1 28 v1 rfl rfl); exact ⟨cs, hcs⟩) e1
  clear hA0 hval0 hsz0 hsz
  have cl : Calls Try.prog 4 #[.agg #[.int .i64 a0_0, .int .i64 a0_1, .int .u32 a0_2, .int .i64 a0_3, .int .i64 a0_4], .agg #[.int .i64 a1_0, .int .i64 a1_1, .int .u32 a1_2, .int .i64 a1_3, .int .i64 a1_4]] W fun e W' => e = .returned (.bool true) ∧ Below W.heap.size W W' := by
    refine (Go.Proofs.YtijakklhklcjhaaA.dear_spec a0_0 a0_1 a0_2 a0_3 a0_4 a1_0 a1_1 a1_2 a1_3 a1_4).row (ext := fun _ => 0) (fun _ _ => rfl) ?_
    repeat' (first | exact Go.Proofs.YtijakklhklcjhaaA.AVals.mkNil | exact Go.Proofs.YtijakklhklcjhaaA.AVal.mkV | refine Go.Proofs.YtijakklhklcjhaaA.AVal.mkAgg ?_ | refine Go.Proofs.YtijakklhklcjhaaA.AVals.mk ?_ ?_)
  refine cl.mono fun e W' ⟨he, bel⟩ => ?_
  subst he
  exact ⟨_, rfl, _, _, _, [], _, [], hW', trodAll_mk1 (shut_bool Try.underlying4 _), (trodAll_cons_mk (Below.trod laidOut (by kernel_rfl) (of_decide_eq_true (by kernel_rfl)) k0 bel lt0) (trodAll_cons_mk (Below.trod laidOut (by kernel_rfl) (of_decide_eq_true (by kernel_rfl)) k1 bel lt1) trodAll_mk0)), rfl, bel.frame _, fun h => by cases h⟩
theorem over : Rows.callsDearRow.holds Try.pinned (OpenSpec.ofChange Rows.callsDearSpec) :=
  OpenClaim.holds_of_wide 4 Try.f4 rfl rfl rfl rfl rfl rfl rfl ⟨rfl, rfl, rfl, rfl, rfl⟩ rfl rfl rfl rfl rfl (by kernel_rfl) Try.func4 (by kernel_rfl)
    (of_decide_eq_true (by kernel_rfl)) (by unfold Func.isWrapper; first | (rw [if_pos (by decide +kernel)]; kernel_rfl) | (rw [if_neg (by decide +kernel)]; exact ⟨rfl, rfl⟩))
    (fun os started H enc _ => lifted os started H enc)
end Go.Proofs.Ytijakklhklcjhaa.callsDear
namespace Go.Proofs.Ytijakklhklcjhaa
/-- The row of the law CallsDear. -/
theorem callsDear_holds : Rows.CallsDearSaid := callsDear.over
#print axioms callsDear_holds
end Go.Proofs.Ytijakklhklcjhaa
