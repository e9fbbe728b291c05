/- The law SpanAnds: for every input it returns true, and each argument reads behind the call as it read before. Conditions: none. -/
import Derived.Test.YtlhjmbhoeabhmaaRows
import Derived.Test.YtlhjmbhoeabhmaaOpen
import Derived.Test.YtlhjmbhoeabhmaaPureSpanAnds
import Derived.WalkKit
import Derived.ProofKit
import Derived.OpenShut
import Derived.ShutString
import Derived.ChangeOld
import Derived.Below
import Derived.SizedLaws
namespace Go.Proofs.Ytlhjmbhoeabhmaa.spanAnds
open Go.ChangeShapes Go.WideShapes Go.ChangeAt Go.RowKit Go.Proofs.YtlhjmbhoeabhmaaW.PrintWords
open Go.ChangeMaps (open_string shut_string)
set_option linter.unusedVariables false
theorem own : ownKnob Try.prog.godebug = none := by kernel_rfl
theorem laidOut : laidOutB Try.prog = true := by kernel_rfl
theorem o3 : Open.Opens Try.prog 3 (Kd.int .i64) (fun n : Int => (Lit.int .i64 n).wf = true) := Open.opens_int Try.underlying3
theorem o31 : Open.Opens Try.prog 31 (Kd.pair (Kd.int .i64) (Kd.int .i64)) (fun x => (fun n : Int => (Lit.int .i64 n).wf = true) x.1 ∧ (fun n : Int => (Lit.int .i64 n).wf = true) x.2) := by
  refine Open.opens_struct Try.underlying31 (by kernel_rfl) ?_
  refine Open.opensFs_cons (d := (Kd.int .i64)) (e := (Kd.int .i64)) (Good := (fun n : Int => (Lit.int .i64 n).wf = true)) (Good' := (fun n : Int => (Lit.int .i64 n).wf = true)) (off' := 1) (by kernel_rfl) (by kernel_rfl) (by kernel_rfl) o3 ?_
  exact Open.opensFs_one (by kernel_rfl) (by kernel_rfl) o3
set_option maxRecDepth 100000 in
theorem lifted (os : Os) (started : os.Started) (H : Type) (enc : TypeId × Value → H) :
    ReturnsInHanded {} Try.checked os 4 .any (Rows.spanAndsSpec.pre6 enc Try.prog Try.f4 Rows.spanAndsRow.domain false) (Rows.spanAndsSpec.post enc Try.prog Try.f4 false true false false) := by
  refine returnsInHanded_of_change_sized (C := Try.checked) own started (by kernel_rfl) Try.func4
    (ChangeSpec.witness6 (enc := enc) (C := Try.checked) false ⟨#[], #[.agg #[.int .i64 0, .int .i64 0], .agg #[.int .i64 0, .int .i64 0], .agg #[.int .i64 0, .int .i64 0]], []⟩ 8 (by kernel_rfl) (by kernel_rfl) (by kernel_rfl) (by kernel_rfl)) ?_
  intro W base args ds gs before hval0 hW hcnd hsz0 _
  have hsz : (DataW.weightsEach Try.prog (Try.f4.params.toList ++ Rows.spanAndsSpec.plain.varTypes Try.prog) (ds ++ gs)).all (· ≤ reachBytes) = true := hsz0
  have hval : ∀ (j : Nat) t v, Try.f4.params[j]? = some t → args[j]? = some v → Value.okWide Try.prog W .any base t v := hval0
  have hW' := hW
  obtain ⟨p, q, hA0, hV, rfl, hfz, hnd⟩ := hW
  have hA : DataW.TrodAll enc Try.prog W 0 (fun _ => true) true Try.f4.params.toList args.toList ds p := hA0
  rw [Try.params4] at hA hval hsz
  obtain ⟨v0, vs0, d0, ds0, p0, q0, hargs, rfl, rfl, h0, r0⟩ := trodAll_cons hA
  obtain ⟨v1, vs1, d1, ds1, p1, q1, rfl, rfl, rfl, h1, r1⟩ := trodAll_cons r0
  obtain ⟨v2, vs2, d2, ds2, p2, q2, rfl, rfl, rfl, h2, r2⟩ := trodAll_cons r1
  obtain ⟨rfl, rfl, rfl⟩ := trodAll_nil r2
  obtain rfl : args = #[v0, v1, v2] := by cases args; simp_all
  obtain ⟨rfl, rfl⟩ := trodVars_none hV
  have k0 := h0
  have lt0 := Open.lt_places k0
  obtain ⟨⟨a0_0, a0_1⟩, ⟨_, _, e0, rfl, rfl⟩, ⟨w0_0, w0_1⟩⟩ := Open.arg_opens (d := (Kd.pair (Kd.int .i64) (Kd.int .i64))) o31 hsz (j := 0) (t := 31) rfl rfl h0
  obtain rfl : v0 = .agg #[.int .i64 a0_0, .int .i64 a0_1] := Open.cells_agg (by obtain ⟨cs, hcs, _⟩ := okWide_struct Try.underlying31 (hval 0 31 v0 rfl rfl); exact ⟨cs, hcs⟩) e0
  have k1 := h1
  have lt1 := Open.lt_places k1
  obtain ⟨⟨a1_0, a1_1⟩, ⟨_, _, e1, rfl, rfl⟩, ⟨w1_0, w1_1⟩⟩ := Open.arg_opens (d := (Kd.pair (Kd.int .i64) (Kd.int .i64))) o31 hsz (j := 1) (t := 31) rfl rfl h1
  obtain rfl : v1 = .agg #[.int .i64 a1_0, .int .i64 a1_1] := Open.cells_agg (by obtain ⟨cs, hcs, _⟩ := okWide_struct Try.underlying31 (hval 1 31 v1 rfl rfl); exact ⟨cs, hcs⟩) e1
  have k2 := h2
  have lt2 := Open.lt_places k2
  obtain ⟨⟨a2_0, a2_1⟩, ⟨_, _, e2, rfl, rfl⟩, ⟨w2_0, w2_1⟩⟩ := Open.arg_opens (d := (Kd.pair (Kd.int .i64) (Kd.int .i64))) o31 hsz (j := 2) (t := 31) rfl rfl h2
  obtain rfl : v2 = .agg #[.int .i64 a2_0, .int .i64 a2_1] := Open.cells_agg (by obtain ⟨cs, hcs, _⟩ := okWide_struct Try.underlying31 (hval 2 31 v2 rfl rfl); exact ⟨cs, hcs⟩) e2
  clear hA0 hval0 hsz0 hsz
  obtain ⟨k, h⟩ := PSpanAnds.pure_law a0_0 a0_1 a1_0 a1_1 a2_0 a2_1 w0_0 w0_1 w1_0 w1_1 w2_0 w2_1
  have cl : Calls Try.prog 4 #[.agg #[.int .i64 a0_0, .int .i64 a0_1], .agg #[.int .i64 a1_0, .int .i64 a1_1], .agg #[.int .i64 a2_0, .int .i64 a2_1]] W fun e W' => e = .returned (.bool true) ∧ Below W.heap.size W W' := by
    refine (PSpanAnds.sA.calls k a0_0 a0_1 a1_0 a1_1 a2_0 a2_1 true W  h).mono ?_
    rintro e w' ⟨rfl, hd⟩
    first | exact ⟨rfl, hd⟩ | exact ⟨rfl, hd.below⟩
  refine cl.mono fun e W' ⟨he, bel⟩ => ?_
  subst he
  exact ⟨_, rfl, _, _, _, [], _, [], hW', trodAll_mk1 (shut_bool Try.underlying4 _), (trodAll_cons_mk (Below.trod laidOut (by kernel_rfl) (of_decide_eq_true (by kernel_rfl)) k0 bel lt0) (trodAll_cons_mk (Below.trod laidOut (by kernel_rfl) (of_decide_eq_true (by kernel_rfl)) k1 bel lt1) (trodAll_cons_mk (Below.trod laidOut (by kernel_rfl) (of_decide_eq_true (by kernel_rfl)) k2 bel lt2) trodAll_mk0))), rfl, bel.frame _, fun h => by cases h⟩
theorem over : Rows.spanAndsRow.holds Try.pinned (OpenSpec.ofChange Rows.spanAndsSpec) :=
  OpenClaim.holds_of_wide 4 Try.f4 rfl rfl rfl rfl rfl rfl rfl ⟨rfl, rfl, rfl, rfl, rfl⟩ rfl rfl rfl rfl rfl (by kernel_rfl) Try.func4 (by kernel_rfl)
    (of_decide_eq_true (by kernel_rfl)) (by unfold Func.isWrapper; first | (rw [if_pos (by decide +kernel)]; kernel_rfl) | (rw [if_neg (by decide +kernel)]; exact ⟨rfl, rfl⟩))
    (fun os started H enc _ => lifted os started H enc)
end Go.Proofs.Ytlhjmbhoeabhmaa.spanAnds
namespace Go.Proofs.Ytlhjmbhoeabhmaa
/-- The row of the law SpanAnds. -/
theorem spanAnds_holds : Rows.SpanAndsSaid := spanAnds.over
#print axioms spanAnds_holds
end Go.Proofs.Ytlhjmbhoeabhmaa
