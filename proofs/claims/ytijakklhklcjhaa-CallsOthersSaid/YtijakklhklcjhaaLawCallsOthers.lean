/- The law CallsOthers: for every input it returns true, and each argument reads behind the call as it read before. Conditions: none. -/
import Derived.Test.YtijakklhklcjhaaRows
import Derived.Test.YtijakklhklcjhaaOpen
import Derived.Test.YtijakklhklcjhaaAb22
import Derived.Test.YtijakklhklcjhaaCL5
import Derived.Test.YtijakklhklcjhaaOpenA
import Derived.WalkKit
import Derived.ProofKit
import Derived.OpenShut
import Derived.ShutString
import Derived.ChangeOld
import Derived.Below
import Derived.SizedLaws
namespace Go.Proofs.Ytijakklhklcjhaa.callsOthers
open Go.ChangeShapes Go.WideShapes Go.ChangeAt Go.RowKit Go.Proofs.YtijakklhklcjhaaW.PrintWords
open Go.ChangeMaps (open_string shut_string)
set_option linter.unusedVariables false
theorem own : ownKnob Try.prog.godebug = none := by kernel_rfl
theorem laidOut : laidOutB Try.prog = true := by kernel_rfl
theorem o3 : Open.Opens Try.prog 3 (Kd.int .i64) (fun n : Int => (Lit.int .i64 n).wf = true) := Open.opens_int Try.underlying3
theorem o29 : Open.Opens Try.prog 29 (Kd.int .i64) (fun n : Int => (Lit.int .i64 n).wf = true) := Open.opens_int Try.underlying29
theorem o22 : Open.Opens Try.prog 22 (Kd.int .u32) (fun n : Int => (Lit.int .u32 n).wf = true) := Open.opens_int Try.underlying22
theorem o42 : Open.Opens Try.prog 42 (Kd.pair (Kd.int .i64) (Kd.pair (Kd.int .u32) (Kd.int .i64))) (fun x : Int × Int × Int => (fun n : Int => (Lit.int .i64 n).wf = true) x.1 ∧ (fun x : Int × Int => (fun n : Int => (Lit.int .u32 n).wf = true) x.1 ∧ (fun n : Int => (Lit.int .i64 n).wf = true) x.2) x.2) := by
  refine Open.opens_struct Try.underlying42 (by kernel_rfl) ?_
  refine Open.opensFs_cons (d := (Kd.int .i64)) (e := (Kd.pair (Kd.int .u32) (Kd.int .i64))) (Good := (fun n : Int => (Lit.int .i64 n).wf = true)) (Good' := (fun x : Int × Int => (fun n : Int => (Lit.int .u32 n).wf = true) x.1 ∧ (fun n : Int => (Lit.int .i64 n).wf = true) x.2)) (off' := 1) (by kernel_rfl) (by kernel_rfl) (by kernel_rfl) o29 ?_
  refine Open.opensFs_cons (d := (Kd.int .u32)) (e := (Kd.int .i64)) (Good := (fun n : Int => (Lit.int .u32 n).wf = true)) (Good' := (fun n : Int => (Lit.int .i64 n).wf = true)) (off' := 2) (by kernel_rfl) (by kernel_rfl) (by kernel_rfl) o22 ?_
  exact Open.opensFs_one (by kernel_rfl) (by kernel_rfl) o3
set_option maxRecDepth 100000 in
theorem lifted (os : Os) (started : os.Started) (H : Type) (enc : TypeId × Value → H) :
    ReturnsInHanded {} Try.checked os 5 .any (Rows.callsOthersSpec.pre6 enc Try.prog Try.f5 Rows.callsOthersRow.domain false) (Rows.callsOthersSpec.post enc Try.prog Try.f5 false true false false) := by
  refine returnsInHanded_of_change_sized (C := Try.checked) own started (by kernel_rfl) Try.func5
    (ChangeSpec.witness6 (enc := enc) (C := Try.checked) false ⟨#[], #[.int .i64 0, .agg #[.int .u32 0, .int .u32 0, .int .u32 0, .int .u32 0, .int .u32 0, .int .u32 0, .int .u32 0, .int .u32 0, .int .u32 0, .int .u32 0, .int .u32 0, .int .u32 0, .int .u32 0, .int .u32 0, .int .u32 0, .int .u32 0], .agg #[.int .u32 0, .int .u32 0, .int .u32 0, .int .u32 0, .int .u32 0, .int .u32 0, .int .u32 0, .int .u32 0, .int .u32 0, .int .u32 0, .int .u32 0, .int .u32 0, .int .u32 0, .int .u32 0, .int .u32 0, .int .u32 0], .agg #[.int .i64 0, .int .u32 0, .int .i64 0]], []⟩ 8 (by kernel_rfl) (by kernel_rfl) (by kernel_rfl) (by kernel_rfl)) ?_
  intro W base args ds gs before hval0 hW hcnd hsz0 _
  have hsz : (DataW.weightsEach Try.prog (Try.f5.params.toList ++ Rows.callsOthersSpec.plain.varTypes Try.prog) (ds ++ gs)).all (· ≤ reachBytes) = true := hsz0
  have hval : ∀ (j : Nat) t v, Try.f5.params[j]? = some t → args[j]? = some v → Value.okWide Try.prog W .any base t v := hval0
  have hW' := hW
  obtain ⟨p, q, hA0, hV, rfl, hfz, hnd⟩ := hW
  have hA : DataW.TrodAll enc Try.prog W 0 (fun _ => true) true Try.f5.params.toList args.toList ds p := hA0
  rw [Try.params5] at hA hval hsz
  obtain ⟨v0, vs0, d0, ds0, p0, q0, hargs, rfl, rfl, h0, r0⟩ := trodAll_cons hA
  obtain ⟨v1, vs1, d1, ds1, p1, q1, rfl, rfl, rfl, h1, r1⟩ := trodAll_cons r0
  obtain ⟨v2, vs2, d2, ds2, p2, q2, rfl, rfl, rfl, h2, r2⟩ := trodAll_cons r1
  obtain ⟨v3, vs3, d3, ds3, p3, q3, rfl, rfl, rfl, h3, r3⟩ := trodAll_cons r2
  obtain ⟨rfl, rfl, rfl⟩ := trodAll_nil r3
  obtain rfl : args = #[v0, v1, v2, v3] := by cases args; simp_all
  obtain ⟨rfl, rfl⟩ := trodVars_none hV
  have k0 := h0
  have lt0 := Open.lt_places k0
  obtain ⟨a0, e0, w0⟩ := Open.arg_opens (d := (Kd.int .i64)) o3 hsz (j := 0) (t := 3) rfl rfl h0
  obtain rfl : v0 = .int .i64 a0 := by
    obtain ⟨z, rfl⟩ := okWide_int Try.underlying3 (hval 0 3 v0 rfl rfl)
    have e : (Value.cells _).toList = [.int .i64 a0] := e0
    simpa [Value.cells] using e
  have k1 := h1
  have lt1 := Open.lt_places k1
  obtain ⟨l1, hl1, e1, w1⟩ := Open.arr_ints (n := 16) (k := .u32) Try.underlying32 Try.underlying22 (by kernel_rfl) (by kernel_rfl) h1
  obtain ⟨a1_0, a1_1, a1_2, a1_3, a1_4, a1_5, a1_6, a1_7, a1_8, a1_9, a1_10, a1_11, a1_12, a1_13, a1_14, a1_15, rfl⟩ := Open.len16 hl1
  obtain rfl : v1 = .agg #[.int .u32 a1_0, .int .u32 a1_1, .int .u32 a1_2, .int .u32 a1_3, .int .u32 a1_4, .int .u32 a1_5, .int .u32 a1_6, .int .u32 a1_7, .int .u32 a1_8, .int .u32 a1_9, .int .u32 a1_10, .int .u32 a1_11, .int .u32 a1_12, .int .u32 a1_13, .int .u32 a1_14, .int .u32 a1_15] := Open.cells_agg (by obtain ⟨cs, hcs, _⟩ := Open.okWide_array Try.underlying32 (hval 1 32 v1 rfl rfl); exact ⟨cs, hcs⟩) e1
  have k2 := h2
  have lt2 := Open.lt_places k2
  obtain ⟨l2, hl2, e2, w2⟩ := Open.arr_ints (n := 16) (k := .u32) Try.underlying32 Try.underlying22 (by kernel_rfl) (by kernel_rfl) h2
  obtain ⟨a2_0, a2_1, a2_2, a2_3, a2_4, a2_5, a2_6, a2_7, a2_8, a2_9, a2_10, a2_11, a2_12, a2_13, a2_14, a2_15, rfl⟩ := Open.len16 hl2
  obtain rfl : v2 = .agg #[.int .u32 a2_0, .int .u32 a2_1, .int .u32 a2_2, .int .u32 a2_3, .int .u32 a2_4, .int .u32 a2_5, .int .u32 a2_6, .int .u32 a2_7, .int .u32 a2_8, .int .u32 a2_9, .int .u32 a2_10, .int .u32 a2_11, .int .u32 a2_12, .int .u32 a2_13, .int .u32 a2_14, .int .u32 a2_15] := Open.cells_agg (by obtain ⟨cs, hcs, _⟩ := Open.okWide_array Try.underlying32 (hval 2 32 v2 rfl rfl); exact ⟨cs, hcs⟩) e2
  have k3 := h3
  have lt3 := Open.lt_places k3
  obtain ⟨⟨a3_0, a3_1, a3_2⟩, ⟨_, _, e3, rfl, ⟨_, _, rfl, rfl, rfl⟩⟩, ⟨w3_0, w3_1, w3_2⟩⟩ := Open.arg_opens (d := (Kd.pair (Kd.int .i64) (Kd.pair (Kd.int .u32) (Kd.int .i64)))) o42 hsz (j := 3) (t := 42) rfl rfl h3
  obtain rfl : v3 = .agg #[.int .i64 a3_0, .int .u32 a3_1, .int .i64 a3_2] := Open.cells_agg (by obtain ⟨cs, hcs, _⟩ := okWide_struct Try.underlying42 (hval 3 42 v3 rfl rfl); exact ⟨cs, hcs⟩) e3
  clear hA0 hval0 hsz0 hsz
  have cl : Calls Try.prog 5 #[.int .i64 a0, .agg #[.int .u32 a1_0, .int .u32 a1_1, .int .u32 a1_2, .int .u32 a1_3, .int .u32 a1_4, .int .u32 a1_5, .int .u32 a1_6, .int .u32 a1_7, .int .u32 a1_8, .int .u32 a1_9, .int .u32 a1_10, .int .u32 a1_11, .int .u32 a1_12, .int .u32 a1_13, .int .u32 a1_14, .int .u32 a1_15], .agg #[.int .u32 a2_0, .int .u32 a2_1, .int .u32 a2_2, .int .u32 a2_3, .int .u32 a2_4, .int .u32 a2_5, .int .u32 a2_6, .int .u32 a2_7, .int .u32 a2_8, .int .u32 a2_9, .int .u32 a2_10, .int .u32 a2_11, .int .u32 a2_12, .int .u32 a2_13, .int .u32 a2_14, .int .u32 a2_15], .agg #[.int .i64 a3_0, .int .u32 a3_1, .int .i64 a3_2]] W fun e W' => e = .returned (.bool true) ∧ Below W.heap.size W W' := by
    refine (Go.Proofs.YtijakklhklcjhaaA.others_spec a0 a1_0 a1_1 a1_2 a1_3 a1_4 a1_5 a1_6 a1_7 a1_8 a1_9 a1_10 a1_11 a1_12 a1_13 a1_14 a1_15 a2_0 a2_1 a2_2 a2_3 a2_4 a2_5 a2_6 a2_7 a2_8 a2_9 a2_10 a2_11 a2_12 a2_13 a2_14 a2_15 a3_0 a3_1 a3_2).row (ext := fun _ => 0) (fun _ _ => rfl) ?_
    repeat' (first | exact Go.Proofs.YtijakklhklcjhaaA.AVals.mkNil | exact Go.Proofs.YtijakklhklcjhaaA.AVal.mkV | refine Go.Proofs.YtijakklhklcjhaaA.AVal.mkAgg ?_ | refine Go.Proofs.YtijakklhklcjhaaA.AVals.mk ?_ ?_)
  refine cl.mono fun e W' ⟨he, bel⟩ => ?_
  subst he
  exact ⟨_, rfl, _, _, _, [], _, [], hW', trodAll_mk1 (shut_bool Try.underlying4 _), (trodAll_cons_mk (Below.trod laidOut (by kernel_rfl) (of_decide_eq_true (by kernel_rfl)) k0 bel lt0) (trodAll_cons_mk (Below.trod laidOut (by kernel_rfl) (of_decide_eq_true (by kernel_rfl)) k1 bel lt1) (trodAll_cons_mk (Below.trod laidOut (by kernel_rfl) (of_decide_eq_true (by kernel_rfl)) k2 bel lt2) (trodAll_cons_mk (Below.trod laidOut (by kernel_rfl) (of_decide_eq_true (by kernel_rfl)) k3 bel lt3) trodAll_mk0)))), rfl, bel.frame _, fun h => by cases h⟩
theorem over : Rows.callsOthersRow.holds Try.pinned (OpenSpec.ofChange Rows.callsOthersSpec) :=
  OpenClaim.holds_of_wide 5 Try.f5 rfl rfl rfl rfl rfl rfl rfl ⟨rfl, rfl, rfl, rfl, rfl⟩ rfl rfl rfl rfl rfl (by kernel_rfl) Try.func5 (by kernel_rfl)
    (of_decide_eq_true (by kernel_rfl)) (by unfold Func.isWrapper; first | (rw [if_pos (by decide +kernel)]; kernel_rfl) | (rw [if_neg (by decide +kernel)]; exact ⟨rfl, rfl⟩))
    (fun os started H enc _ => lifted os started H enc)
end Go.Proofs.Ytijakklhklcjhaa.callsOthers
namespace Go.Proofs.Ytijakklhklcjhaa
/-- The row of the law CallsOthers. -/
theorem callsOthers_holds : Rows.CallsOthersSaid := callsOthers.over
#print axioms callsOthers_holds
end Go.Proofs.Ytijakklhklcjhaa
