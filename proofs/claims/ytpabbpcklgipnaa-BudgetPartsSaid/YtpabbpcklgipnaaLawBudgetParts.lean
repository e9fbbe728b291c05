/- The law BudgetParts: for every input it returns true, and each argument reads behind the call as it read before. Conditions: none. -/
import Derived.Test.YtpabbpcklgipnaaRows
import Derived.Test.YtpabbpcklgipnaaOpen
import Derived.Test.YtpabbpcklgipnaaPureBudgetParts
import Derived.WalkKit
import Derived.ProofKit
import Derived.OpenShut
import Derived.ShutString
import Derived.ChangeOld
import Derived.Below
import Derived.SizedLaws
namespace Go.Proofs.Ytpabbpcklgipnaa.budgetParts
open Go.ChangeShapes Go.WideShapes Go.ChangeAt Go.RowKit Go.Proofs.YtpabbpcklgipnaaW.PrintWords
open Go.ChangeMaps (open_string shut_string)
set_option linter.unusedVariables false
theorem own : ownKnob Try.prog.godebug = none := by kernel_rfl
theorem laidOut : laidOutB Try.prog = true := by kernel_rfl
theorem o3 : Open.Opens Try.prog 3 (Kd.int .i64) (fun n : Int => (Lit.int .i64 n).wf = true) := Open.opens_int Try.underlying3
theorem o5 : Open.Opens Try.prog 5 (Kd.int .u8) (fun n : Int => (Lit.int .u8 n).wf = true) := Open.opens_int Try.underlying5
theorem o39 : Open.Opens Try.prog 39 (Kd.slice 5 (Kd.int .u8)) (fun l => l.length ≤ maxLen ∧ l.length * 1 ≤ 140737488351232 ∧ ∀ x ∈ l, (fun n : Int => (Lit.int .u8 n).wf = true) x) := Open.opens_slice 1 Try.underlying39 (by kernel_rfl) (by kernel_rfl) o5
set_option maxRecDepth 100000 in
theorem lifted (os : Os) (started : os.Started) (H : Type) (enc : TypeId × Value → H) :
    ReturnsInHanded {} Try.checked os 6 .any (Rows.budgetPartsSpec.pre6 enc Try.prog Try.f6 Rows.budgetPartsRow.domain false) (Rows.budgetPartsSpec.post enc Try.prog Try.f6 false true false false) := by
  refine returnsInHanded_of_change_sized (C := Try.checked) own started (by kernel_rfl) Try.func6
    (ChangeSpec.witness6 (enc := enc) (C := Try.checked) false ⟨#[], #[.int .i64 0, .int .i64 0, .int .i64 0, .slice none 0 0], []⟩ 8 (by kernel_rfl) (by kernel_rfl) (by kernel_rfl) (by kernel_rfl)) ?_
  intro W base args ds gs before hval0 hW hcnd hsz0 _
  have hsz : (DataW.weightsEach Try.prog (Try.f6.params.toList ++ Rows.budgetPartsSpec.plain.varTypes Try.prog) (ds ++ gs)).all (· ≤ reachBytes) = true := hsz0
  have hval : ∀ (j : Nat) t v, Try.f6.params[j]? = some t → args[j]? = some v → Value.okWide Try.prog W .any base t v := hval0
  have hW' := hW
  obtain ⟨p, q, hA0, hV, rfl, hfz, hnd⟩ := hW
  have hA : DataW.TrodAll enc Try.prog W 0 (fun _ => true) true Try.f6.params.toList args.toList ds p := hA0
  rw [Try.params6] at hA hval hsz
  obtain ⟨v0, vs0, d0, ds0, p0, q0, hargs, rfl, rfl, h0, r0⟩ := trodAll_cons hA
  obtain ⟨v1, vs1, d1, ds1, p1, q1, rfl, rfl, rfl, h1, r1⟩ := trodAll_cons r0
  obtain ⟨v2, vs2, d2, ds2, p2, q2, rfl, rfl, rfl, h2, r2⟩ := trodAll_cons r1
  obtain ⟨v3, vs3, d3, ds3, p3, q3, rfl, rfl, rfl, h3, r3⟩ := trodAll_cons r2
  obtain ⟨rfl, rfl, rfl⟩ := trodAll_nil r3
  obtain rfl : args = #[v0, v1, v2, v3] := by cases args; simp_all
  obtain ⟨rfl, rfl⟩ := trodVars_none hV
  have k0 := h0
  have lt0 := Open.lt_places k0
  obtain ⟨a0, e0, w0⟩ := Open.arg_opens (d := (Kd.int .i64)) o3 hsz (j := 0) (t := 3) rfl rfl h0
  obtain rfl : v0 = .int .i64 a0 := by
    obtain ⟨z, rfl⟩ := okWide_int Try.underlying3 (hval 0 3 v0 rfl rfl)
    have e : (Value.cells _).toList = [.int .i64 a0] := e0
    simpa [Value.cells] using e
  have k1 := h1
  have lt1 := Open.lt_places k1
  obtain ⟨a1, e1, w1⟩ := Open.arg_opens (d := (Kd.int .i64)) o3 hsz (j := 1) (t := 3) rfl rfl h1
  obtain rfl : v1 = .int .i64 a1 := by
    obtain ⟨z, rfl⟩ := okWide_int Try.underlying3 (hval 1 3 v1 rfl rfl)
    have e : (Value.cells _).toList = [.int .i64 a1] := e1
    simpa [Value.cells] using e
  have k2 := h2
  have lt2 := Open.lt_places k2
  obtain ⟨a2, e2, w2⟩ := Open.arg_opens (d := (Kd.int .i64)) o3 hsz (j := 2) (t := 3) rfl rfl h2
  obtain rfl : v2 = .int .i64 a2 := by
    obtain ⟨z, rfl⟩ := okWide_int Try.underlying3 (hval 2 3 v2 rfl rfl)
    have e : (Value.cells _).toList = [.int .i64 a2] := e2
    simpa [Value.cells] using e
  have k3 := h3
  have lt3 := Open.lt_places k3
  obtain ⟨l3, ⟨A3, c3, e3, hc3, hr3⟩, ⟨m3, y3, w3⟩⟩ := Open.arg_opens (d := (Kd.slice 5 (Kd.int .u8))) o39 hsz (j := 3) (t := 39) rfl rfl h3
  obtain rfl : v3 = .slice A3 l3.length c3 := Open.cells_slice (okWide_slice Try.underlying39 (hval 3 39 v3 rfl rfl)) e3
  clear hA0 hval0 hsz0 hsz
  obtain ⟨k, h⟩ := PBudgetParts.pure_law a0 a1 a2 l3 w0 w1 w2 m3 y3 w3
  have cl : Calls Try.prog 6 #[.int .i64 a0, .int .i64 a1, .int .i64 a2, .slice A3 l3.length c3] W fun e W' => e = .returned (.bool true) ∧ Below W.heap.size W W' := by
    refine (PBudgetParts.monocoquelaw30_BudgetParts.calls k a0 a1 a2 _ _ l3 true W hr3 hc3 h).mono ?_
    rintro e w' ⟨rfl, hd⟩
    first | exact ⟨rfl, hd⟩ | exact ⟨rfl, hd.below⟩
  refine cl.mono fun e W' ⟨he, bel⟩ => ?_
  subst he
  exact ⟨_, rfl, _, _, _, [], _, [], hW', trodAll_mk1 (shut_bool Try.underlying4 _), (trodAll_cons_mk (Below.trod laidOut (by kernel_rfl) (of_decide_eq_true (by kernel_rfl)) k0 bel lt0) (trodAll_cons_mk (Below.trod laidOut (by kernel_rfl) (of_decide_eq_true (by kernel_rfl)) k1 bel lt1) (trodAll_cons_mk (Below.trod laidOut (by kernel_rfl) (of_decide_eq_true (by kernel_rfl)) k2 bel lt2) (trodAll_cons_mk (Below.trod laidOut (by kernel_rfl) (of_decide_eq_true (by kernel_rfl)) k3 bel lt3) trodAll_mk0)))), rfl, bel.frame _, fun h => by cases h⟩
theorem over : Rows.budgetPartsRow.holds Try.pinned (OpenSpec.ofChange Rows.budgetPartsSpec) :=
  OpenClaim.holds_of_wide 6 Try.f6 rfl rfl rfl rfl rfl rfl rfl ⟨rfl, rfl, rfl, rfl, rfl⟩ rfl rfl rfl rfl rfl (by kernel_rfl) Try.func6 (by kernel_rfl)
    (of_decide_eq_true (by kernel_rfl)) (by unfold Func.isWrapper; first | (rw [if_pos (by decide +kernel)]; kernel_rfl) | (rw [if_neg (by decide +kernel)]; exact ⟨rfl, rfl⟩))
    (fun os started H enc _ => lifted os started H enc)
end Go.Proofs.Ytpabbpcklgipnaa.budgetParts
namespace Go.Proofs.Ytpabbpcklgipnaa
/-- The row of the law BudgetParts. -/
theorem budgetParts_holds : Rows.BudgetPartsSaid := budgetParts.over
#print axioms budgetParts_holds
end Go.Proofs.Ytpabbpcklgipnaa
