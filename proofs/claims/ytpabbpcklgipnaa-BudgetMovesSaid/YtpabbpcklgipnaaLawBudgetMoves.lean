/- The law BudgetMoves: for every input it returns true, and each argument reads behind the call as it read before. Conditions: none. -/
import Derived.Test.YtpabbpcklgipnaaRows
import Derived.Test.YtpabbpcklgipnaaOpen
import Derived.Test.YtpabbpcklgipnaaPureBudgetMoves
import Derived.WalkKit
import Derived.ProofKit
import Derived.OpenShut
import Derived.ShutString
import Derived.ChangeOld
import Derived.Below
import Derived.SizedLaws
namespace Go.Proofs.Ytpabbpcklgipnaa.budgetMoves
open Go.ChangeShapes Go.WideShapes Go.ChangeAt Go.RowKit Go.Proofs.YtpabbpcklgipnaaW.PrintWords
open Go.ChangeMaps (open_string shut_string)
set_option linter.unusedVariables false
theorem own : ownKnob Try.prog.godebug = none := by kernel_rfl
theorem laidOut : laidOutB Try.prog = true := by kernel_rfl
theorem o3 : Open.Opens Try.prog 3 (Kd.int .i64) (fun n : Int => (Lit.int .i64 n).wf = true) := Open.opens_int Try.underlying3
theorem o37 : Open.Opens Try.prog 37 (Kd.int .u32) (fun n : Int => (Lit.int .u32 n).wf = true) := Open.opens_int Try.underlying37
theorem o29 : Open.Opens Try.prog 29 (Kd.int .u16) (fun n : Int => (Lit.int .u16 n).wf = true) := Open.opens_int Try.underlying29
theorem o22 : Open.Opens Try.prog 22 (Kd.slice 29 (Kd.int .u16)) (fun l => l.length ≤ maxLen ∧ l.length * 2 ≤ 140737488351232 ∧ ∀ x ∈ l, (fun n : Int => (Lit.int .u16 n).wf = true) x) := Open.opens_slice 2 Try.underlying22 (by kernel_rfl) (by kernel_rfl) o29
theorem o23 : Open.Opens Try.prog 23 (Kd.slice 3 (Kd.int .i64)) (fun l => l.length ≤ maxLen ∧ l.length * 8 ≤ 140737488351232 ∧ ∀ x ∈ l, (fun n : Int => (Lit.int .i64 n).wf = true) x) := Open.opens_slice 8 Try.underlying23 (by kernel_rfl) (by kernel_rfl) o3
set_option maxRecDepth 100000 in
theorem lifted (os : Os) (started : os.Started) (H : Type) (enc : TypeId × Value → H) :
    ReturnsInHanded {} Try.checked os 5 .any (Rows.budgetMovesSpec.pre6 enc Try.prog Try.f5 Rows.budgetMovesRow.domain false) (Rows.budgetMovesSpec.post enc Try.prog Try.f5 false true false false) := by
  refine returnsInHanded_of_change_sized (C := Try.checked) own started (by kernel_rfl) Try.func5
    (ChangeSpec.witness6 (enc := enc) (C := Try.checked) false ⟨#[], #[.int .i64 0, .int .i64 0, .int .u32 0, .slice none 0 0, .slice none 0 0], []⟩ 8 (by kernel_rfl) (by kernel_rfl) (by kernel_rfl) (by kernel_rfl)) ?_
  intro W base args ds gs before hval0 hW hcnd hsz0 _
  have hsz : (DataW.weightsEach Try.prog (Try.f5.params.toList ++ Rows.budgetMovesSpec.plain.varTypes Try.prog) (ds ++ gs)).all (· ≤ reachBytes) = true := hsz0
  have hval : ∀ (j : Nat) t v, Try.f5.params[j]? = some t → args[j]? = some v → Value.okWide Try.prog W .any base t v := hval0
  have hW' := hW
  obtain ⟨p, q, hA0, hV, rfl, hfz, hnd⟩ := hW
  have hA : DataW.TrodAll enc Try.prog W 0 (fun _ => true) true Try.f5.params.toList args.toList ds p := hA0
  rw [Try.params5] at hA hval hsz
  obtain ⟨v0, vs0, d0, ds0, p0, q0, hargs, rfl, rfl, h0, r0⟩ := trodAll_cons hA
  obtain ⟨v1, vs1, d1, ds1, p1, q1, rfl, rfl, rfl, h1, r1⟩ := trodAll_cons r0
  obtain ⟨v2, vs2, d2, ds2, p2, q2, rfl, rfl, rfl, h2, r2⟩ := trodAll_cons r1
  obtain ⟨v3, vs3, d3, ds3, p3, q3, rfl, rfl, rfl, h3, r3⟩ := trodAll_cons r2
  obtain ⟨v4, vs4, d4, ds4, p4, q4, rfl, rfl, rfl, h4, r4⟩ := trodAll_cons r3
  obtain ⟨rfl, rfl, rfl⟩ := trodAll_nil r4
  obtain rfl : args = #[v0, v1, v2, v3, v4] := by cases args; simp_all
  obtain ⟨rfl, rfl⟩ := trodVars_none hV
  have k0 := h0
  have lt0 := Open.lt_places k0
  obtain ⟨a0, e0, w0⟩ := Open.arg_opens (d := (Kd.int .i64)) o3 hsz (j := 0) (t := 3) rfl rfl h0
  obtain rfl : v0 = .int .i64 a0 := by
    obtain ⟨z, rfl⟩ := okWide_int Try.underlying3 (hval 0 3 v0 rfl rfl)
    have e : (Value.cells _).toList = [.int .i64 a0] := e0
    simpa [Value.cells] using e
  have k1 := h1
  have lt1 := Open.lt_places k1
  obtain ⟨a1, e1, w1⟩ := Open.arg_opens (d := (Kd.int .i64)) o3 hsz (j := 1) (t := 3) rfl rfl h1
  obtain rfl : v1 = .int .i64 a1 := by
    obtain ⟨z, rfl⟩ := okWide_int Try.underlying3 (hval 1 3 v1 rfl rfl)
    have e : (Value.cells _).toList = [.int .i64 a1] := e1
    simpa [Value.cells] using e
  have k2 := h2
  have lt2 := Open.lt_places k2
  obtain ⟨a2, e2, w2⟩ := Open.arg_opens (d := (Kd.int .u32)) o37 hsz (j := 2) (t := 37) rfl rfl h2
  obtain rfl : v2 = .int .u32 a2 := by
    obtain ⟨z, rfl⟩ := okWide_int Try.underlying37 (hval 2 37 v2 rfl rfl)
    have e : (Value.cells _).toList = [.int .u32 a2] := e2
    simpa [Value.cells] using e
  have k3 := h3
  have lt3 := Open.lt_places k3
  obtain ⟨l3, ⟨A3, c3, e3, hc3, hr3⟩, ⟨m3, y3, w3⟩⟩ := Open.arg_opens (d := (Kd.slice 29 (Kd.int .u16))) o22 hsz (j := 3) (t := 22) rfl rfl h3
  obtain rfl : v3 = .slice A3 l3.length c3 := Open.cells_slice (okWide_slice Try.underlying22 (hval 3 22 v3 rfl rfl)) e3
  have k4 := h4
  have lt4 := Open.lt_places k4
  obtain ⟨l4, ⟨A4, c4, e4, hc4, hr4⟩, ⟨m4, y4, w4⟩⟩ := Open.arg_opens (d := (Kd.slice 3 (Kd.int .i64))) o23 hsz (j := 4) (t := 23) rfl rfl h4
  obtain rfl : v4 = .slice A4 l4.length c4 := Open.cells_slice (okWide_slice Try.underlying23 (hval 4 23 v4 rfl rfl)) e4
  clear hA0 hval0 hsz0 hsz
  obtain ⟨k, h⟩ := PBudgetMoves.pure_law a0 a1 a2 l3 l4 w0 w1 w2 m3 y3 w3 m4 y4 w4
  have cl : Calls Try.prog 5 #[.int .i64 a0, .int .i64 a1, .int .u32 a2, .slice A3 l3.length c3, .slice A4 l4.length c4] W fun e W' => e = .returned (.bool true) ∧ Below W.heap.size W W' := by
    refine (PBudgetMoves.monocoquelaw30_BudgetMoves.calls k a0 a1 a2 _ _ l3 _ _ l4 true W hr3 hc3 hr4 hc4 h).mono ?_
    rintro e w' ⟨rfl, hd⟩
    first | exact ⟨rfl, hd⟩ | exact ⟨rfl, hd.below⟩
  refine cl.mono fun e W' ⟨he, bel⟩ => ?_
  subst he
  exact ⟨_, rfl, _, _, _, [], _, [], hW', trodAll_mk1 (shut_bool Try.underlying4 _), (trodAll_cons_mk (Below.trod laidOut (by kernel_rfl) (of_decide_eq_true (by kernel_rfl)) k0 bel lt0) (trodAll_cons_mk (Below.trod laidOut (by kernel_rfl) (of_decide_eq_true (by kernel_rfl)) k1 bel lt1) (trodAll_cons_mk (Below.trod laidOut (by kernel_rfl) (of_decide_eq_true (by kernel_rfl)) k2 bel lt2) (trodAll_cons_mk (Below.trod laidOut (by kernel_rfl) (of_decide_eq_true (by kernel_rfl)) k3 bel lt3) (trodAll_cons_mk (Below.trod laidOut (by kernel_rfl) (of_decide_eq_true (by kernel_rfl)) k4 bel lt4) trodAll_mk0))))), rfl, bel.frame _, fun h => by cases h⟩
theorem over : Rows.budgetMovesRow.holds Try.pinned (OpenSpec.ofChange Rows.budgetMovesSpec) :=
  OpenClaim.holds_of_wide 5 Try.f5 rfl rfl rfl rfl rfl rfl rfl ⟨rfl, rfl, rfl, rfl, rfl⟩ rfl rfl rfl rfl rfl (by kernel_rfl) Try.func5 (by kernel_rfl)
    (of_decide_eq_true (by kernel_rfl)) (by unfold Func.isWrapper; first | (rw [if_pos (by decide +kernel)]; kernel_rfl) | (rw [if_neg (by decide +kernel)]; exact ⟨rfl, rfl⟩))
    (fun os started H enc _ => lifted os started H enc)
end Go.Proofs.Ytpabbpcklgipnaa.budgetMoves
namespace Go.Proofs.Ytpabbpcklgipnaa
/-- The row of the law BudgetMoves. -/
theorem budgetMoves_holds : Rows.BudgetMovesSaid := budgetMoves.over
#print axioms budgetMoves_holds
end Go.Proofs.Ytpabbpcklgipnaa
