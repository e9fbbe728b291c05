/- The law LifeClones: for every input it returns true, and each argument reads behind the call as it read before. Conditions: none. -/
import Derived.Test.YtpabbpcklgipnaaRows
import Derived.Test.YtpabbpcklgipnaaOpen
import Derived.Test.YtpabbpcklgipnaaPureLifeClones
import Derived.WalkKit
import Derived.ProofKit
import Derived.OpenShut
import Derived.ShutString
import Derived.ChangeOld
import Derived.Below
import Derived.SizedLaws
namespace Go.Proofs.Ytpabbpcklgipnaa.lifeClones
open Go.ChangeShapes Go.WideShapes Go.ChangeAt Go.RowKit Go.Proofs.YtpabbpcklgipnaaW.PrintWords
open Go.ChangeMaps (open_string shut_string)
set_option linter.unusedVariables false
theorem own : ownKnob Try.prog.godebug = none := by kernel_rfl
theorem laidOut : laidOutB Try.prog = true := by kernel_rfl
theorem o3 : Open.Opens Try.prog 3 (Kd.int .i64) (fun n : Int => (Lit.int .i64 n).wf = true) := Open.opens_int Try.underlying3
theorem o23 : Open.Opens Try.prog 23 (Kd.slice 3 (Kd.int .i64)) (fun l => l.length ≤ maxLen ∧ l.length * 8 ≤ 140737488351232 ∧ ∀ x ∈ l, (fun n : Int => (Lit.int .i64 n).wf = true) x) := Open.opens_slice 8 Try.underlying23 (by kernel_rfl) (by kernel_rfl) o3
set_option maxRecDepth 100000 in
theorem lifted (os : Os) (started : os.Started) (H : Type) (enc : TypeId × Value → H) :
    ReturnsInHanded {} Try.checked os 14 .any (Rows.lifeClonesSpec.pre6 enc Try.prog Try.f14 Rows.lifeClonesRow.domain false) (Rows.lifeClonesSpec.post enc Try.prog Try.f14 false true false false) := by
  refine returnsInHanded_of_change_sized (C := Try.checked) own started (by kernel_rfl) Try.func14
    (ChangeSpec.witness6 (enc := enc) (C := Try.checked) false ⟨#[], #[.int .i64 0, .slice none 0 0, .slice none 0 0], []⟩ 8 (by kernel_rfl) (by kernel_rfl) (by kernel_rfl) (by kernel_rfl)) ?_
  intro W base args ds gs before hval0 hW hcnd hsz0 _
  have hsz : (DataW.weightsEach Try.prog (Try.f14.params.toList ++ Rows.lifeClonesSpec.plain.varTypes Try.prog) (ds ++ gs)).all (· ≤ reachBytes) = true := hsz0
  have hval : ∀ (j : Nat) t v, Try.f14.params[j]? = some t → args[j]? = some v → Value.okWide Try.prog W .any base t v := hval0
  have hW' := hW
  obtain ⟨p, q, hA0, hV, rfl, hfz, hnd⟩ := hW
  have hA : DataW.TrodAll enc Try.prog W 0 (fun _ => true) true Try.f14.params.toList args.toList ds p := hA0
  rw [Try.params14] at hA hval hsz
  obtain ⟨v0, vs0, d0, ds0, p0, q0, hargs, rfl, rfl, h0, r0⟩ := trodAll_cons hA
  obtain ⟨v1, vs1, d1, ds1, p1, q1, rfl, rfl, rfl, h1, r1⟩ := trodAll_cons r0
  obtain ⟨v2, vs2, d2, ds2, p2, q2, rfl, rfl, rfl, h2, r2⟩ := trodAll_cons r1
  obtain ⟨rfl, rfl, rfl⟩ := trodAll_nil r2
  obtain rfl : args = #[v0, v1, v2] := by cases args; simp_all
  obtain ⟨rfl, rfl⟩ := trodVars_none hV
  have k0 := h0
  have lt0 := Open.lt_places k0
  obtain ⟨a0, e0, w0⟩ := Open.arg_opens (d := (Kd.int .i64)) o3 hsz (j := 0) (t := 3) rfl rfl h0
  obtain rfl : v0 = .int .i64 a0 := by
    obtain ⟨z, rfl⟩ := okWide_int Try.underlying3 (hval 0 3 v0 rfl rfl)
    have e : (Value.cells _).toList = [.int .i64 a0] := e0
    simpa [Value.cells] using e
  have k1 := h1
  have lt1 := Open.lt_places k1
  obtain ⟨l1, ⟨A1, c1, e1, hc1, hr1⟩, ⟨m1, y1, w1⟩⟩ := Open.arg_opens (d := (Kd.slice 3 (Kd.int .i64))) o23 hsz (j := 1) (t := 23) rfl rfl h1
  obtain rfl : v1 = .slice A1 l1.length c1 := Open.cells_slice (okWide_slice Try.underlying23 (hval 1 23 v1 rfl rfl)) e1
  have k2 := h2
  have lt2 := Open.lt_places k2
  obtain ⟨l2, ⟨A2, c2, e2, hc2, hr2⟩, ⟨m2, y2, w2⟩⟩ := Open.arg_opens (d := (Kd.slice 3 (Kd.int .i64))) o23 hsz (j := 2) (t := 23) rfl rfl h2
  obtain rfl : v2 = .slice A2 l2.length c2 := Open.cells_slice (okWide_slice Try.underlying23 (hval 2 23 v2 rfl rfl)) e2
  clear hA0 hval0 hsz0 hsz
  obtain ⟨k, h⟩ := PLifeClones.pure_law a0 l1 l2 w0 m1 y1 w1 m2 y2 w2
  have cl : Calls Try.prog 14 #[.int .i64 a0, .slice A1 l1.length c1, .slice A2 l2.length c2] W fun e W' => e = .returned (.bool true) ∧ Below W.heap.size W W' := by
    refine (PLifeClones.monocoquelaw32_LifeClones.calls k a0 _ _ l1 _ _ l2 true W hr1 hc1 hr2 hc2 h).mono ?_
    rintro e w' ⟨rfl, hd⟩
    first | exact ⟨rfl, hd⟩ | exact ⟨rfl, hd.below⟩
  refine cl.mono fun e W' ⟨he, bel⟩ => ?_
  subst he
  exact ⟨_, rfl, _, _, _, [], _, [], hW', trodAll_mk1 (shut_bool Try.underlying4 _), (trodAll_cons_mk (Below.trod laidOut (by kernel_rfl) (of_decide_eq_true (by kernel_rfl)) k0 bel lt0) (trodAll_cons_mk (Below.trod laidOut (by kernel_rfl) (of_decide_eq_true (by kernel_rfl)) k1 bel lt1) (trodAll_cons_mk (Below.trod laidOut (by kernel_rfl) (of_decide_eq_true (by kernel_rfl)) k2 bel lt2) trodAll_mk0))), rfl, bel.frame _, fun h => by cases h⟩
theorem over : Rows.lifeClonesRow.holds Try.pinned (OpenSpec.ofChange Rows.lifeClonesSpec) :=
  OpenClaim.holds_of_wide 14 Try.f14 rfl rfl rfl rfl rfl rfl rfl ⟨rfl, rfl, rfl, rfl, rfl⟩ rfl rfl rfl rfl rfl (by kernel_rfl) Try.func14 (by kernel_rfl)
    (of_decide_eq_true (by kernel_rfl)) (by unfold Func.isWrapper; first | (rw [if_pos (by decide +kernel)]; kernel_rfl) | (rw [if_neg (by decide +kernel)]; exact ⟨rfl, rfl⟩))
    (fun os started H enc _ => lifted os started H enc)
end Go.Proofs.Ytpabbpcklgipnaa.lifeClones
namespace Go.Proofs.Ytpabbpcklgipnaa
/-- The row of the law LifeClones. -/
theorem lifeClones_holds : Rows.LifeClonesSaid := lifeClones.over
#print axioms lifeClones_holds
end Go.Proofs.Ytpabbpcklgipnaa
