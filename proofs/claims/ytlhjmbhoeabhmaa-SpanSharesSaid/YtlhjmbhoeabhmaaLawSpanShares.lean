/- The law SpanShares: for every input it returns true, and each argument reads behind the call as it read before. Conditions: none. -/
import Derived.Test.YtlhjmbhoeabhmaaRows
import Derived.Test.YtlhjmbhoeabhmaaOpen
import Derived.Test.YtlhjmbhoeabhmaaPureSpanShares
import Derived.WalkKit
import Derived.ProofKit
import Derived.OpenShut
import Derived.ShutString
import Derived.ChangeOld
import Derived.Below
import Derived.SizedLaws
namespace Go.Proofs.Ytlhjmbhoeabhmaa.spanShares
open Go.ChangeShapes Go.WideShapes Go.ChangeAt Go.RowKit Go.Proofs.YtlhjmbhoeabhmaaW.PrintWords
open Go.ChangeMaps (open_string shut_string)
set_option linter.unusedVariables false
theorem own : ownKnob Try.prog.godebug = none := by kernel_rfl
theorem laidOut : laidOutB Try.prog = true := by kernel_rfl
theorem o55 : Open.Opens Try.prog 55 (Kd.int .u32) (fun n : Int => (Lit.int .u32 n).wf = true) := Open.opens_int Try.underlying55
theorem o53 : Open.Opens Try.prog 53 (Kd.slice 55 (Kd.int .u32)) (fun l => l.length ≤ maxLen ∧ l.length * 4 ≤ 140737488351232 ∧ ∀ x ∈ l, (fun n : Int => (Lit.int .u32 n).wf = true) x) := Open.opens_slice 4 Try.underlying53 (by kernel_rfl) (by kernel_rfl) o55
theorem o54 : Open.Opens Try.prog 54 (Kd.int .u16) (fun n : Int => (Lit.int .u16 n).wf = true) := Open.opens_int Try.underlying54
set_option maxRecDepth 100000 in
theorem lifted (os : Os) (started : os.Started) (H : Type) (enc : TypeId × Value → H) :
    ReturnsInHanded {} Try.checked os 8 .any (Rows.spanSharesSpec.pre6 enc Try.prog Try.f8 Rows.spanSharesRow.domain false) (Rows.spanSharesSpec.post enc Try.prog Try.f8 false true false false) := by
  refine returnsInHanded_of_change_sized (C := Try.checked) own started (by kernel_rfl) Try.func8
    (ChangeSpec.witness6 (enc := enc) (C := Try.checked) false ⟨#[], #[.slice none 0 0, .int .u16 0], []⟩ 8 (by kernel_rfl) (by kernel_rfl) (by kernel_rfl) (by kernel_rfl)) ?_
  intro W base args ds gs before hval0 hW hcnd hsz0 _
  have hsz : (DataW.weightsEach Try.prog (Try.f8.params.toList ++ Rows.spanSharesSpec.plain.varTypes Try.prog) (ds ++ gs)).all (· ≤ reachBytes) = true := hsz0
  have hval : ∀ (j : Nat) t v, Try.f8.params[j]? = some t → args[j]? = some v → Value.okWide Try.prog W .any base t v := hval0
  have hW' := hW
  obtain ⟨p, q, hA0, hV, rfl, hfz, hnd⟩ := hW
  have hA : DataW.TrodAll enc Try.prog W 0 (fun _ => true) true Try.f8.params.toList args.toList ds p := hA0
  rw [Try.params8] at hA hval hsz
  obtain ⟨v0, vs0, d0, ds0, p0, q0, hargs, rfl, rfl, h0, r0⟩ := trodAll_cons hA
  obtain ⟨v1, vs1, d1, ds1, p1, q1, rfl, rfl, rfl, h1, r1⟩ := trodAll_cons r0
  obtain ⟨rfl, rfl, rfl⟩ := trodAll_nil r1
  obtain rfl : args = #[v0, v1] := by cases args; simp_all
  obtain ⟨rfl, rfl⟩ := trodVars_none hV
  have k0 := h0
  have lt0 := Open.lt_places k0
  obtain ⟨l0, ⟨A0, c0, e0, hc0, hr0⟩, ⟨m0, y0, w0⟩⟩ := Open.arg_opens (d := (Kd.slice 55 (Kd.int .u32))) o53 hsz (j := 0) (t := 53) rfl rfl h0
  obtain rfl : v0 = .slice A0 l0.length c0 := Open.cells_slice (okWide_slice Try.underlying53 (hval 0 53 v0 rfl rfl)) e0
  have k1 := h1
  have lt1 := Open.lt_places k1
  obtain ⟨a1, e1, w1⟩ := Open.arg_opens (d := (Kd.int .u16)) o54 hsz (j := 1) (t := 54) rfl rfl h1
  obtain rfl : v1 = .int .u16 a1 := by
    obtain ⟨z, rfl⟩ := okWide_int Try.underlying54 (hval 1 54 v1 rfl rfl)
    have e : (Value.cells _).toList = [.int .u16 a1] := e1
    simpa [Value.cells] using e
  clear hA0 hval0 hsz0 hsz
  obtain ⟨k, h⟩ := PSpanShares.pure_law l0 a1 m0 y0 w0 w1
  have cl : Calls Try.prog 8 #[.slice A0 l0.length c0, .int .u16 a1] W fun e W' => e = .returned (.bool true) ∧ Below W.heap.size W W' := by
    refine (PSpanShares.monocoquelaw01_SpanShares.calls k _ _ l0 a1 true W hr0 hc0 h).mono ?_
    rintro e w' ⟨rfl, hd⟩
    first | exact ⟨rfl, hd⟩ | exact ⟨rfl, hd.below⟩
  refine cl.mono fun e W' ⟨he, bel⟩ => ?_
  subst he
  exact ⟨_, rfl, _, _, _, [], _, [], hW', trodAll_mk1 (shut_bool Try.underlying4 _), (trodAll_cons_mk (Below.trod laidOut (by kernel_rfl) (of_decide_eq_true (by kernel_rfl)) k0 bel lt0) (trodAll_cons_mk (Below.trod laidOut (by kernel_rfl) (of_decide_eq_true (by kernel_rfl)) k1 bel lt1) trodAll_mk0)), rfl, bel.frame _, fun h => by cases h⟩
theorem over : Rows.spanSharesRow.holds Try.pinned (OpenSpec.ofChange Rows.spanSharesSpec) :=
  OpenClaim.holds_of_wide 8 Try.f8 rfl rfl rfl rfl rfl rfl rfl ⟨rfl, rfl, rfl, rfl, rfl⟩ rfl rfl rfl rfl rfl (by kernel_rfl) Try.func8 (by kernel_rfl)
    (of_decide_eq_true (by kernel_rfl)) (by unfold Func.isWrapper; first | (rw [if_pos (by decide +kernel)]; kernel_rfl) | (rw [if_neg (by decide +kernel)]; exact ⟨rfl, rfl⟩))
    (fun os started H enc _ => lifted os started H enc)
end Go.Proofs.Ytlhjmbhoeabhmaa.spanShares
namespace Go.Proofs.Ytlhjmbhoeabhmaa
/-- The row of the law SpanShares. -/
theorem spanShares_holds : Rows.SpanSharesSaid := spanShares.over
#print axioms spanShares_holds
end Go.Proofs.Ytlhjmbhoeabhmaa
