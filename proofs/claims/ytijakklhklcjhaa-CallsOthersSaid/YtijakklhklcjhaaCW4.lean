/- The walk through package calls, fourth part. -/
import Derived.Test.YtijakklhklcjhaaCW3
namespace Go.Proofs.YtijakklhklcjhaaA
open Go
set_option linter.unusedVariables false
set_option linter.unusedSimpArgs false
set_option maxRecDepth 100000

theorem known_spec : Spec Try.prog 11 [] [] [] (fun r ob tg => r = vA (.bool true) ∧ ob = [] ∧ tg = []) := by
  refine Spec.of_run [] [] (cuts := []) hM tys_ok Try.func11 Try.ntmps11 Try.results11 rfl rfl ?_
  refine Sat.pure own10 (decode_spec 9 3 0 0 4294967295 0 0 0 0 0 0 0 0 0 0 0 0) rfl rfl ?_
  repeat' (refine Sat.split ?_ ?_ <;> intro h <;> first | (exact absurd h (by decide)) | skip)
  refine Sat.pure own12 (price_spec _ _ _ _ _) rfl rfl ?_
  repeat' (refine Sat.split ?_ ?_ <;> intro h <;> first | (exact absurd h (by decide)) | skip)
  refine Sat.pure own13 (most_spec _) rfl rfl ?_
  repeat' (refine Sat.split ?_ ?_ <;> intro h <;> first | (exact absurd h (by decide)) | skip)
  refine Sat.goal ?_
  exact ⟨rfl, rfl, rfl⟩
theorem own11 : Own Try.prog 11 := Own.of Try.func11 rfl rfl
end Go.Proofs.YtijakklhklcjhaaA
