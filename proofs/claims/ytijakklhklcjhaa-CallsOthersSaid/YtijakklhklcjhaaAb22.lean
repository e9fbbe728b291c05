/- From a contract to what a row asks of a law. -/
import Derived.Test.YtijakklhklcjhaaAb21
import Derived.Below
namespace Go.Proofs.YtijakklhklcjhaaA
open Go Go.RowKit
set_option linter.unusedVariables false
set_option linter.unusedSimpArgs false

/-- What a law's contract says to its row. -/
theorem Spec.row {P : Program} {f : FuncId} {args : List A} (h : Spec P f args [] [] (fun r o t => r = vA (.bool true) ∧ o = [] ∧ t = [])) {W : World} {vs : Array Value} {ext : Nat → Nat} (hext : ∀ b, W.heap.size ≤ b → ext b = 0) (hv : AVals ⟨ext, [], [], []⟩ W args vs.toList) :
    Calls P f vs W (fun e W' => e = .returned (.bool true) ∧ Below W.heap.size W W') := by
  have hp : Hp ⟨ext, [], [], []⟩ [] [] W := ⟨rfl, fun i o b h => by simp at h, fun i o b h => by simp at h, fun i j b h => by simp at h, fun i b h => by simp at h, rfl, rfl, fun t t' b h => by simp at h, fun t b h => by simp at h, hext⟩
  refine (h ⟨ext, [], [], []⟩ vs W hp hv).mono ?_
  rintro e W' ⟨r, ob, tg, g', u, rfl, ⟨rfl, rfl, rfl⟩, hr, hp', hg, hpre⟩
  have := AVal_vA.1 hr
  subst this
  refine ⟨rfl, hg.os, hg.tape, hg.output, hg.size, fun k hk => hg.old k hk ?_ ?_⟩
  · rintro ⟨i, hi⟩
    simp at hi
  · rintro ⟨i, hi, _⟩
    simp at hi

section
variable {g : Gh} {w : World}
theorem AVals.mkNil : AVals g w [] [] := by simp [AVals]
theorem AVals.mk {x : A} {u : Value} {xs : List A} {us : List Value} (h : AVal g w x u) (h' : AVals g w xs us) : AVals g w (x :: xs) (u :: us) := by
  simp only [AVals]
  exact ⟨u, us, rfl, h, h'⟩
theorem AVal.mkAgg {cs : List A} {us : Array Value} (h : AVals g w cs us.toList) : AVal g w (.agg cs) (.agg us) := by
  simp only [AVal]
  exact ⟨us, rfl, h⟩
theorem AVal.mkV {u : Value} : AVal g w (vA u) u := AVal_vA.2 rfl
end
end Go.Proofs.YtijakklhklcjhaaA
