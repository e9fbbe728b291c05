/- The walk through package calls, second part. -/
import Derived.Test.YtijakklhklcjhaaCW1
namespace Go.Proofs.YtijakklhklcjhaaA
open Go
set_option linter.unusedVariables false
set_option linter.unusedSimpArgs false
set_option maxRecDepth 100000

def inC (n : Int) : Bool := decide (0 ≤ n ∧ n < 28)
def cWord (n : Int) : ByteArray := if inC n then cWords.getD n.toNat ByteArray.empty else ⟨#[]⟩
def cHasN (n : Int) : Int := if inC n then cHas.getD n.toNat 0 else 0
def cPrice (n : Int) : Int := if inC n then cPrices.getD n.toNat 0 else 0
def kindA (n : Int) : A := .agg [vA (.string (cWord n)), vA (.int .i64 (cHasN n)), vA (.int .i64 (cPrice n))]

theorem find_spec (n : Int) : Spec Try.prog 23 [vA (.int .i64 n)] [] [] (fun r o t => r = .tup [kindA n, vA (.bool (inC n))] ∧ o = [] ∧ t = []) := by
  refine Spec.of_run [] [] (cuts := []) hM tys_ok Try.func23 Try.ntmps23 Try.results23 rfl rfl ?_
  refine Sat.split (fun h1 => ?_) (fun h1 => ?_)
  · repeat (first | refine Sat.tt ?_ | refine Sat.ff ?_)
    refine Sat.goal ⟨?_, rfl, rfl⟩
    have e : inC n = false := by simp [inC] at h1 ⊢; omega
    simp [kindA, cWord, cHasN, cPrice, e, vA]
  · repeat (first | refine Sat.tt ?_ | refine Sat.ff ?_)
    refine Sat.split (fun h2 => ?_) (fun h2 => ?_)
    · refine Sat.goal ⟨?_, rfl, rfl⟩
      have e : inC n = false := by simp [inC] at h2 ⊢; omega
      simp [kindA, cWord, cHasN, cPrice, e, vA]
    · refine Sat.pure own29 kinds_spec rfl rfl ?_
      have hn : 0 ≤ n ∧ n < 28 := by simp at h1 h2; omega
      refine Sat.need hn ?_
      refine Sat.goal ⟨?_, rfl, rfl⟩
      have e : inC n = true := by simp [inC, hn]
      simp only [kindA, cWord, cHasN, cPrice, e, vA, if_true]
      rfl
theorem own23 : Own Try.prog 23 := Own.of Try.func23 rfl rfl
end Go.Proofs.YtijakklhklcjhaaA
