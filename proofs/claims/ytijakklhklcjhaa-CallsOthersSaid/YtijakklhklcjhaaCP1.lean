/- What calls cost, in plain numbers. -/
import Derived.Test.YtijakklhklcjhaaCW4
import Derived.WalkKit
namespace Go.Proofs.YtijakklhklcjhaaA
open Go
set_option linter.unusedVariables false
set_option linter.unusedSimpArgs false
set_option maxRecDepth 100000

theorem tab : ∀ k : Nat, k < 28 → 1 ≤ cPrice (k : Int) ∧ cPrice (k : Int) ≤ 6 ∧ (bt (cHasN (k : Int)) 4 = true → cPrice (k : Int) ≤ 3) := by decide +kernel
theorem inC_nat {c : Int} (h : inC c = true) : ∃ k : Nat, k < 28 ∧ c = (k : Int) := by
  simp only [inC, decide_eq_true_eq] at h
  exact ⟨c.toNat, by omega, by omega⟩
theorem tabC {c : Int} (h : inC c = true) : 1 ≤ cPrice c ∧ cPrice c ≤ 6 ∧ (bt (cHasN c) 4 = true → cPrice c ≤ 3) := by
  obtain ⟨k, hk, rfl⟩ := inC_nat h
  exact tab k hk
theorem outC {c : Int} (h : inC c = false) : cPrice c = 0 ∧ bt (cHasN c) 4 = false := by
  have e : cHasN c = 0 := by simp [cHasN, h]
  constructor
  · simp [cPrice, h]
  · rw [e]
    decide +kernel
theorem wrap_small {n : Int} (h : -1000000000000000000 ≤ n ∧ n ≤ 1000000000000000000) : IntKind.i64.wrap n = n := by
  rw [IntKind.wrap_i64]
  omega
theorem right_facts {c o a w t : Int} (h : rightB c o a w t = true) : inC c = true ∧ 0 ≤ w ∧ w ≤ 32 ∧ (bt (cHasN c) 4 = false → w = 0) := by
  simp only [rightB, rngB, reqEq, Bool.and_eq_true, decide_eq_true_eq, beq_iff_eq] at h
  refine ⟨h.1.1, by omega, by omega, fun hb => ?_⟩
  have := h.1.2.2.2.2.1
  rw [hb] at this
  simpa [fld] using this
/-- A request's price. -/
theorem price_is {c o a w t : Int} (h : rightB c o a w t = true) : priceN c o a w t = cPrice c + w := by
  obtain ⟨h1, h2, h3, h4⟩ := right_facts h
  obtain ⟨k1, k2, k3⟩ := tabC h1
  simp only [priceN, h, if_true, costN]
  cases hb : bt (cHasN c) 4 with
  | true => simp only [if_true]; exact wrap_small (by omega)
  | false => rw [h4 hb]; simp
theorem most_is (c : Int) : costN (cHasN c) (cPrice c) 32 = if bt (cHasN c) 4 then cPrice c + 32 else cPrice c := by
  simp only [costN]
  cases hb : bt (cHasN c) 4 with
  | true =>
    simp only [if_true]
    refine wrap_small ?_
    cases hc : inC c with
    | true => have := tabC hc; omega
    | false => have := outC hc; rw [this.1]; omega
  | false => rfl
theorem price_0 (c o a w t : Int) : 0 ≤ priceN c o a w t := by
  cases h : rightB c o a w t with
  | true =>
    obtain ⟨h1, h2, h3, h4⟩ := right_facts h
    have := tabC h1
    rw [price_is h]
    omega
  | false => simp [priceN, h]
theorem price_pos {c o a w t : Int} (h : 0 < priceN c o a w t) : rightB c o a w t = true := by
  cases h' : rightB c o a w t with
  | true => rfl
  | false => simp [priceN, h'] at h
theorem price_most (c o a w t : Int) : priceN c o a w t ≤ costN (cHasN c) (cPrice c) 32 ∨ priceN c o a w t = 0 := by
  cases h : rightB c o a w t with
  | true =>
    obtain ⟨h1, h2, h3, h4⟩ := right_facts h
    left
    rw [price_is h, most_is]
    cases hb : bt (cHasN c) 4 with
    | true => simp only [if_true]; omega
    | false => rw [h4 hb]; simp
  | false => right; simp [priceN, h]
theorem price_diff {c o a w t o' a' w' t' : Int} (h : 0 < priceN c o a w t) (h' : 0 < priceN c o' a' w' t') : priceN c o a w t - priceN c o' a' w' t' = w - w' := by
  rw [price_is (price_pos h), price_is (price_pos h')]
  omega
theorem price_same {c o a w t o' a' t' : Int} (h : 0 < priceN c o a w t) (h' : 0 < priceN c o' a' w t') : priceN c o a w t = priceN c o' a' w t' := by
  have := price_diff h h'
  omega
theorem most_in {c : Int} (h : inC c = true) : 1 ≤ costN (cHasN c) (cPrice c) 32 ∧ costN (cHasN c) (cPrice c) 32 ≤ 35 := by
  have k := tabC h
  rw [most_is]
  cases hb : bt (cHasN c) 4 with
  | true => have := k.2.2 hb; simp only [if_true]; omega
  | false => simp; omega
end Go.Proofs.YtijakklhklcjhaaA
