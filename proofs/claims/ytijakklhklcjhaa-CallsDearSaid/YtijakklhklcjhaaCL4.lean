/- The law CallsDear: what its body comes to. -/
import Derived.Test.YtijakklhklcjhaaCP1
namespace Go.Proofs.YtijakklhklcjhaaA
open Go
set_option linter.unusedVariables false
set_option linter.unusedSimpArgs false
set_option maxRecDepth 100000
set_option maxHeartbeats 4000000

theorem dear_spec (c o a w t c' o' a' w' t' : Int) : Spec Try.prog 4 [reqA c o a w t, reqA c' o' a' w' t'] [] [] (fun r ob tg => r = vA (.bool true) ∧ ob = [] ∧ tg = []) := by
  have p0 := price_0 c o a w t
  have p0' := price_0 c' o' a' w' t'
  have p1 := price_most c o a w t
  have p2 : c = c' → 0 < priceN c o a w t → 0 < priceN c' o' a' w' t' → priceN c o a w t - priceN c' o' a' w' t' = w - w' := by
    rintro rfl h h'
    exact price_diff h h'
  have p3 : 0 < priceN c o a w t → 0 < priceN c o' a' w t' → priceN c o a w t = priceN c o' a' w t' := fun h h' => price_same h h'
  refine Spec.of_run [] [] (cuts := []) hM tys_ok Try.func4 Try.ntmps4 Try.results4 rfl rfl ?_
  refine Sat.ppure own12 (price_spec c o a w t) rfl rfl ?_
  refine Sat.ppure own12 (price_spec c' o' a' w' t') rfl rfl ?_
  refine Sat.no (by simp; omega) ?_
  repeat' (refine Sat.split ?_ ?_ <;> intro h <;> first | contradiction | (exfalso; simp only [decide_eq_true_eq] at h; omega) | skip)
  refine Sat.pure own13 (most_spec c) rfl rfl ?_
  repeat' (refine Sat.split ?_ ?_ <;> intro h <;> first | contradiction | (exfalso; simp only [decide_eq_true_eq, decide_eq_false_iff_not, bne_iff_ne, beq_iff_eq, beq_eq_false_iff_ne, bne_eq_false_iff_eq, IntKind.wrap_i64, ne_eq] at *; omega) | skip)
  all_goals (refine Sat.pure own12 (price_spec c o' a' w t') rfl rfl ?_)
  all_goals (repeat' (refine Sat.split ?_ ?_ <;> intro h <;> first | contradiction | (exfalso; simp only [decide_eq_true_eq, decide_eq_false_iff_not, bne_iff_ne, beq_iff_eq, beq_eq_false_iff_ne, bne_eq_false_iff_eq, IntKind.wrap_i64, ne_eq] at *; omega) | skip))
  all_goals (refine Sat.loop {i : Nat // i ≤ 28} (fun i => ⟨91, 0, [(9, vA (.int .i64 (i.1 : Int)))], [], []⟩) (fun i => 28 - i.1) ⟨0, by omega⟩ ?_ ?_)
  all_goals first
    | exact Weak.of [] [] rfl rfl (fun i hi => absurd hi (Nat.not_lt_zero i)) ⟨rfl, trivial⟩ LeHp.none
    | rintro ⟨i, hi⟩
  all_goals (refine Sat.split ?_ ?_ <;> intro hlt)
  all_goals first
    | (have hin : inC (i : Int) = true := by simp only [decide_eq_true_eq] at hlt; simp only [inC, decide_eq_true_eq]; omega
       have hm := most_in hin
       refine Sat.pure own13 (most_spec _) rfl rfl ?_
       refine Sat.no (by simp only [decide_eq_false_iff_not]; omega) ?_
       refine Sat.ff ?_
       refine Sat.pure own13 (most_spec _) rfl rfl ?_
       refine Sat.ff ?_
       refine Sat.ff ?_
       refine Sat.no (by simp only [decide_eq_false_iff_not]; omega) ?_
       refine Sat.goal ?_
       refine ⟨⟨i + 1, by simp only [decide_eq_true_eq] at hlt; omega⟩, ?_, by simp only [decide_eq_true_eq] at hlt; show 28 - (i + 1) < 28 - i; omega⟩
       refine Weak.of [] [] rfl rfl (fun i hi => absurd hi (Nat.not_lt_zero i)) ⟨?_, trivial⟩ LeHp.none
       have e : IntKind.i64.wrap ((i : Int) + 1) = ((i + 1 : Nat) : Int) := by rw [wrap_small (by omega)]; omega
       show (Value.int .i64 (IntKind.i64.wrap ((i : Int) + 1))) = Value.int .i64 ((i + 1 : Nat) : Int)
       rw [e])
    | (refine Sat.pure own11 known_spec rfl rfl ?_
       refine Sat.goal ?_
       exact ⟨rfl, rfl, rfl⟩)
end Go.Proofs.YtijakklhklcjhaaA
