/- The walk through package calls, third part. -/
import Derived.Test.YtijakklhklcjhaaCW2
namespace Go.Proofs.YtijakklhklcjhaaA
open Go
set_option linter.unusedVariables false
set_option linter.unusedSimpArgs false
set_option maxRecDepth 100000

def reqA (c o a w t : Int) : A := .agg [vA (.int .i64 c), vA (.int .i64 o), vA (.int .u32 a), vA (.int .i64 w), vA (.int .i64 t)]
def bt (h b : Int) : Bool := bitsI .and .i64 h b != 0
def fld (b : Bool) (x : Int) : Int := if b then x else 0

theorem own_spec (c o a w t : Int) (s : ByteArray) (h p : Int) : Spec Try.prog 25 [reqA c o a w t, .agg [vA (.string s), vA (.int .i64 h), vA (.int .i64 p)]] [] [] (fun r ob tg => r = reqA c (fld (bt h 1) o) (fld (bt h 2) a) (fld (bt h 4) w) (fld (bt h 8) t) ∧ ob = [] ∧ tg = []) := by
  refine Spec.of_run [] [] (cuts := []) hM tys_ok Try.func25 Try.ntmps25 Try.results25 rfl rfl ?_
  refine Sat.split (fun h1 => ?_) (fun h1 => ?_) <;> refine Sat.split (fun h2 => ?_) (fun h2 => ?_) <;> refine Sat.split (fun h3 => ?_) (fun h3 => ?_) <;> refine Sat.split (fun h4 => ?_) (fun h4 => ?_) <;>
    (refine Sat.goal ⟨?_, rfl, rfl⟩
     simp only [reqA, vA, fld, bt, h1, h2, h3, h4, if_true, if_false, Bool.false_eq_true])
theorem own25 : Own Try.prog 25 := Own.of Try.func25 rfl rfl

def rngB (c o a w t : Int) : Bool := decide (o ≥ 0) && decide (o ≤ 15) && decide (w ≥ 0) && decide (w ≤ 32) && decide (t ≥ -1) && decide (t < 4294967295) && (c != 26 || decide (a ≥ 1) && decide (a ≤ 27))
theorem ranged_spec (c o a w t : Int) : Spec Try.prog 26 [reqA c o a w t] [] [] (fun r ob tg => r = vA (.bool (rngB c o a w t)) ∧ ob = [] ∧ tg = []) := by
  refine Spec.of_run [] [] (cuts := []) hM tys_ok Try.func26 Try.ntmps26 Try.results26 rfl rfl ?_
  repeat' (refine Sat.split ?_ ?_ <;> intro _ <;> try contradiction)
  all_goals refine Sat.goal ?_
  all_goals refine ⟨?_, rfl, rfl⟩
  all_goals (simp only [vA, rngB]; congr 3; simp_all <;> omega)
theorem own26 : Own Try.prog 26 := Own.of Try.func26 rfl rfl

def reqEq (c o a w t c' o' a' w' t' : Int) : Bool := (c == c' && (o == o' && (a == a' && (w == w' && (t == t' && true)))))
/-- May a request be? -/
def rightB (c o a w t : Int) : Bool := inC c && reqEq c o a w t c (fld (bt (cHasN c) 1) o) (fld (bt (cHasN c) 2) a) (fld (bt (cHasN c) 4) w) (fld (bt (cHasN c) 8) t) && rngB c o a w t
theorem right_spec (c o a w t : Int) : Spec Try.prog 27 [reqA c o a w t] [] [] (fun r ob tg => r = .tup [kindA c, vA (.bool (rightB c o a w t))] ∧ ob = [] ∧ tg = []) := by
  refine Spec.of_run [] [] (cuts := []) hM tys_ok Try.func27 Try.ntmps27 Try.results27 rfl rfl ?_
  refine Sat.pure own23 (find_spec c) rfl rfl ?_
  repeat' (refine Sat.split ?_ ?_ <;> intro _ <;> try contradiction)
  · refine Sat.ppure own25 (own_spec c o a w t _ _ _) rfl rfl ?_
    repeat' (refine Sat.split ?_ ?_ <;> intro _ <;> try contradiction)
    · refine Sat.ppure own26 (ranged_spec c o a w t) rfl rfl ?_
      repeat' (refine Sat.split ?_ ?_ <;> intro _ <;> try contradiction)
      refine Sat.goal ?_
      refine ⟨?_, rfl, rfl⟩
      simp only [rightB, kindA, vA, reqEq, *]
      rfl
    · refine Sat.goal ?_
      refine ⟨?_, rfl, rfl⟩
      simp only [rightB, kindA, vA, reqEq, *]
      rfl
  · refine Sat.goal ?_
    refine ⟨?_, rfl, rfl⟩
    simp only [rightB, kindA, vA, reqEq, *]
    rfl
theorem own27 : Own Try.prog 27 := Own.of Try.func27 rfl rfl

def costN (h p n : Int) : Int := if bt h 4 then IntKind.i64.wrap (p + n) else p
theorem cost_spec (s : ByteArray) (h p n : Int) : Spec Try.prog 28 [.agg [vA (.string s), vA (.int .i64 h), vA (.int .i64 p)], vA (.int .i64 n)] [] [] (fun r ob tg => r = vA (.int .i64 (costN h p n)) ∧ ob = [] ∧ tg = []) := by
  refine Spec.of_run [] [] (cuts := []) hM tys_ok Try.func28 Try.ntmps28 Try.results28 rfl rfl ?_
  refine Sat.split ?_ ?_ <;> intro h1 <;> refine Sat.goal ?_ <;> refine ⟨?_, rfl, rfl⟩
  · have e : bt h 4 = false := by simpa [bt] using h1
    simp only [costN, e, vA]
    rfl
  · have e : bt h 4 = true := by simpa [bt] using h1
    simp only [costN, e, vA, if_true]
theorem own28 : Own Try.prog 28 := Own.of Try.func28 rfl rfl

def priceN (c o a w t : Int) : Int := if rightB c o a w t then costN (cHasN c) (cPrice c) w else 0
theorem price_spec (c o a w t : Int) : Spec Try.prog 12 [reqA c o a w t] [] [] (fun r ob tg => r = vA (.int .i64 (priceN c o a w t)) ∧ ob = [] ∧ tg = []) := by
  refine Spec.of_run [] [] (cuts := []) hM tys_ok Try.func12 Try.ntmps12 Try.results12 rfl rfl ?_
  refine Sat.pure own27 (right_spec c o a w t) rfl rfl ?_
  refine Sat.split ?_ ?_ <;> intro h1
  · refine Sat.goal ?_
    refine ⟨?_, rfl, rfl⟩
    have e : rightB c o a w t = false := by simpa using h1
    simp only [priceN, e, vA]
    rfl
  · refine Sat.pure own28 (cost_spec _ _ _ _) rfl rfl ?_
    refine Sat.goal ?_
    refine ⟨?_, rfl, rfl⟩
    have e : rightB c o a w t = true := by simpa using h1
    simp only [priceN, e, vA, if_true]
theorem own12 : Own Try.prog 12 := Own.of Try.func12 rfl rfl

theorem most_spec (n : Int) : Spec Try.prog 13 [vA (.int .i64 n)] [] [] (fun r ob tg => r = vA (.int .i64 (costN (cHasN n) (cPrice n) 32)) ∧ ob = [] ∧ tg = []) := by
  refine Spec.of_run [] [] (cuts := []) hM tys_ok Try.func13 Try.ntmps13 Try.results13 rfl rfl ?_
  refine Sat.pure own23 (find_spec n) rfl rfl ?_
  refine Sat.pure own28 (cost_spec _ _ _ _) rfl rfl ?_
  refine Sat.goal ?_
  exact ⟨rfl, rfl, rfl⟩
theorem own13 : Own Try.prog 13 := Own.of Try.func13 rfl rfl

def longN (x : Int) : Int := if x = 4294967295 then -1 else IntKind.i64.wrap x
theorem long_spec (x : Int) : Spec Try.prog 24 [vA (.int .u32 x)] [] [] (fun r ob tg => r = vA (.int .i64 (longN x)) ∧ ob = [] ∧ tg = []) := by
  refine Spec.of_run [] [] (cuts := []) hM tys_ok Try.func24 Try.ntmps24 Try.results24 rfl rfl ?_
  refine Sat.split ?_ ?_ <;> intro h1 <;> refine Sat.goal ?_ <;> refine ⟨?_, rfl, rfl⟩
  · have e : x = 4294967295 := by simpa using h1
    simp only [longN, e, vA, if_true]
  · have e : ¬ x = 4294967295 := by simpa using h1
    simp only [longN, e, vA, if_false]
theorem own24 : Own Try.prog 24 := Own.of Try.func24 rfl rfl

/-- Sixteen registers. -/
def regA : List Int → List A
  | [] => []
  | x :: l => vA (.int .u32 x) :: regA l
def decOk (n r0 r1 r2 r3 : Int) : Bool := rngB n (fld (bt (cHasN n) 1) (IntKind.i64.wrap r0)) (fld (bt (cHasN n) 2) r1) (fld (bt (cHasN n) 4) (IntKind.i64.wrap r2)) (fld (bt (cHasN n) 8) (longN r3))
def dOk (n r0 r1 r2 r3 : Int) : Bool := inC n && decOk n r0 r1 r2 r3
def dErr (n r0 r1 r2 r3 : Int) : Int := if inC n then (if decOk n r0 r1 r2 r3 then 0 else 2) else 9
/-- What is decoded: the request's fields, the error. -/
def decN (n r0 r1 r2 r3 : Int) : A :=
  .tup [reqA (fld (dOk n r0 r1 r2 r3) n) (fld (dOk n r0 r1 r2 r3) (fld (bt (cHasN n) 1) (IntKind.i64.wrap r0))) (fld (dOk n r0 r1 r2 r3) (fld (bt (cHasN n) 2) r1)) (fld (dOk n r0 r1 r2 r3) (fld (bt (cHasN n) 4) (IntKind.i64.wrap r2))) (fld (dOk n r0 r1 r2 r3) (fld (bt (cHasN n) 8) (longN r3))), vA (.int .i64 (dErr n r0 r1 r2 r3))]
theorem decode_spec (n r0 r1 r2 r3 r4 r5 r6 r7 r8 r9 r10 r11 r12 r13 r14 r15 : Int) : Spec Try.prog 10 [vA (.int .i64 n), .agg (regA [r0, r1, r2, r3, r4, r5, r6, r7, r8, r9, r10, r11, r12, r13, r14, r15])] [] [] (fun r ob tg => r = decN n r0 r1 r2 r3 ∧ ob = [] ∧ tg = []) := by
  refine Spec.of_run [] [] (cuts := []) hM tys_ok Try.func10 Try.ntmps10 Try.results10 rfl rfl ?_
  refine Sat.pure own23 (find_spec n) rfl rfl ?_
  refine Sat.split ?_ ?_ <;> intro h1
  · refine Sat.goal ?_
    refine ⟨?_, rfl, rfl⟩
    have e : inC n = false := by simpa using h1
    simp only [decN, dOk, dErr, e]
    rfl
  · have e : inC n = true := by simpa using h1
    refine Sat.need (by decide) (Sat.need (by decide) (Sat.need (by decide) (Sat.need (by decide) ?_)))
    refine Sat.ppure own24 (long_spec r3) rfl rfl ?_
    refine Sat.ppure own25 (own_spec _ _ _ _ _ _ _ _) rfl rfl ?_
    refine Sat.pure own26 (ranged_spec _ _ _ _ _) rfl rfl ?_
    refine Sat.split ?_ ?_ <;> intro h2 <;> refine Sat.goal ?_ <;> refine ⟨?_, rfl, rfl⟩
    · have e2 : decOk n r0 r1 r2 r3 = false := by simpa [decOk] using h2
      simp only [decN, dOk, dErr, e, e2, if_true]
      rfl
    · have e2 : decOk n r0 r1 r2 r3 = true := by simpa [decOk] using h2
      simp only [decN, dOk, dErr, e, e2, if_true]
      rfl
theorem own10 : Own Try.prog 10 := Own.of Try.func10 rfl rfl
end Go.Proofs.YtijakklhklcjhaaA
