/- The law BudgetParts over numbers: what is charged in parts is what is charged at once. -/
import Derived.Test.YtpabbpcklgipnaaBudgetBaseBudgetParts
import Derived.Test.YtpabbpcklgipnaaQBudgetPartsx4
import Derived.OpenShut
namespace Go.Proofs.Ytpabbpcklgipnaa.PBudgetParts
open Go.RowKit Go.Proofs.YtpabbpcklgipnaaW.PrintWords Go.Proofs.YtpabbpcklgipnaaW.PrintLast Go.Proofs.Ytpabbpcklgipnaa.Num
set_option linter.unusedVariables false
set_option linter.unusedSimpArgs false

/-- The last period charged in, when so much was charged in the period k alone. -/
def lastOf (k ran : Int) : Int := if ran > 0 then k else -1

section
variable {Z P now : Int} {xs : List Int} (hP0 : 1 ≤ P) (hP : P ≤ 1000) (hZ0 : 1 ≤ Z) (hZ : Z ≤ P) (n0 : 0 ≤ now) (n1 : now ≤ 100000) (hx : ∀ x ∈ xs, 0 ≤ x ∧ x ≤ 255)
include hP0 hP hZ0 hZ n0 n1
set_option linter.unusedSectionVars false

theorem in_period {at_ : Int} (h0 : now ≤ at_) (h1 : at_ < (now / P + 1) * P) : numS P 0 at_ = now / P ∧ nextS P 0 at_ = (now / P + 1) * P ∧ (now / P + 1) * P ≤ now + P ∧ 0 ≤ now / P ∧ now < (now / P + 1) * P ∧ (now / P + 1) * P = now / P * P + P := by
  obtain ⟨e, a, b, c, d, g, m⟩ := num_in (P := P) (f := 0) (now := now) hP0 n0 (by omega) (Int.le_refl 0)
  rw [Int.sub_zero] at e
  rw [e] at a b c d g m
  have h2 : at_ ≤ 1099511627776 := by omega
  obtain ⟨e', a', b', c', d', g', m'⟩ := num_in (P := P) (f := 0) (now := at_) hP0 (by omega) h2 (Int.le_refl 0)
  have hk : numS P 0 at_ = now / P := by
    rw [e', Int.sub_zero]
    have l1 : now / P ≤ at_ / P := Int.ediv_le_ediv (by omega) h0
    have l2 : at_ / P < now / P + 1 := Int.ediv_lt_of_lt_mul (by omega) (by omega)
    omega
  rw [hk] at g'
  refine ⟨hk, by omega, by omega, a, by omega, m⟩

theorem srv_of {ran : Int} (h0 : 0 ≤ ran) (h1 : ran ≤ Z) : Srv Z P (lastOf (now / P) ran) ran 0 := by
  have := in_period hP0 hP hZ0 hZ n0 n1 (at_ := now) (Int.le_refl _) (by
    obtain ⟨e, a, b, c, d, g, m⟩ := num_in (P := P) (f := 0) (now := now) hP0 n0 (by omega) (Int.le_refl 0)
    rw [Int.sub_zero] at e
    rw [e] at d
    omega)
  have b2 := Int.ediv_le_self P n0
  unfold Srv lastOf
  refine ⟨hP0, by omega, hZ0, hZ, by decide, by decide, ?_, ?_, h0, h1⟩ <;> split <;> omega

theorem left_of {ran at_ : Int} (h0 : 0 ≤ ran) (h1 : ran ≤ Z) (a0 : now ≤ at_) (a1 : at_ < (now / P + 1) * P) : leftS Z P (lastOf (now / P) ran) ran 0 at_ = min (Z - ran) ((now / P + 1) * P - at_) := by
  obtain ⟨e1, e2, e3, e4, e5, e6⟩ := in_period hP0 hP hZ0 hZ n0 n1 a0 a1
  unfold leftS lastOf
  rw [e1, e2]
  by_cases z : ran > 0
  · rw [if_pos z, if_neg (by omega), if_pos rfl]
  · rw [if_neg z, if_neg (by omega), if_neg (by omega)]
    omega

theorem charge_of {ran at_ n : Int} (h0 : 0 ≤ ran) (h1 : ran ≤ Z) (a0 : now ≤ at_) (a1 : at_ < (now / P + 1) * P) (hn : 0 ≤ n) {r : Int} (hr : r = min n (min (Z - ran) ((now / P + 1) * P - at_))) :
    ranS Z P (lastOf (now / P) ran) ran 0 at_ n = r ∧ lastS Z P (lastOf (now / P) ran) ran 0 at_ n = lastOf (now / P) (ran + r) ∧ usedS Z P (lastOf (now / P) ran) ran 0 at_ n = ran + r := by
  obtain ⟨e1, e2, e3, e4, e5, e6⟩ := in_period hP0 hP hZ0 hZ n0 n1 a0 a1
  have e : ranS Z P (lastOf (now / P) ran) ran 0 at_ n = r := by
    unfold ranS
    rw [left_of hP0 hP hZ0 hZ n0 n1 h0 h1 a0 a1]
    omega
  refine ⟨e, ?_, ?_⟩
  · unfold lastS
    rw [e, e1]
    unfold lastOf
    by_cases z : r > 0
    · rw [if_pos z, if_pos (by omega)]
    · rw [if_neg z, show ran + r = ran by omega]
  · unfold usedS
    rw [e, e1]
    unfold lastOf
    by_cases z : r > 0
    · rw [if_pos z]
      by_cases z2 : ran > 0
      · rw [if_pos z2, if_pos rfl]
      · rw [if_neg z2, if_neg (by omega)]
        omega
    · rw [if_neg z]
      omega

theorem j3_ev {sum : Int} (s0 : 0 ≤ sum) (s1 : sum ≤ 1000000) (hend : now + min sum Z < (now / P + 1) * P) :
    Ev (fun j => monocoquelaw30_BudgetParts.j3 j Z P now ((now / P + 1) * P) sum (min sum Z) Z P (lastOf (now / P) (min sum Z)) (min sum Z) 0 Z P (-1) 0 0) true := by
  obtain ⟨e1, e2, e3, e4, e5, e6⟩ := in_period hP0 hP hZ0 hZ n0 n1 (at_ := now) (Int.le_refl _) (by omega)
  have zero : lastOf (now / P) 0 = -1 := rfl
  have c := charge_of hP0 hP hZ0 hZ n0 n1 (ran := 0) (at_ := now) (n := sum) (by decide) (by omega) (Int.le_refl _) e5 s0 (r := min sum Z) (by omega)
  rw [zero, Int.zero_add] at c
  have sa := srv_of hP0 hP hZ0 hZ n0 n1 (ran := 0) (by decide) (by omega)
  rw [zero] at sa
  have sb := srv_of hP0 hP hZ0 hZ n0 n1 (ran := min sum Z) (by omega) (by omega)
  have ce := charge_ev (now := now) (n := sum) sa
  rw [c.1, c.2.1, c.2.2] at ce
  refine Ev.step (fun j => by simp only [monocoquelaw30_BudgetParts.j3]; rfl) ?_
  refine Ev.bind ce ?_
  refine Ev.bind known_ev ?_
  have w1 : wrap64 ((now / P + 1) * P - 1) = (now / P + 1) * P - 1 := wrap_id (by omega) (by omega)
  simp only [if_true, show max 0 sum = sum by omega, beq_self_eq_true, w1]
  refine Ev.bind (left_ev (now := (now / P + 1) * P - 1) sb) ?_
  refine Ev.bind (left_ev (now := (now / P + 1) * P - 1) sb) ?_
  simp only [if_true]
  refine Ev.bind (left_ev (now := (now / P + 1) * P) sb) ?_
  have b2 := Int.ediv_le_self P n0
  have ee : leftS Z P (lastOf (now / P) (min sum Z)) (min sum Z) 0 ((now / P + 1) * P) = min Z P := by
    have hn : numS P 0 ((now / P + 1) * P) = now / P + 1 := by
      unfold numS
      rw [if_neg (by omega), Int.sub_zero]
      exact Int.mul_ediv_cancel _ (by omega)
    have hx : nextS P 0 ((now / P + 1) * P) = (now / P + 1) * P + P := by
      unfold nextS
      rw [hn, if_neg (by omega), Int.add_mul (now / P + 1), Int.one_mul]
      omega
    have hl : lastOf (now / P) (min sum Z) ≤ now / P := by
      unfold lastOf
      split <;> omega
    unfold leftS
    rw [hn, hx, if_neg (by omega), if_neg (by omega)]
    omega
  simp only [ee, mn_min, if_true, budget_Server_Same.f, beq_self_eq_true, Bool.and_self, Option.bind_some]
  exact Ev.now _

include hx
theorem loop_ev : ∀ (d : Nat) (i sum : Int), 0 ≤ i → i ≤ 20 → 20 - i = d → 0 ≤ sum → sum ≤ i * 50 → now + min sum Z < (now / P + 1) * P →
    Ev (fun j => monocoquelaw30_BudgetParts.l0 j Z P xs now ((now / P + 1) * P) sum (min sum Z) (now + min sum Z) i Z P (lastOf (now / P) (min sum Z)) (min sum Z) 0 Z P (-1) 0 0) true := by
  intro d
  induction d with
  | zero =>
    intro i sum h0 h1 hd s0 s1 he
    have st := j3_ev hP0 hP hZ0 hZ n0 n1 s0 (by omega) he
    have st2 : Ev (fun j => monocoquelaw30_BudgetParts.j2 j Z P xs now ((now / P + 1) * P) sum (min sum Z) (now + min sum Z) i false Z P (lastOf (now / P) (min sum Z)) (min sum Z) 0 Z P (-1) 0 0) true := Ev.step (fun j => by simp only [monocoquelaw30_BudgetParts.j2]; rw [if_neg (by decide)]) st
    refine Ev.step (fun j => ?_) st2
    simp only [monocoquelaw30_BudgetParts.l0]
    rw [decide_eq_false (show ¬ i < 20 by omega)]
    by_cases c : i < (xs.length : Int)
    · rw [if_pos c]
    · rw [if_neg c]
  | succ d ih =>
    intro i sum h0 h1 hd s0 s1 he
    have st := j3_ev hP0 hP hZ0 hZ n0 n1 s0 (by omega) he
    by_cases c : i < (xs.length : Int)
    · have hm : rd xs i ∈ xs := by
        have hlt : i.toNat < xs.length := by omega
        unfold rd
        rw [List.getD_eq_getElem?_getD, List.getElem?_eq_getElem hlt]
        exact List.getElem_mem hlt
      have hb := hx _ hm
      have q0 := Int.emod_nonneg (rd xs i) (show (50 : Int) ≠ 0 by decide)
      have q1 := Int.emod_lt_of_pos (rd xs i) (show (0 : Int) < 50 by decide)
      have w1 : wrap64 (Int.tmod (rd xs i) 50) = rd xs i % 50 := by rw [tmod_pos (by omega), wrap_id (by omega) (by omega)]
      generalize rd xs i % 50 = q at *
      have w2 : wrap64 (now + min sum Z + q) = now + min sum Z + q := wrap_id (by omega) (by omega)
      refine Ev.step (f := fun j => monocoquelaw30_BudgetParts.j2 j Z P xs now ((now / P + 1) * P) sum (min sum Z) (now + min sum Z) i true Z P (lastOf (now / P) (min sum Z)) (min sum Z) 0 Z P (-1) 0 0) (fun j => by simp only [monocoquelaw30_BudgetParts.l0]; rw [if_pos c, decide_eq_true (show i < 20 by omega)]) ?_
      by_cases z : now + min sum Z + q ≥ (now / P + 1) * P
      · exact Ev.step (fun j => by simp only [monocoquelaw30_BudgetParts.j2, w1, w2]; rw [if_pos trivial, if_pos h0, if_pos c, if_pos z]) st
      · refine Ev.step (fun j => by simp only [monocoquelaw30_BudgetParts.j2, w1, w2]; rw [if_pos trivial, if_pos h0, if_pos c, if_neg z]) ?_
        have sv := srv_of hP0 hP hZ0 hZ n0 n1 (ran := min sum Z) (by omega) (by omega)
        have ce := charge_ev (now := now + min sum Z) (n := q) sv
        have c3 := charge_of hP0 hP hZ0 hZ n0 n1 (ran := min sum Z) (at_ := now + min sum Z) (n := q) (by omega) (by omega) (by omega) he q0 (r := min (sum + q) Z - min sum Z) (by omega)
        rw [c3.1, c3.2.1, c3.2.2, show min sum Z + (min (sum + q) Z - min sum Z) = min (sum + q) Z by omega] at ce
        refine Ev.bind ce ?_
        have w3 : wrap64 (sum + q) = sum + q := wrap_id (by omega) (by omega)
        have w4 : wrap64 (min sum Z + (min (sum + q) Z - min sum Z)) = min (sum + q) Z := by rw [wrap_id (by omega) (by omega)]; omega
        have w5 : wrap64 (now + min sum Z + (min (sum + q) Z - min sum Z)) = now + min (sum + q) Z := by rw [wrap_id (by omega) (by omega)]; omega
        have wi : wrap64 (i + 1) = i + 1 := wrap_id (by omega) (by omega)
        simp only [w3, w4, w5, wi]
        exact ih (i + 1) (sum + q) (by omega) (by omega) (by omega) (by omega) (by omega) (by omega)
    · have st2 : Ev (fun j => monocoquelaw30_BudgetParts.j2 j Z P xs now ((now / P + 1) * P) sum (min sum Z) (now + min sum Z) i false Z P (lastOf (now / P) (min sum Z)) (min sum Z) 0 Z P (-1) 0 0) true := Ev.step (fun j => by simp only [monocoquelaw30_BudgetParts.j2]; rw [if_neg (by decide)]) st
      exact Ev.step (fun j => by simp only [monocoquelaw30_BudgetParts.l0]; rw [if_neg c]) st2
end

theorem pure_law (a b c : Int) (xs : List Int) (w0 : (Lit.int .i64 a).wf = true) (w1 : (Lit.int .i64 b).wf = true) (w2 : (Lit.int .i64 c).wf = true) (m : xs.length ≤ maxLen) (y : xs.length * 1 ≤ 140737488351232) (w : ∀ x ∈ xs, (fun n : Int => (Lit.int .u8 n).wf = true) x) : ∃ k, monocoquelaw30_BudgetParts.f k a b c xs = some true := by
  refine Ev.rounds (g := fun k => monocoquelaw30_BudgetParts.f k a b c xs) ?_
  unfold monocoquelaw30_BudgetParts.f
  obtain ⟨P, Z, e1, e2, e3, p0, p1, z0, z1⟩ := any_srv a b
  obtain ⟨f0, f1⟩ := rem_range c 100000 (by decide) (by decide)
  generalize wrap64 (Int.tmod (IntKind.u64.wrap c) 100000) = now at *
  rw [e1, e2, e3, new_some p0 (by omega) z0 z1]
  rw [show (fun k => if P = 0 then _ else _) = fun k => _ from funext fun k => if_neg (show ¬ P = 0 by omega)]
  simp only [Option.bind_some, if_true]
  have sv : Srv Z P (-1) 0 0 := by unfold Srv; omega
  obtain ⟨e, a', b', c', d', g', m'⟩ := num_in (P := P) (f := 0) (now := now) p0 f0 (by omega) (Int.le_refl 0)
  rw [Int.sub_zero] at e
  rw [e] at d' g'
  rw [Int.zero_add] at g'
  have := loop_ev p0 p1 z0 z1 f0 (by omega) (fun x h => bounds_u8 (w x h)) 20 0 0 (by decide) (by decide) (by decide) (by decide) (by decide) (by omega)
  rw [show min 0 Z = 0 by omega, Int.add_zero] at this
  refine Ev.step (fun k => ?_) this
  simp only [monocoquelaw30_BudgetParts.j0]
  rw [if_neg (by decide), next_some sv, g']
  rfl

end Go.Proofs.Ytpabbpcklgipnaa.PBudgetParts
