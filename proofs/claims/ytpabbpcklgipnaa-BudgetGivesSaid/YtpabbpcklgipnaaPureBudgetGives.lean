/- The law BudgetGives over numbers: whoever asks first in a period has it. -/
import Derived.Test.YtpabbpcklgipnaaBudgetBaseBudgetGives
import Derived.Test.YtpabbpcklgipnaaQBudgetGivesx2
import Derived.OpenShut
namespace Go.Proofs.Ytpabbpcklgipnaa.PBudgetGives
open Go.RowKit Go.Proofs.YtpabbpcklgipnaaW.PrintWords Go.Proofs.YtpabbpcklgipnaaW.PrintLast Go.Proofs.Ytpabbpcklgipnaa.Num
set_option linter.unusedVariables false
set_option linter.unusedSimpArgs false

theorem num_at {P f i d : Int} (hP : 1 ≤ P) (hi : 0 ≤ i) (hd : 0 ≤ d) (hd2 : d < P) (hf : 0 ≤ f) (hb : f + i * P + d ≤ 1099511627776) (hp : 0 ≤ i * P) : numS P f (f + i * P + d) = i ∧ nextS P f (f + i * P + d) = f + i * P + P := by
  obtain ⟨e, a, b, c, g, n, m⟩ := num_in (P := P) (f := f) (now := f + i * P + d) hP (by omega) hb hf
  have e2 : numS P f (f + i * P + d) = i := by
    rw [e, show f + i * P + d - f = d + i * P by omega, Int.add_mul_ediv_right _ _ (by omega), Int.ediv_eq_zero_of_lt hd hd2, Int.zero_add]
  refine ⟨e2, ?_⟩
  rw [n, m, e2]
  omega

theorem loop_ev {Z P f : Int} {xs : List Int} (hP : P ≤ 1000) (hf : f ≤ 1000000) (hx : ∀ x ∈ xs, 0 ≤ x ∧ x ≤ 65535) : ∀ (d : Nat) (i l t : Int), 0 ≤ i → i ≤ 40 → 40 - i = d → Srv Z P l t f → l < i → Ev (fun k => monocoquelaw30_BudgetGives.l0 k Z P f xs i Z P l t f) true := by
  have stop : ∀ (i l t : Int), Ev (fun k => monocoquelaw30_BudgetGives.j2 k Z P f xs i false Z P l t f) true := by
    intro i l t
    refine Ev.step (f := fun k => (monocoquelaw30_known.f k).bind fun t196 => (some t196)) (fun k => by simp only [monocoquelaw30_BudgetGives.j2]; rw [if_neg (by decide)]) ?_
    exact Ev.bind known_ev (Ev.now _)
  intro d
  induction d with
  | zero =>
    intro i l t h0 h1 hd h hl
    by_cases c : i < (xs.length : Int)
    · exact Ev.step (fun k => by simp only [monocoquelaw30_BudgetGives.l0]; rw [if_pos c, decide_eq_false (show ¬ i < 40 by omega)]) (stop i l t)
    · exact Ev.step (fun k => by simp only [monocoquelaw30_BudgetGives.l0]; rw [if_neg c]) (stop i l t)
  | succ d ih =>
    intro i l t h0 h1 hd h hl
    by_cases c : i < (xs.length : Int)
    · have hs := h
      unfold Srv at hs
      have hm : rd xs i ∈ xs := by
        have hlt : i.toNat < xs.length := by omega
        unfold rd
        rw [List.getD_eq_getElem?_getD, List.getElem?_eq_getElem hlt]
        exact List.getElem_mem hlt
      have hb := hx _ hm
      have q0 := Int.emod_nonneg (rd xs i) (show Z + 1 ≠ 0 by omega)
      have q1 := Int.emod_lt_of_pos (rd xs i) (show 0 < Z + 1 by omega)
      have ip0 : 0 ≤ i * P := Int.mul_nonneg h0 (by omega)
      have ip1 : i * P ≤ 40000 := by
        have := Int.mul_le_mul (show i ≤ 40 by omega) hP (by omega) (by decide)
        omega
      refine Ev.step (f := fun k => monocoquelaw30_BudgetGives.j2 k Z P f xs i true Z P l t f) (fun k => by simp only [monocoquelaw30_BudgetGives.l0]; rw [if_pos c, decide_eq_true (show i < 40 by omega)]) ?_
      refine Ev.step (fun k => by simp only [monocoquelaw30_BudgetGives.j2]; rw [if_pos trivial, if_pos h0, if_pos c, wrap_id (x := Z + 1) (by omega) (by omega), if_neg (by omega), wrap_id (x := rd xs i) (by omega) (by omega), tmod_pos (by omega)]) ?_
      generalize hn : rd xs i % (Z + 1) = n at *
      have w1 : wrap64 (i * P) = i * P := wrap_id (by omega) (by omega)
      have w2 : wrap64 (f + i * P) = f + i * P := wrap_id (by omega) (by omega)
      have w3 : wrap64 (P - n) = P - n := wrap_id (by omega) (by omega)
      have w4 : Int.tdiv (P - n) 2 = (P - n) / 2 := Int.tdiv_eq_ediv_of_nonneg (by omega)
      have w5 : wrap64 ((P - n) / 2) = (P - n) / 2 := wrap_id (by omega) (by omega)
      have w6 : wrap64 (f + i * P + (P - n) / 2) = f + i * P + (P - n) / 2 := wrap_id (by omega) (by omega)
      have w7 : wrap64 (f + i * P + P) = f + i * P + P := wrap_id (by omega) (by omega)
      have w8 : wrap64 (f + i * P + P - 1) = f + i * P + (P - 1) := by rw [wrap_id (by omega) (by omega)]; omega
      have w9 : wrap64 (Z - n) = Z - n := wrap_id (by omega) (by omega)
      have wi : wrap64 (i + 1) = i + 1 := wrap_id (by omega) (by omega)
      simp only [w1, w2, w3, w4, w5, w6, w7, w8, w9, wi]
      obtain ⟨m1, m2⟩ := num_at (P := P) (f := f) (i := i) (d := (P - n) / 2) (by omega) h0 (by omega) (by omega) (by omega) (by omega) ip0
      obtain ⟨e1, e2⟩ := num_at (P := P) (f := f) (i := i) (d := P - 1) (by omega) h0 (by omega) (by omega) (by omega) (by omega) ip0
      have el : leftS Z P l t f (f + i * P + (P - n) / 2) = min Z (P - (P - n) / 2) := by
        unfold leftS
        rw [m1, m2, if_neg (by omega), if_neg (by omega)]
        omega
      have er : ranS Z P l t f (f + i * P + (P - n) / 2) n = n := by
        unfold ranS
        rw [el]
        omega
      refine Ev.bind (left_ev (now := f + i * P + (P - n) / 2) h) ?_
      simp only [el]
      rw [show (fun k => if min Z (P - (P - n) / 2) < n then _ else _) = fun k => _ from funext fun k => if_neg (show ¬ min Z (P - (P - n) / 2) < n by omega)]
      refine Ev.bind (charge_ev (now := f + i * P + (P - n) / 2) (n := n) h) ?_
      have hc := charge_srv (now := f + i * P + (P - n) / 2) (n := n) h
      have hl2 : lastS Z P l t f (f + i * P + (P - n) / 2) n ≤ i := by
        unfold lastS
        rw [m1]
        split <;> omega
      have hk : leftS Z P (lastS Z P l t f (f + i * P + (P - n) / 2) n) (usedS Z P l t f (f + i * P + (P - n) / 2) n) f (f + i * P + (P - 1)) ≤ Z - n := by
        unfold leftS lastS usedS
        rw [er, m1, e1, e2, if_neg (show ¬ i = l by omega)]
        by_cases z : n > 0
        · rw [if_pos z, if_pos z, if_neg (by omega), if_pos rfl]
          omega
        · rw [if_neg z, if_neg z, if_neg (by omega), if_neg (by omega)]
          omega
      rw [er, show max 0 n = n by omega, decide_eq_false (Int.lt_irrefl n)]
      simp only [if_true, Bool.false_eq_true, if_false]
      refine Ev.bind (left_ev (now := f + i * P + (P - 1)) hc) ?_
      simp only []
      rw [show (fun k => if leftS Z P (lastS Z P l t f (f + i * P + (P - n) / 2) n) (usedS Z P l t f (f + i * P + (P - n) / 2) n) f (f + i * P + (P - 1)) > Z - n then _ else _) = fun k => _ from funext fun k => if_neg (by omega)]
      exact ih (i + 1) _ _ (by omega) (by omega) (by omega) hc (by omega)
    · exact Ev.step (fun k => by simp only [monocoquelaw30_BudgetGives.l0]; rw [if_neg c]) (stop i l t)

theorem pure_law (a b c : Int) (xs : List Int) (w0 : (Lit.int .i64 a).wf = true) (w1 : (Lit.int .i64 b).wf = true) (w2 : (Lit.int .i64 c).wf = true) (m : xs.length ≤ maxLen) (y : xs.length * 2 ≤ 140737488351232) (w : ∀ x ∈ xs, (fun n : Int => (Lit.int .u16 n).wf = true) x) : ∃ k, monocoquelaw30_BudgetGives.f k a b c xs = some true := by
  refine Ev.rounds (g := fun k => monocoquelaw30_BudgetGives.f k a b c xs) ?_
  unfold monocoquelaw30_BudgetGives.f
  obtain ⟨P, Z, e1, e2, e3, p0, p1, z0, z1⟩ := any_srv a b
  obtain ⟨f0, f1⟩ := rem_range c 1000000 (by decide) (by decide)
  generalize wrap64 (Int.tmod (IntKind.u64.wrap c) 1000000) = f at *
  rw [e1, e2, e3, new_some p0 (by omega) z0 z1]
  rw [show (fun k => if P = 0 then _ else _) = fun k => _ from funext fun k => if_neg (show ¬ P = 0 by omega)]
  simp only [Option.bind_some, if_true]
  refine Ev.step (f := fun k => monocoquelaw30_BudgetGives.l0 k Z P f xs 0 Z P (-1) 0 f) (fun k => ?_) (loop_ev p1 (by omega) (fun x h => bounds_u16 (w x h)) 40 0 (-1) 0 (by decide) (by decide) (by decide) (by unfold Srv; omega) (by decide))
  simp only [monocoquelaw30_BudgetGives.j0]
  unfold budget_Server_Reset.f
  rw [if_neg (by decide), if_pos (by omega), if_pos (by omega)]
  rfl

end Go.Proofs.Ytpabbpcklgipnaa.PBudgetGives
