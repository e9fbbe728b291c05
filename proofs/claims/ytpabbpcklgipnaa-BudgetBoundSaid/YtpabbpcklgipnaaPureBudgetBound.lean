/- The law BudgetBound over numbers: in no period more is charged than the size. -/
import Derived.Test.YtpabbpcklgipnaaBudgetBaseBudgetBound
import Derived.Test.YtpabbpcklgipnaaQBudgetBoundx2
import Derived.OpenShut
namespace Go.Proofs.Ytpabbpcklgipnaa.PBudgetBound
open Go.RowKit Go.Proofs.YtpabbpcklgipnaaW.PrintWords Go.Proofs.YtpabbpcklgipnaaW.PrintLast Go.Proofs.Ytpabbpcklgipnaa.Num
set_option linter.unusedVariables false
set_option linter.unusedSimpArgs false

/-- What the server holds of the period k is what was charged in it. -/
def Told (l t k sum : Int) : Prop := (l = k ∧ t = sum) ∨ (l < k ∧ sum = 0)

theorem div_small {P a : Int} (hP : 1 ≤ P) (h0 : 0 ≤ a) (h1 : a ≤ 1000000) : 0 ≤ a / P ∧ a / P ≤ a ∧ a / P * P ≤ a ∧ a < a / P * P + P ∧ wrap64 (Int.tdiv a P) = a / P ∧ (a / P + 1) * P = a / P * P + P ∧ a / P * P + P ≤ 2100000 ∨ P > 1000000 := by
  by_cases hp : P > 1000000
  · exact .inr hp
  left
  have a0 := Int.ediv_nonneg h0 (show 0 ≤ P by omega)
  have a1 := Int.ediv_le_self P h0
  have c := Int.mul_ediv_add_emod a P
  have d := Int.emod_nonneg a (show P ≠ 0 by omega)
  have g := Int.emod_lt_of_pos a (show 0 < P by omega)
  have k : P * (a / P) = a / P * P := Int.mul_comm _ _
  refine ⟨a0, a1, by omega, by omega, ?_, by rw [Int.add_mul, Int.one_mul], by omega⟩
  rw [Int.tdiv_eq_ediv_of_nonneg h0, wrap_id (by omega) (by omega)]

theorem num_zero {P now : Int} (h0 : 0 ≤ now) (h1 : now ≤ 1000000) : numS P 0 now = now / P := by
  unfold numS
  rw [if_neg (by omega), Int.sub_zero]

section
variable {Z P : Int} {ss ns : List Int} (hP : P ≤ 1000) (hs : ∀ x ∈ ss, 0 ≤ x ∧ x ≤ 65535) (hn : ∀ x ∈ ns, -9223372036854775808 ≤ x ∧ x ≤ 9223372036854775807)
include hP hs hn
set_option linter.unusedSectionVars false

/-- The round at a tick of the period k, from the charge on. -/
theorem j3_ev {i now k l t sum : Int} (hi : 0 ≤ i) (hi2 : i < (ns.length : Int)) (hi3 : i < 60) (h0 : 0 ≤ now) (h1 : now ≤ 500000) (hk : k = now / P) (h : Srv Z P l t 0) (ht : Told l t k sum) (hs0 : 0 ≤ sum) (hs1 : sum ≤ Z)
    (next : ∀ now' k' l' t' sum' : Int, now' ≤ now + P → 0 ≤ now' → k' = now' / P → Srv Z P l' t' 0 → Told l' t' k' sum' → 0 ≤ sum' → sum' ≤ Z → Ev (fun j => monocoquelaw30_BudgetBound.l0 j Z P ss ns now' k' sum' (i + 1) Z P l' t' 0) true) :
    Ev (fun j => monocoquelaw30_BudgetBound.j3 j Z P ss ns now k sum i Z P l t 0) true := by
  have hh := h
  unfold Srv at hh
  obtain ⟨d0, d1, d2, d3, d4, d5, d6⟩ : 0 ≤ now / P ∧ now / P ≤ now ∧ now / P * P ≤ now ∧ now < now / P * P + P ∧ wrap64 (Int.tdiv now P) = now / P ∧ (now / P + 1) * P = now / P * P + P ∧ now / P * P + P ≤ 2100000 := by
    rcases div_small (P := P) (a := now) (by omega) h0 (by omega) with h | h
    · exact h
    · omega
  rw [← hk] at d0 d1 d2 d3 d4 d5 d6
  have nk : numS P 0 now = k := by rw [num_zero h0 (by omega), hk]
  have nx : nextS P 0 now = k * P + P := by
    unfold nextS
    rw [nk, if_neg (by omega), d5]
    omega
  have el : leftS Z P l t 0 now = min (Z - sum) (k * P + P - now) := by
    unfold leftS
    rw [nk, nx]
    unfold Told at ht
    rw [if_neg (by omega)]
    by_cases z : k = l
    · rw [if_pos z]
      omega
    · rw [if_neg z]
      omega
  have hc := charge_srv (now := now) (n := rd ns i) h
  have er : ranS Z P l t 0 now (rd ns i) = min (max 0 (rd ns i)) (min (Z - sum) (k * P + P - now)) := by
    unfold ranS
    rw [el]
  have htold : Told (lastS Z P l t 0 now (rd ns i)) (usedS Z P l t 0 now (rd ns i)) k (sum + ranS Z P l t 0 now (rd ns i)) := by
    unfold lastS usedS
    rw [nk]
    by_cases z : ranS Z P l t 0 now (rd ns i) > 0
    · rw [if_pos z, if_pos z]
      refine .inl ⟨rfl, ?_⟩
      unfold Told at ht
      by_cases z2 : k = l
      · rw [if_pos z2]
        omega
      · rw [if_neg z2]
        omega
    · rw [if_neg z, if_neg z, show ranS Z P l t 0 now (rd ns i) = 0 by omega, Int.add_zero]
      exact ht
  refine Ev.step (fun j => by simp only [monocoquelaw30_BudgetBound.j3]; rw [if_pos hi, if_pos hi2]) ?_
  refine Ev.bind (charge_ev (now := now) (n := rd ns i) h) ?_
  generalize ranS Z P l t 0 now (rd ns i) = r at *
  generalize lastS Z P l t 0 now (rd ns i) = l' at *
  generalize usedS Z P l t 0 now (rd ns i) = t' at *
  have w1 : wrap64 (sum + r) = sum + r := wrap_id (by omega) (by omega)
  have w2 : wrap64 (now + r) = now + r := wrap_id (by omega) (by omega)
  have w3 : wrap64 (k + 1) = k + 1 := wrap_id (by omega) (by omega)
  have w4 : wrap64 ((k + 1) * P) = k * P + P := by rw [wrap_id (by omega) (by omega), d5]
  have wi : wrap64 (i + 1) = i + 1 := wrap_id (by omega) (by omega)
  have ho : decide (r < max 0 (rd ns i)) = decide (r < rd ns i) := by
    by_cases z : r < rd ns i
    · rw [decide_eq_true z, decide_eq_true (by omega)]
    · rw [decide_eq_false z, decide_eq_false (by omega)]
  have hnx := next_some (now := now) hc
  rw [nx] at hnx
  have q1 : ¬ r < 0 := by omega
  have q2 : ¬ r > mx (rd ns i) 0 := by rw [mx_max]; omega
  have q3 : ¬ sum + r > Z := by omega
  have q4 : ¬ now + r > k * P + P := by omega
  simp only [w1, w2, w3, w4, ho, if_neg q1, if_neg q2, bne_self_eq_false, Bool.false_eq_true, if_false, if_neg q3, if_neg q4, hnx, Option.bind_some]
  have j5 : Ev (fun j => monocoquelaw30_BudgetBound.j5 j Z P ss ns now k (sum + r) i r false Z P l' t' 0) true := by
    obtain ⟨g0, g1, g2, g3, g4, g5, g6⟩ : 0 ≤ (now + r) / P ∧ (now + r) / P ≤ now + r ∧ (now + r) / P * P ≤ now + r ∧ now + r < (now + r) / P * P + P ∧ wrap64 (Int.tdiv (now + r) P) = (now + r) / P ∧ ((now + r) / P + 1) * P = (now + r) / P * P + P ∧ (now + r) / P * P + P ≤ 2100000 := by
      rcases div_small (P := P) (a := now + r) (by omega) (by omega) (by omega) with h | h
      · exact h
      · omega
    by_cases z : (now + r) / P = k
    · refine Ev.step (fun j => ?_) (next (now + r) k l' t' (sum + r) (by omega) (by omega) z.symm hc htold (by omega) (by omega))
      simp only [monocoquelaw30_BudgetBound.j5, w2]
      rw [if_neg (by decide), if_neg (by omega), g4, if_pos z, wi]
    · have hlt : k < (now + r) / P := by
        have : k ≤ (now + r) / P := by
          rw [hk]
          exact Int.ediv_le_ediv (by omega) (by omega)
        omega
      refine Ev.step (fun j => ?_) (next (now + r) ((now + r) / P) l' t' 0 (by omega) (by omega) rfl hc (.inr ⟨by unfold Told at htold; omega, rfl⟩) (by omega) (by omega))
      simp only [monocoquelaw30_BudgetBound.j5, w2]
      rw [if_neg (by decide), if_neg (by omega), g4, if_neg z, wi]
  by_cases z : r < rd ns i
  · rw [decide_eq_true z]
    refine Ev.step (fun j => by simp only [monocoquelaw30_BudgetBound.j4]; rw [if_neg (by decide), if_pos trivial, if_pos (show r ≥ 0 by omega)]) ?_
    refine Ev.bind (left_ev (now := now) hc) ?_
    simp only [w2, w3, w4]
    refine Ev.congr (fun j => ?_) j5
    by_cases z1 : leftS Z P l' t' 0 now > 0
    · rw [if_pos z1]
      by_cases z2 : now + r < k * P + P
      · rw [if_pos z2, decide_eq_false (by omega)]
      · rw [if_neg z2]
    · rw [if_neg z1]
  · rw [decide_eq_false z]
    exact Ev.step (fun j => by simp only [monocoquelaw30_BudgetBound.j4]; rw [if_neg (by decide), if_neg (by decide)]) j5

theorem loop_ev : ∀ (d : Nat) (i now k l t sum : Int), 0 ≤ i → i ≤ 60 → 60 - i = d → 0 ≤ now → now ≤ i * 2000 → k = now / P → Srv Z P l t 0 → Told l t k sum → 0 ≤ sum → sum ≤ Z → Ev (fun j => monocoquelaw30_BudgetBound.l0 j Z P ss ns now k sum i Z P l t 0) true := by
  have stop : ∀ (i now k l t sum : Int), Ev (fun j => monocoquelaw30_BudgetBound.j2 j Z P ss ns now k sum i false Z P l t 0) true := by
    intro i now k l t sum
    refine Ev.step (f := fun j => (monocoquelaw30_known.f j).bind fun t196 => (some t196)) (fun j => by simp only [monocoquelaw30_BudgetBound.j2]; rw [if_neg (by decide)]) ?_
    exact Ev.bind known_ev (Ev.now _)
  intro d
  induction d with
  | zero =>
    intro i now k l t sum h0 h1 hd n0 n1 hk h ht s0 s1
    refine Ev.step (fun j => ?_) (stop i now k l t sum)
    simp only [monocoquelaw30_BudgetBound.l0]
    rw [decide_eq_false (show ¬ i < 60 by omega)]
    by_cases c : i < (ss.length : Int)
    · rw [if_pos c]
      by_cases c2 : i < (ns.length : Int)
      · rw [if_pos c2]
      · rw [if_neg c2]
    · rw [if_neg c]
  | succ d ih =>
    intro i now k l t sum h0 h1 hd n0 n1 hk h ht s0 s1
    by_cases c : i < (ss.length : Int)
    · by_cases c2 : i < (ns.length : Int)
      · have hh := h
        unfold Srv at hh
        have hm : rd ss i ∈ ss := by
          have hlt : i.toNat < ss.length := by omega
          unfold rd
          rw [List.getD_eq_getElem?_getD, List.getElem?_eq_getElem hlt]
          exact List.getElem_mem hlt
        have hb := hs _ hm
        have q0 := Int.emod_nonneg (rd ss i) (show (1000 : Int) ≠ 0 by decide)
        have q1 := Int.emod_lt_of_pos (rd ss i) (show (0 : Int) < 1000 by decide)
        have step : ∀ now' k' sum' : Int, now' = now + rd ss i % 1000 → k' = now' / P → Told l t k' sum' → 0 ≤ sum' → sum' ≤ Z → Ev (fun j => monocoquelaw30_BudgetBound.j3 j Z P ss ns now' k' sum' i Z P l t 0) true := by
          intro now' k' sum' e1 e2 ht' s0' s1'
          refine j3_ev hP hs hn h0 c2 (by omega) (by omega) (by omega) e2 h ht' s0' s1' ?_
          intro now'' k'' l'' t'' sum'' a1 a2 a3 a4 a5 a6 a7
          exact ih (i + 1) now'' k'' l'' t'' sum'' (by omega) (by omega) (by omega) a2 (by omega) a3 a4 a5 a6 a7
        have w1 : wrap64 (Int.tmod (rd ss i) 1000) = rd ss i % 1000 := by rw [tmod_pos (by omega), wrap_id (by omega) (by omega)]
        have w2 : wrap64 (now + rd ss i % 1000) = now + rd ss i % 1000 := wrap_id (by omega) (by omega)
        generalize rd ss i % 1000 = q at *
        have w3 : wrap64 (Int.tdiv (now + q) P) = (now + q) / P := by
          rcases div_small (P := P) (a := now + q) (by omega) (by omega) (by omega) with h | h
          · exact h.2.2.2.2.1
          · omega
        refine Ev.step (f := fun j => monocoquelaw30_BudgetBound.j2 j Z P ss ns now k sum i true Z P l t 0) (fun j => by simp only [monocoquelaw30_BudgetBound.l0]; rw [if_pos c, if_pos c2, decide_eq_true (show i < 60 by omega)]) ?_
        by_cases z : (now + q) / P = k
        · refine Ev.step (fun j => ?_) (step (now + q) k sum rfl z.symm ht s0 s1)
          simp only [monocoquelaw30_BudgetBound.j2, w1, w2, w3]
          rw [if_pos trivial, if_pos h0, if_pos c, if_neg (by omega), if_pos z]
        · have hlt : k < (now + q) / P := by
            have : k ≤ (now + q) / P := by
              rw [hk]
              exact Int.ediv_le_ediv (by omega) (by omega)
            omega
          refine Ev.step (fun j => ?_) (step (now + q) ((now + q) / P) 0 rfl rfl (.inr ⟨by unfold Told at ht; omega, rfl⟩) (by omega) (by omega))
          simp only [monocoquelaw30_BudgetBound.j2, w1, w2, w3]
          rw [if_pos trivial, if_pos h0, if_pos c, if_neg (by omega), if_neg z]
      · exact Ev.step (fun j => by simp only [monocoquelaw30_BudgetBound.l0]; rw [if_pos c, if_neg c2]) (stop i now k l t sum)
    · exact Ev.step (fun j => by simp only [monocoquelaw30_BudgetBound.l0]; rw [if_neg c]) (stop i now k l t sum)
end

theorem pure_law (a b : Int) (ss ns : List Int) (w0 : (Lit.int .i64 a).wf = true) (w1 : (Lit.int .i64 b).wf = true) (m : ss.length ≤ maxLen) (y : ss.length * 2 ≤ 140737488351232) (w : ∀ x ∈ ss, (fun n : Int => (Lit.int .u16 n).wf = true) x) (m3 : ns.length ≤ maxLen) (y3 : ns.length * 8 ≤ 140737488351232) (w3 : ∀ x ∈ ns, (fun n : Int => (Lit.int .i64 n).wf = true) x) : ∃ k, monocoquelaw30_BudgetBound.f k a b ss ns = some true := by
  refine Ev.rounds (g := fun k => monocoquelaw30_BudgetBound.f k a b ss ns) ?_
  unfold monocoquelaw30_BudgetBound.f
  obtain ⟨P, Z, e1, e2, e3, p0, p1, z0, z1⟩ := any_srv a b
  rw [e1, e2, e3, new_some p0 (by omega) z0 z1]
  rw [show (fun k => if P = 0 then _ else _) = fun k => _ from funext fun k => if_neg (show ¬ P = 0 by omega)]
  simp only [Option.bind_some, if_true]
  refine Ev.step (fun k => by simp only [monocoquelaw30_BudgetBound.j0]; rw [if_neg (by decide)]) ?_
  exact loop_ev p1 (fun x h => bounds_u16 (w x h)) (fun x h => bounds_i64 (w3 x h)) 60 0 0 0 (-1) 0 0 (by decide) (by decide) (by decide) (by decide) (by decide) (by simp) (by unfold Srv; omega) (.inr ⟨by decide, rfl⟩) (by decide) (by omega)

end Go.Proofs.Ytpabbpcklgipnaa.PBudgetBound
