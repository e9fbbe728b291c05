/- What a server of budgets does, told plainly (law BudgetParts): number, Next, Left, Charge, and that the chapter's example holds. -/
import Derived.Test.YtpabbpcklgipnaaNum
import Derived.Test.YtpabbpcklgipnaaQBudgetPartsx3

namespace Go.Proofs.Ytpabbpcklgipnaa.PBudgetParts
open Go.RowKit Go.Proofs.YtpabbpcklgipnaaW.PrintWords Go.Proofs.YtpabbpcklgipnaaW.PrintLast Go.Proofs.Ytpabbpcklgipnaa.Num
set_option linter.unusedVariables false
set_option linter.unusedSimpArgs false

theorem known_ev : Ev (fun k => monocoquelaw30_known.f k) true := Ev.of (fun k => monocoquelaw30_known.mono k) (k := 30) (by kernel_rfl)

/-- A server as it may be: size, period, the last period charged in, what was charged there, from where periods count. -/
def Srv (Z P l t f : Int) : Prop := 1 ≤ P ∧ P ≤ 1048576 ∧ 1 ≤ Z ∧ Z ≤ P ∧ 0 ≤ f ∧ f ≤ 1099511627776 ∧ -1 ≤ l ∧ l ≤ 1099511627776 ∧ 0 ≤ t ∧ t ≤ Z
def numS (P f now : Int) : Int := if now < f ∨ now > 1099511627776 then -1 else (now - f) / P
def nextS (P f now : Int) : Int := if numS P f now < 0 then 0 else f + (numS P f now + 1) * P
def leftS (Z P l t f now : Int) : Int := if numS P f now < 0 ∨ numS P f now < l then 0 else min (Z - if numS P f now = l then t else 0) (nextS P f now - now)
def ranS (Z P l t f now n : Int) : Int := min (max 0 n) (leftS Z P l t f now)
def lastS (Z P l t f now n : Int) : Int := if ranS Z P l t f now n > 0 then numS P f now else l
def usedS (Z P l t f now n : Int) : Int := if ranS Z P l t f now n > 0 then (if numS P f now = l then t else 0) + ranS Z P l t f now n else t

theorem mx_max (a b : Int) : mx a b = max a b := by unfold mx; omega
theorem mn_min (a b : Int) : mn a b = min a b := by unfold mn; omega

theorem num_out {P f now : Int} (h : now < f ∨ now > 1099511627776) : numS P f now = -1 := by unfold numS; rw [if_pos h]
theorem num_in {P f now : Int} (hP : 1 ≤ P) (h0 : f ≤ now) (h1 : now ≤ 1099511627776) (hf : 0 ≤ f) : numS P f now = (now - f) / P ∧ 0 ≤ numS P f now ∧ numS P f now ≤ 1099511627776 ∧ numS P f now * P ≤ now - f ∧ now - f < (numS P f now + 1) * P ∧ nextS P f now = f + (numS P f now + 1) * P ∧ (numS P f now + 1) * P = numS P f now * P + P := by
  have e : numS P f now = (now - f) / P := by
    unfold numS
    rw [if_neg (by omega)]
  have a := Int.ediv_nonneg (show 0 ≤ now - f by omega) (show 0 ≤ P by omega)
  have b := Int.ediv_le_self P (show 0 ≤ now - f by omega)
  have c := Int.mul_ediv_add_emod (now - f) P
  have d := Int.emod_nonneg (now - f) (show P ≠ 0 by omega)
  have g := Int.emod_lt_of_pos (now - f) (show 0 < P by omega)
  have m : ((now - f) / P + 1) * P = (now - f) / P * P + P := by rw [Int.add_mul, Int.one_mul]
  have k : P * ((now - f) / P) = (now - f) / P * P := Int.mul_comm _ _
  refine ⟨e, by omega, by omega, by rw [e]; omega, by rw [e]; omega, ?_, by rw [e]; exact m⟩
  unfold nextS
  rw [if_neg (by omega)]

theorem num_some {Z P l t f now : Int} (h : Srv Z P l t f) : budget_Server_number.f Z P l t f now = some (numS P f now, Z, P, l, t, f) := by
  unfold Srv at h
  unfold budget_Server_number.f
  by_cases c1 : now < f
  · rw [if_pos c1, num_out (.inl c1)]
  rw [if_neg c1]
  by_cases c2 : now > 1099511627776
  · rw [if_pos c2, num_out (.inr c2)]
  obtain ⟨e, a, b, _⟩ := num_in (P := P) (f := f) (now := now) (by omega) (by omega) (by omega) (by omega)
  rw [if_neg c2, if_neg (by omega), wrap_id (x := now - f) (by omega) (by omega), Int.tdiv_eq_ediv_of_nonneg (by omega), ← e, wrap_id (by omega) (by omega)]

theorem next_some {Z P l t f now : Int} (h : Srv Z P l t f) : budget_Server_Next.f Z P l t f now = some (nextS P f now, Z, P, l, t, f) := by
  unfold budget_Server_Next.f
  rw [num_some h]
  simp only [Option.bind_some]
  unfold Srv at h
  by_cases c : numS P f now < 0
  · rw [if_pos c]
    unfold nextS
    rw [if_pos c]
  · have hin : f ≤ now ∧ now ≤ 1099511627776 := by
      by_cases c2 : now < f ∨ now > 1099511627776
      · rw [num_out c2] at c
        omega
      · omega
    obtain ⟨e, a, b, d, g, n, m⟩ := num_in (P := P) (f := f) (now := now) (by omega) (by omega) (by omega) (by omega)
    rw [if_neg c, n, wrap_id (x := numS P f now + 1) (by omega) (by omega), m, wrap_id (x := numS P f now * P + P) (by omega) (by omega), wrap_id (by omega) (by omega)]

theorem left_ev {Z P l t f now : Int} (h : Srv Z P l t f) : Ev (fun k => budget_Server_Left.f k Z P l t f now) (leftS Z P l t f now, Z, P, l, t, f) := by
  have hh := h
  unfold Srv at hh
  unfold budget_Server_Left.f
  rw [num_some h]
  simp only [Option.bind_some]
  have j : ∀ b, (b = true ↔ numS P f now < 0 ∨ numS P f now < l) → Ev (fun k => budget_Server_Left.j0 k now (numS P f now) b Z P l t f) (leftS Z P l t f now, Z, P, l, t, f) := by
    intro b hb
    refine Ev.step (f := fun _ => some (leftS Z P l t f now, Z, P, l, t, f)) (fun k => ?_) (Ev.now _)
    simp only [budget_Server_Left.j0]
    rw [next_some h]
    simp only [Option.bind_some]
    unfold leftS
    by_cases c : b = true
    · rw [if_pos c, if_pos (hb.1 c)]
    · have c' : ¬ (numS P f now < 0 ∨ numS P f now < l) := fun x => c (hb.2 x)
      have hin : f ≤ now ∧ now ≤ 1099511627776 := by
        by_cases c2 : now < f ∨ now > 1099511627776
        · rw [num_out c2] at c'
          omega
        · omega
      obtain ⟨e, a, b', d, g, n, m⟩ := num_in (P := P) (f := f) (now := now) (by omega) (by omega) (by omega) (by omega)
      rw [if_neg c, if_neg c', wrap_id (x := Z - t) (by omega) (by omega), wrap_id (x := nextS P f now - now) (by omega) (by omega)]
      by_cases c3 : numS P f now = l
      · rw [if_pos c3, if_pos c3, mn_min]
      · rw [if_neg c3, if_neg c3, mn_min, Int.sub_zero]
  by_cases c : numS P f now < 0
  · simp only [if_pos c]
    exact j true (by simp [c])
  · simp only [if_neg c]
    exact j _ (by simp; omega)

theorem left_range {Z P l t f now : Int} (h : Srv Z P l t f) : 0 ≤ leftS Z P l t f now ∧ leftS Z P l t f now ≤ Z := by
  unfold Srv at h
  unfold leftS
  by_cases c' : numS P f now < 0 ∨ numS P f now < l
  · rw [if_pos c']
    omega
  · have hin : f ≤ now ∧ now ≤ 1099511627776 := by
      by_cases c2 : now < f ∨ now > 1099511627776
      · rw [num_out c2] at c'
        omega
      · omega
    obtain ⟨e, a, b', d, g, n, m⟩ := num_in (P := P) (f := f) (now := now) (by omega) (by omega) (by omega) (by omega)
    rw [if_neg c']
    split <;> omega

theorem ran_pos {Z P l t f now n : Int} (h : Srv Z P l t f) (hr : ranS Z P l t f now n > 0) : f ≤ now ∧ now ≤ 1099511627776 ∧ 0 ≤ numS P f now ∧ l ≤ numS P f now ∧ ranS Z P l t f now n ≤ Z - (if numS P f now = l then t else 0) ∧ now + ranS Z P l t f now n ≤ nextS P f now := by
  unfold ranS leftS at *
  by_cases c' : numS P f now < 0 ∨ numS P f now < l
  · rw [if_pos c'] at hr
    omega
  · rw [if_neg c'] at hr ⊢
    have hin : f ≤ now ∧ now ≤ 1099511627776 := by
      by_cases c2 : now < f ∨ now > 1099511627776
      · rw [num_out c2] at c'
        omega
      · omega
    refine ⟨hin.1, hin.2, by omega, by omega, by omega, by omega⟩

theorem charge_srv {Z P l t f now n : Int} (h : Srv Z P l t f) : Srv Z P (lastS Z P l t f now n) (usedS Z P l t f now n) f := by
  unfold lastS usedS
  by_cases c : ranS Z P l t f now n > 0
  · obtain ⟨h1, h2, h3, h4, h5, h6⟩ := ran_pos h c
    rw [if_pos c, if_pos c]
    unfold Srv at *
    obtain ⟨e, a, b', d, g, nn, m⟩ := num_in (P := P) (f := f) (now := now) (by omega) (by omega) (by omega) (by omega)
    refine ⟨by omega, by omega, by omega, by omega, by omega, by omega, by omega, by omega, ?_, ?_⟩
    · split <;> omega
    · split at h5 <;> split <;> omega
  · rw [if_neg c, if_neg c]
    exact h

theorem charge_ev {Z P l t f now n : Int} (h : Srv Z P l t f) : Ev (fun k => budget_Server_Charge.f k Z P l t f now n) (ranS Z P l t f now n, decide (ranS Z P l t f now n < max 0 n), Z, P, lastS Z P l t f now n, usedS Z P l t f now n, f) := by
  unfold budget_Server_Charge.f
  refine Ev.bind (left_ev (now := now) h) ?_
  simp only []
  rw [mx_max, mn_min]
  have er : min (max 0 n) (leftS Z P l t f now) = ranS Z P l t f now n := rfl
  rw [er, num_some h]
  simp only [Option.bind_some]
  have lr := left_range (now := now) h
  have rr : ranS Z P l t f now n ≤ Z := by
    unfold ranS
    omega
  refine Ev.congr (f := fun _ => some (ranS Z P l t f now n, decide (ranS Z P l t f now n < max 0 n), Z, P, lastS Z P l t f now n, usedS Z P l t f now n, f)) (fun k => ?_) (Ev.now _)
  have hh := h
  unfold Srv at hh
  unfold lastS usedS
  by_cases c : ranS Z P l t f now n > 0
  · simp only [if_pos c]
    by_cases c2 : numS P f now = l
    · obtain ⟨h1, h2, h3, h4, h5, h6⟩ := ran_pos h c
      rw [if_pos c2] at h5
      rw [if_pos c2, if_pos c2, wrap_id (x := t + _) (by omega) (by omega), c2]
    · rw [if_neg c2, if_neg c2, wrap_id (by omega) (by omega), Int.zero_add]
  · simp only [if_neg c]

theorem new_some {Z P : Int} (h0 : 1 ≤ P) (h1 : P ≤ 1048576) (h2 : 1 ≤ Z) (h3 : Z ≤ P) : budget_New.f Z P = some (Z, P, -1, 0, 0, 0) := by
  unfold budget_New.f
  rw [if_neg (by omega), if_neg (by omega), if_neg (by omega), if_neg (by omega)]

theorem u64_nonneg (n : Int) : 0 ≤ IntKind.u64.wrap n := by
  simp [IntKind.wrap, IntKind.signed, IntKind.bits]
  omega
theorem u64_id {n : Int} (h0 : 0 ≤ n) (h1 : n ≤ 9223372036854775807) : IntKind.u64.wrap n = n := by
  simp [IntKind.wrap, IntKind.signed, IntKind.bits]
  omega
theorem rem_range (n q : Int) (hq : 0 < q) (hq2 : q ≤ 1000000) : 0 ≤ wrap64 (Int.tmod (IntKind.u64.wrap n) q) ∧ wrap64 (Int.tmod (IntKind.u64.wrap n) q) < q := by
  rw [tmod_pos (u64_nonneg n)]
  have a := Int.emod_nonneg (IntKind.u64.wrap n) (show q ≠ 0 by omega)
  have b := Int.emod_lt_of_pos (IntKind.u64.wrap n) hq
  rw [wrap_id (by omega) (by omega)]
  omega

/-- A period and a size out of any two numbers. -/
theorem any_srv (a b : Int) : ∃ P Z : Int, wrap64 (1 + wrap64 (Int.tmod (IntKind.u64.wrap b) 1000)) = P ∧ IntKind.u64.wrap P = P ∧ wrap64 (1 + wrap64 (Int.tmod (IntKind.u64.wrap a) P)) = Z ∧ 1 ≤ P ∧ P ≤ 1000 ∧ 1 ≤ Z ∧ Z ≤ P := by
  obtain ⟨b0, b1⟩ := rem_range b 1000 (by decide) (by decide)
  have e1 : wrap64 (1 + wrap64 (Int.tmod (IntKind.u64.wrap b) 1000)) = 1 + wrap64 (Int.tmod (IntKind.u64.wrap b) 1000) := wrap_id (by omega) (by omega)
  have p0 : 1 ≤ 1 + wrap64 (Int.tmod (IntKind.u64.wrap b) 1000) := by omega
  have p1 : 1 + wrap64 (Int.tmod (IntKind.u64.wrap b) 1000) ≤ 1000 := by omega
  obtain ⟨a0, a1⟩ := rem_range a (1 + wrap64 (Int.tmod (IntKind.u64.wrap b) 1000)) (by omega) (by omega)
  have e2 : wrap64 (1 + wrap64 (Int.tmod (IntKind.u64.wrap a) (1 + wrap64 (Int.tmod (IntKind.u64.wrap b) 1000)))) = 1 + wrap64 (Int.tmod (IntKind.u64.wrap a) (1 + wrap64 (Int.tmod (IntKind.u64.wrap b) 1000))) := wrap_id (by omega) (by omega)
  exact ⟨_, _, e1, u64_id (by omega) (by omega), e2, p0, p1, by omega, by omega⟩

end Go.Proofs.Ytpabbpcklgipnaa.PBudgetParts
