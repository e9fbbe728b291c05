/- The law BudgetNil over numbers: a nil server lets nobody run. -/
import Derived.Test.YtpabbpcklgipnaaNum
import Derived.Test.YtpabbpcklgipnaaQBudgetNilx4
namespace Go.Proofs.Ytpabbpcklgipnaa.PBudgetNil
open Go.RowKit Go.Proofs.YtpabbpcklgipnaaW.PrintWords Go.Proofs.YtpabbpcklgipnaaW.PrintLast Go.Proofs.Ytpabbpcklgipnaa.Num
set_option linter.unusedVariables false
set_option linter.unusedSimpArgs false

theorem known_ev : Ev (fun k => monocoquelaw30_known.f k) true := Ev.of (fun k => monocoquelaw30_known.mono k) (k := 30) (by kernel_rfl)

theorem pure_law (a b : Int) (w0 : (Lit.int .i64 a).wf = true) (w1 : (Lit.int .i64 b).wf = true) : ∃ k, monocoquelaw30_BudgetNil.f k a b = some true := by
  refine Ev.rounds (g := fun k => monocoquelaw30_BudgetNil.f k a b) ?_
  have hz : mn (mx 0 b) 0 = 0 := by unfold mn mx; omega
  have hd : decide (0 < mx 0 b) = decide (b > 0) := by
    unfold mx
    by_cases c : b > 0
    · rw [decide_eq_true c, decide_eq_true (by omega)]
    · rw [decide_eq_false c, decide_eq_false (by omega)]
  have hn : budget_New.f 1 1 = some (1, 1, -1, 0, 0, 0) := by kernel_rfl
  unfold monocoquelaw30_BudgetNil.f budget_Server_Reset_nil0.f budget_Server_Charge_nil0.f budget_Server_Left_nil0.f budget_Server_Next_nil0.f budget_Server_number_nil0.f budget_Server_Clone_nil0.f budget_Server_Same_nil01.f budget_Server_Same_nil0.f
  simp only [Option.bind_some, hn]
  simp only [show (-1 : Int) < 0 from by decide, if_true, Option.bind_some, hz, Int.lt_irrefl, gt_iff_lt, if_false, hd]
  refine Ev.bind known_ev ?_
  simp
  exact Ev.now _

end Go.Proofs.Ytpabbpcklgipnaa.PBudgetNil
