/- The law LifeActs over numbers. -/
import Derived.Test.YtpabbpcklgipnaaLifeDoLifeActs
import Derived.Test.YtpabbpcklgipnaaQLifeActsx4
namespace Go.Proofs.Ytpabbpcklgipnaa.PLifeActs
open Go.RowKit Go.Proofs.YtpabbpcklgipnaaW.PrintWords Go.Proofs.YtpabbpcklgipnaaW.PrintLast Go.Proofs.Ytpabbpcklgipnaa.Num
set_option linter.unusedVariables false
set_option linter.unusedSimpArgs false

theorem loop_ev {r : Int} {xs : List Int} : ∀ (d : Nat) (i m s : Int), 0 ≤ i → i ≤ 150 → 150 - i = d → Fine r m s → Ev (fun k => monocoquelaw32_LifeActs.l0 k xs i m r s m s (r - s) r) true := by
  have stop : ∀ (i m s : Int), Fine r m s → Ev (fun k => monocoquelaw32_LifeActs.j1 k xs i false m r s m s (r - s) r) true := by
    intro i m s h
    refine Ev.step (f := fun _ => some true) (fun k => ?_) (Ev.now _)
    simp only [monocoquelaw32_LifeActs.j1]
    rw [if_neg (by decide), same_some h]
    rfl
  intro d
  induction d with
  | zero =>
    intro i m s h0 h1 hd h
    by_cases c : i < (xs.length : Int)
    · refine Ev.step (fun k => by simp only [monocoquelaw32_LifeActs.l0]; rw [if_pos c, decide_eq_false (show ¬ i < 150 by omega)]) (stop i m s h)
    · exact Ev.step (fun k => by simp only [monocoquelaw32_LifeActs.l0]; rw [if_neg c]) (stop i m s h)
  | succ d ih =>
    intro i m s h0 h1 hd h
    by_cases c : i < (xs.length : Int)
    · refine Ev.step (f := fun k => monocoquelaw32_LifeActs.j1 k xs i true m r s m s (r - s) r) (fun k => by simp only [monocoquelaw32_LifeActs.l0]; rw [if_pos c, decide_eq_true (show i < 150 by omega)]) ?_
      refine Ev.step (fun k => by simp only [monocoquelaw32_LifeActs.j1]; rw [if_pos trivial, if_pos h0, if_pos c]) ?_
      refine Ev.bind (both_ev (a := rd xs i) h) ?_
      have hf := step_fine (a := rd xs i) h
      simp only [if_true]
      rw [same_some hf]
      simp only [Option.bind_some, if_true]
      rw [wrap_id (x := i + 1) (by omega) (by omega)]
      exact ih (i + 1) _ _ (by omega) (by omega) (by omega) hf
    · exact Ev.step (fun k => by simp only [monocoquelaw32_LifeActs.l0]; rw [if_neg c]) (stop i m s h)

theorem pure_law (n : Int) (xs : List Int) (w0 : (Lit.int .i64 n).wf = true) (m : xs.length ≤ maxLen) (y : xs.length * 8 ≤ 140737488351232) (w : ∀ x ∈ xs, (fun n : Int => (Lit.int .i64 n).wf = true) x) : ∃ k, monocoquelaw32_LifeActs.f k n xs = some true := by
  refine Ev.rounds (g := fun k => monocoquelaw32_LifeActs.f k n xs) ?_
  unfold monocoquelaw32_LifeActs.f
  obtain ⟨h0, h1⟩ := rem_range n
  generalize wrap64 (Int.tmod (IntKind.u64.wrap n) 1001) = r at *
  rw [new_some h0 h1]
  simp only [Option.bind_some]
  refine Ev.bind told_ev ?_
  simp only [if_true, monocoqueref32_New.f, Option.bind_some]
  have := loop_ev (r := r) (xs := xs) 150 0 1 0 (by decide) (by decide) (by decide) (by unfold Fine; omega)
  rw [Int.sub_zero] at this
  exact this

end Go.Proofs.Ytpabbpcklgipnaa.PLifeActs
