/- What a Life does, told plainly (law LifeClones): Do, Run, Left, and that the chapter's example holds. -/
import Derived.Test.YtpabbpcklgipnaaNum
import Derived.Test.YtpabbpcklgipnaaQLifeClonesx3

namespace Go.Proofs.Ytpabbpcklgipnaa.PLifeClones
open Go.RowKit Go.Proofs.YtpabbpcklgipnaaW.PrintWords Go.Proofs.YtpabbpcklgipnaaW.PrintLast Go.Proofs.Ytpabbpcklgipnaa.Num
set_option linter.unusedVariables false
set_option linter.unusedSimpArgs false

theorem told_ev : Ev (fun k => monocoquelaw32_told.f k) true := Ev.of (fun k => monocoquelaw32_told.mono k) (k := 30) (by kernel_rfl)

def doS (m r s a : Int) : Int × Bool × Int × Int × Int × Int :=
  if a < 4 ∨ a > 6 then (m, false, 1, m, r, s) else if m = 0 then (0, false, 19, m, r, s) else if a = 6 then (0, false, 0, 0, r, s) else if r - s = 0 then (0, false, 8, 0, r, s)
  else if a = 4 ∧ m ≠ 1 then (2, true, 0, 2, r, s + 1) else (1, true, 0, 1, r, s + 1)
def runS (m r s : Int) : Int × Int × Int × Int := if m = 1 ∨ m = 2 then (0, 3, r, s) else (19, m, r, s)

theorem left_some {m r s : Int} (h0 : 0 ≤ s) (h1 : s ≤ r) (h2 : r ≤ 1000) : life_Life_Left.f m r s = some (r - s, m, r, s) := by
  unfold life_Life_Left.f
  rw [wrap_id (by omega) (by omega)]

theorem run_some (m r s : Int) : life_Life_Run.f m r s = some (runS m r s) := by
  unfold life_Life_Run.f runS
  by_cases h1 : m = 1
  · rw [if_pos h1, if_pos (.inl h1)]
  · rw [if_neg h1]
    by_cases h2 : m = 2
    · rw [if_pos h2, if_pos (.inr h2)]
    · rw [if_neg h2, if_neg (by omega)]

theorem do_ev {m r s a : Int} (h0 : 0 ≤ s) (h1 : s ≤ r) (h2 : r ≤ 1000) : Ev (fun k => life_Life_Do.f k m r s a) (doS m r s a) := by
  have j : ∀ b, (b = true ↔ a < 4 ∨ a > 6) → Ev (fun k => life_Life_Do.j0 k a b m r s) (doS m r s a) := by
    intro b hb
    refine Ev.step (f := fun _ => some (doS m r s a)) (fun k => ?_) (Ev.now _)
    simp only [life_Life_Do.j0]
    unfold doS
    rw [left_some h0 h1 h2]
    simp only [Option.bind_some]
    rw [wrap_id (x := s + 1) (by omega) (by omega)]
    by_cases c1 : b = true
    · rw [if_pos c1, if_pos (hb.1 c1)]
    rw [if_neg c1, if_neg (fun h => c1 (hb.2 h))]
    by_cases c2 : m = 0
    · rw [if_pos c2, if_pos c2]
    rw [if_neg c2, if_neg c2]
    by_cases c3 : a = 6
    · rw [if_pos c3, if_pos c3]
    rw [if_neg c3, if_neg c3]
    by_cases c4 : r - s = 0
    · rw [if_pos c4, if_pos c4]
    rw [if_neg c4, if_neg c4]
    by_cases c5 : a = 4
    · rw [if_pos c5]
      by_cases c6 : m = 1
      · rw [if_pos c6, if_neg (by omega)]
      · rw [if_neg c6, if_pos ⟨c5, c6⟩]
    · rw [if_neg c5, if_neg (by omega)]
  unfold life_Life_Do.f
  by_cases c : a < 4
  · simp only [if_pos c]
    exact j true (by simp [c])
  · simp only [if_neg c]
    exact j _ (by simp; omega)

end Go.Proofs.Ytpabbpcklgipnaa.PLifeClones
