/- A Life and the document's do the same (law LifeClones). -/
import Derived.Test.YtpabbpcklgipnaaLifeBaseLifeClones
import Derived.Test.YtpabbpcklgipnaaQLifeClonesx4
import Derived.Test.YtpabbpcklgipnaaQLifeClonesx5
namespace Go.Proofs.Ytpabbpcklgipnaa.PLifeClones
open Go.RowKit Go.Proofs.YtpabbpcklgipnaaW.PrintWords Go.Proofs.YtpabbpcklgipnaaW.PrintLast Go.Proofs.Ytpabbpcklgipnaa.Num
set_option linter.unusedVariables false
set_option linter.unusedSimpArgs false

/-- What it is at, and how often it began anew, behind an action. -/
def stepS (r m s a : Int) : Int × Int :=
  if a < -9 then (1, 0) else if a < 0 then ((runS m r s).2.1, s) else ((doS m r s a).2.2.2.1, (doS m r s a).2.2.2.2.2)
def Fine (r m s : Int) : Prop := 0 ≤ m ∧ m ≤ 3 ∧ 0 ≤ s ∧ s ≤ r ∧ r ≤ 1000

theorem do_fine {r m s a : Int} (h : Fine r m s) : Fine r (doS m r s a).2.2.2.1 (doS m r s a).2.2.2.2.2 ∧ (doS m r s a).2.2.2.2.1 = r := by
  unfold Fine at *
  unfold doS
  repeat' split
  all_goals simp only [and_true]
  all_goals omega

theorem step_fine {r m s a : Int} (h : Fine r m s) : Fine r (stepS r m s a).1 (stepS r m s a).2 := by
  unfold stepS
  split
  · unfold Fine at *
    simp only []
    omega
  · split
    · unfold Fine runS at *
      simp only []
      split <;> simp only [] <;> omega
    · exact (do_fine h).1

theorem rdo_ev {m r s a : Int} (h : Fine r m s) : Ev (fun k => monocoqueref32_Do.f k m s (r - s) r a) ((doS m r s a).2.2.2.1, (doS m r s a).2.2.2.2.2, r - (doS m r s a).2.2.2.2.2, r, (doS m r s a).2.1, (doS m r s a).2.2.1) ∧ (doS m r s a).1 = (doS m r s a).2.2.2.1 := by
  unfold Fine at h
  have j : ∀ b, (b = true ↔ a < 4 ∨ a > 6) → Ev (fun k => monocoqueref32_Do.j0 k a b m s (r - s) r) ((doS m r s a).2.2.2.1, (doS m r s a).2.2.2.2.2, r - (doS m r s a).2.2.2.2.2, r, (doS m r s a).2.1, (doS m r s a).2.2.1) ∧ (doS m r s a).1 = (doS m r s a).2.2.2.1 := by
    intro b hb
    have e1 : wrap64 (s + 1) = s + 1 := wrap_id (by omega) (by omega)
    by_cases c1 : b = true
    · have d : doS m r s a = (m, false, 1, m, r, s) := by unfold doS; rw [if_pos (hb.1 c1)]
      rw [d]
      refine ⟨Ev.step (f := fun _ => some (m, s, r - s, r, false, 1)) (fun k => ?_) (Ev.now _), rfl⟩
      simp only [monocoqueref32_Do.j0]
      rw [if_pos c1]
    have c1' : ¬ (a < 4 ∨ a > 6) := fun h => c1 (hb.2 h)
    by_cases c2 : m = 0
    · have d : doS m r s a = (0, false, 19, m, r, s) := by unfold doS; rw [if_neg c1', if_pos c2]
      rw [d]
      refine ⟨Ev.step (f := fun _ => some (m, s, r - s, r, false, 19)) (fun k => ?_) (Ev.now _), c2.symm⟩
      simp only [monocoqueref32_Do.j0]
      rw [if_neg c1, if_pos c2]
    by_cases c3 : a = 6
    · have d : doS m r s a = (0, false, 0, 0, r, s) := by unfold doS; rw [if_neg c1', if_neg c2, if_pos c3]
      rw [d]
      refine ⟨Ev.step (f := fun _ => some (0, s, r - s, r, false, 0)) (fun k => ?_) (Ev.now _), rfl⟩
      simp only [monocoqueref32_Do.j0]
      rw [if_neg c1, if_neg c2, if_pos c3]
    by_cases c4 : r - s = 0
    · have d : doS m r s a = (0, false, 8, 0, r, s) := by unfold doS; rw [if_neg c1', if_neg c2, if_neg c3, if_pos c4]
      rw [d]
      refine ⟨Ev.step (f := fun _ => some (0, s, r - s, r, false, 8)) (fun k => ?_) (Ev.now _), rfl⟩
      simp only [monocoqueref32_Do.j0]
      rw [if_neg c1, if_neg c2, if_neg c3, if_pos c4]
    have e2 : wrap64 (r - s - 1) = r - (s + 1) := by rw [wrap_id (by omega) (by omega)]; omega
    by_cases c5 : a = 4 ∧ m ≠ 1
    · have d : doS m r s a = (2, true, 0, 2, r, s + 1) := by unfold doS; rw [if_neg c1', if_neg c2, if_neg c3, if_neg c4, if_pos c5]
      rw [d]
      refine ⟨Ev.step (f := fun _ => some (2, s + 1, r - (s + 1), r, true, 0)) (fun k => ?_) (Ev.now _), rfl⟩
      simp only [monocoqueref32_Do.j0]
      rw [if_neg c1, if_neg c2, if_neg c3, if_neg c4, if_pos c5.1, if_neg c5.2, e1, e2]
    · have d : doS m r s a = (1, true, 0, 1, r, s + 1) := by unfold doS; rw [if_neg c1', if_neg c2, if_neg c3, if_neg c4, if_neg c5]
      rw [d]
      refine ⟨Ev.step (f := fun _ => some (1, s + 1, r - (s + 1), r, true, 0)) (fun k => ?_) (Ev.now _), rfl⟩
      simp only [monocoqueref32_Do.j0]
      rw [if_neg c1, if_neg c2, if_neg c3, if_neg c4, e1, e2]
      by_cases c6 : a = 4
      · rw [if_pos c6, if_pos (by omega)]
      · rw [if_neg c6]
  unfold monocoqueref32_Do.f
  by_cases c : a < 4
  · simp only [if_pos c]
    exact j true (by simp [c])
  · simp only [if_neg c]
    exact j _ (by simp; omega)

theorem rrun_some (m s l f : Int) : monocoqueref32_Run.f m s l f = some ((runS m f s).2.1, s, l, f, (runS m f s).1) := by
  unfold monocoqueref32_Run.f runS
  by_cases h1 : m = 1
  · rw [if_pos h1, if_pos (.inl h1)]
  · rw [if_neg h1]
    by_cases h2 : m = 2
    · rw [if_pos h2, if_pos (.inr h2)]
    · rw [if_neg h2, if_neg (by omega)]

theorem both_ev {m r s a : Int} (h : Fine r m s) : Ev (fun k => monocoquelaw32_do.f k m r s m s (r - s) r a) ((stepS r m s a).1, (stepS r m s a).2, r - (stepS r m s a).2, r, true, (stepS r m s a).1, r, (stepS r m s a).2) := by
  have h' := h
  unfold Fine at h'
  unfold monocoquelaw32_do.f stepS
  by_cases c1 : a < -9
  · simp only [if_pos c1, life_Life_Reset.f, monocoqueref32_New.f, Option.bind_some]
    exact Ev.congr (fun k => by rw [Int.sub_zero]) (Ev.now _)
  simp only [if_neg c1]
  by_cases c2 : a < 0
  · simp only [if_pos c2, rrun_some, run_some, Option.bind_some, beq_self_eq_true]
    have e : (runS m r s).2.2.1 = r ∧ (runS m r s).2.2.2 = s := by
      unfold runS
      split <;> exact ⟨rfl, rfl⟩
    rw [e.1, e.2]
    exact Ev.now _
  simp only [if_neg c2]
  obtain ⟨r1, r2⟩ := rdo_ev (a := a) h
  refine Ev.bind r1 ?_
  refine Ev.bind (do_ev (a := a) (by omega) (by omega) (by omega)) ?_
  have hr := (do_fine (a := a) h).2
  simp only [r2, if_true, beq_self_eq_true, hr]
  exact Ev.now _

theorem same_some {m r s : Int} (h : Fine r m s) : monocoquelaw32_same.f m r s m s (r - s) r = some (true, m, r, s) := by
  unfold Fine at h
  unfold monocoquelaw32_same.f life_Life_Mode.f life_Life_Starts.f
  simp only [Option.bind_some, if_true]
  rw [left_some (by omega) (by omega) (by omega)]
  simp only [Option.bind_some, beq_self_eq_true]

theorem rem_range (n : Int) : 0 ≤ wrap64 (Int.tmod (IntKind.u64.wrap n) 1001) ∧ wrap64 (Int.tmod (IntKind.u64.wrap n) 1001) ≤ 1000 := by
  have h0 : 0 ≤ IntKind.u64.wrap n := by
    simp [IntKind.wrap, IntKind.signed, IntKind.bits]
    omega
  rw [tmod_pos h0]
  have a := Int.emod_nonneg (IntKind.u64.wrap n) (show (1001 : Int) ≠ 0 by decide)
  have b := Int.emod_lt_of_pos (IntKind.u64.wrap n) (show (0 : Int) < 1001 by decide)
  rw [wrap_id (by omega) (by omega)]
  omega

theorem new_some {n : Int} (h0 : 0 ≤ n) (h1 : n ≤ 1000) : life_New.f n = some (1, n, 0, 0) := by
  unfold life_New.f
  rw [if_neg (by omega), if_neg (by omega)]

end Go.Proofs.Ytpabbpcklgipnaa.PLifeClones
