/- The law LifeClones over numbers: a clone is the same, and goes its own way. -/
import Derived.Test.YtpabbpcklgipnaaLifeDoLifeClones
import Derived.Test.YtpabbpcklgipnaaQLifeClonesx6
namespace Go.Proofs.Ytpabbpcklgipnaa.PLifeClones
open Go.RowKit Go.Proofs.YtpabbpcklgipnaaW.PrintWords Go.Proofs.YtpabbpcklgipnaaW.PrintLast Go.Proofs.Ytpabbpcklgipnaa.Num
set_option linter.unusedVariables false
set_option linter.unusedSimpArgs false

theorem twins (m r s m' s' : Int) : (m == m' && (r == r && s == s')) = (m == m' && (s == s' && (r - s == r - s' && r == r))) := by
  by_cases h1 : s = s'
  · subst h1
    simp
  · have h2 : ¬ (r - s = r - s') := by omega
    rw [beq_eq_false_iff_ne.2 h1, beq_eq_false_iff_ne.2 h2]
    simp

theorem l1_ev {r m s : Int} {ys : List Int} (h : Fine r m s) : ∀ (d : Nat) (i m' s' : Int), 0 ≤ i → i ≤ 60 → 60 - i = d → Fine r m' s' → Ev (fun k => monocoquelaw32_LifeClones.l1 k ys i m r s m s (r - s) r m' r s' m' s' (r - s') r) true := by
  have stop : ∀ (i m' s' : Int), Ev (fun k => monocoquelaw32_LifeClones.j4 k ys i false m r s m s (r - s) r m' r s' m' s' (r - s') r) true := by
    intro i m' s'
    exact Ev.step (f := fun _ => some true) (fun k => by simp only [monocoquelaw32_LifeClones.j4]; rw [if_neg (by decide)]) (Ev.now _)
  intro d
  induction d with
  | zero =>
    intro i m' s' h0 h1 hd h'
    by_cases c : i < (ys.length : Int)
    · exact Ev.step (fun k => by simp only [monocoquelaw32_LifeClones.l1]; rw [if_pos c, decide_eq_false (show ¬ i < 60 by omega)]) (stop i m' s')
    · exact Ev.step (fun k => by simp only [monocoquelaw32_LifeClones.l1]; rw [if_neg c]) (stop i m' s')
  | succ d ih =>
    intro i m' s' h0 h1 hd h'
    by_cases c : i < (ys.length : Int)
    · refine Ev.step (f := fun k => monocoquelaw32_LifeClones.j4 k ys i true m r s m s (r - s) r m' r s' m' s' (r - s') r) (fun k => by simp only [monocoquelaw32_LifeClones.l1]; rw [if_pos c, decide_eq_true (show i < 60 by omega)]) ?_
      refine Ev.step (fun k => by simp only [monocoquelaw32_LifeClones.j4]; rw [if_pos trivial, if_pos h0, if_pos c]) ?_
      refine Ev.bind (both_ev (a := rd ys i) h') ?_
      have hf := step_fine (a := rd ys i) h'
      generalize stepS r m' s' (rd ys i) = p at *
      simp only [same_some h, Option.bind_some, if_true]
      rw [same_some hf]
      simp only [Option.bind_some, if_true, life_Life_Same.f]
      rw [← twins]
      simp only [bne_self_eq_false, Bool.false_eq_true, if_false]
      rw [wrap_id (x := i + 1) (by omega) (by omega)]
      exact ih (i + 1) p.1 p.2 (by omega) (by omega) (by omega) hf
    · exact Ev.step (fun k => by simp only [monocoquelaw32_LifeClones.l1]; rw [if_neg c]) (stop i m' s')

theorem j1_ev {r m s : Int} {ys : List Int} (h : Fine r m s) : Ev (fun k => monocoquelaw32_LifeClones.j1 k ys m r s m s (r - s) r) true := by
  refine Ev.step (f := fun k => monocoquelaw32_LifeClones.j2 k ys false m r s m s (r - s) r m r s) (fun k => ?_) ?_
  · simp only [monocoquelaw32_LifeClones.j1, life_Life_Clone.f, life_Life_Same.f, life_Life_Same_nil1.f, Option.bind_some, beq_self_eq_true, Bool.and_self, if_true]
  · refine Ev.step (fun k => by simp only [monocoquelaw32_LifeClones.j2]; rw [if_neg (by decide)]) ?_
    exact l1_ev h 60 0 m s (by decide) (by decide) (by decide) h

theorem loop_ev {r : Int} {xs ys : List Int} : ∀ (d : Nat) (i m s : Int), 0 ≤ i → i ≤ 60 → 60 - i = d → Fine r m s → Ev (fun k => monocoquelaw32_LifeClones.l0 k xs ys i m r s m s (r - s) r) true := by
  intro d
  induction d with
  | zero =>
    intro i m s h0 h1 hd h
    refine Ev.step (fun k => ?_) (j1_ev (ys := ys) h)
    simp only [monocoquelaw32_LifeClones.l0]
    by_cases c : i < (xs.length : Int)
    · rw [if_pos c, if_neg (by omega)]
    · rw [if_neg c]
  | succ d ih =>
    intro i m s h0 h1 hd h
    by_cases c : i < (xs.length : Int)
    · refine Ev.step (fun k => by simp only [monocoquelaw32_LifeClones.l0]; rw [if_pos c, if_pos (by omega), if_pos h0]) ?_
      refine Ev.bind (both_ev (a := rd xs i) h) ?_
      have hf := step_fine (a := rd xs i) h
      simp only []
      rw [wrap_id (x := i + 1) (by omega) (by omega)]
      exact ih (i + 1) _ _ (by omega) (by omega) (by omega) hf
    · exact Ev.step (fun k => by simp only [monocoquelaw32_LifeClones.l0]; rw [if_neg c]) (j1_ev (ys := ys) h)

theorem pure_law (n : Int) (xs ys : List Int) (w0 : (Lit.int .i64 n).wf = true) (m : xs.length ≤ maxLen) (y : xs.length * 8 ≤ 140737488351232) (w : ∀ x ∈ xs, (fun n : Int => (Lit.int .i64 n).wf = true) x) (m2 : ys.length ≤ maxLen) (y2 : ys.length * 8 ≤ 140737488351232) (w2 : ∀ x ∈ ys, (fun n : Int => (Lit.int .i64 n).wf = true) x) : ∃ k, monocoquelaw32_LifeClones.f k n xs ys = some true := by
  refine Ev.rounds (g := fun k => monocoquelaw32_LifeClones.f k n xs ys) ?_
  unfold monocoquelaw32_LifeClones.f
  obtain ⟨h0, h1⟩ := rem_range n
  generalize wrap64 (Int.tmod (IntKind.u64.wrap n) 1001) = r at *
  rw [new_some h0 h1]
  simp only [Option.bind_some]
  refine Ev.bind told_ev ?_
  simp only [if_true, monocoqueref32_New.f, Option.bind_some]
  have := loop_ev (r := r) (xs := xs) (ys := ys) 60 0 1 0 (by decide) (by decide) (by decide) (by unfold Fine; omega)
  rw [Int.sub_zero] at this
  exact this

end Go.Proofs.Ytpabbpcklgipnaa.PLifeClones
