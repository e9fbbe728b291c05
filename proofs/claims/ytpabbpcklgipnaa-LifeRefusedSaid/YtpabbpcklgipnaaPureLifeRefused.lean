/- The law LifeRefused over numbers: what is refused changes nothing. -/
import Derived.Test.YtpabbpcklgipnaaLifeDoLifeRefused
import Derived.Test.YtpabbpcklgipnaaQLifeRefusedx4
namespace Go.Proofs.Ytpabbpcklgipnaa.PLifeRefused
open Go.RowKit Go.Proofs.YtpabbpcklgipnaaW.PrintWords Go.Proofs.YtpabbpcklgipnaaW.PrintLast Go.Proofs.Ytpabbpcklgipnaa.Num
set_option linter.unusedVariables false
set_option linter.unusedSimpArgs false

section
variable {r m s : Int} (h : Fine r m s)
include h

theorem j6_ev (b : Bool) (hb : b = true → m = 0 ∨ m = 3) : Ev (fun k => monocoquelaw32_LifeRefused.j6 k b m r s m s (r - s) r) true := by
  refine Ev.step (f := fun _ => some true) (fun k => ?_) (Ev.now _)
  simp only [monocoquelaw32_LifeRefused.j6]
  by_cases c : b = true
  · have e : runS m r s = (19, m, r, s) := by
      unfold runS
      rw [if_neg (by have := hb c; omega)]
    rw [if_pos c, run_some, e]
    simp only [Option.bind_some, if_true]
    rw [same_some h]
    rfl
  · rw [if_neg c]

theorem j5_ev : Ev (fun k => monocoquelaw32_LifeRefused.j5 k m r s m s (r - s) r) true := by
  by_cases c : m = 0
  · exact Ev.step (fun k => by simp only [monocoquelaw32_LifeRefused.j5]; rw [if_pos c]) (j6_ev h true (fun _ => .inl c))
  · exact Ev.step (fun k => by simp only [monocoquelaw32_LifeRefused.j5]; rw [if_neg c]) (j6_ev h (m == 3) (fun e => .inr (by simpa using e)))

theorem l1_ev (hm : m = 0) : ∀ (d : Nat) (a : Int), 4 ≤ a → a + d = 7 → Ev (fun k => monocoquelaw32_LifeRefused.l1 k a m r s m s (r - s) r) true := by
  intro d
  induction d with
  | zero =>
    intro a h0 hd
    exact Ev.step (fun k => by simp only [monocoquelaw32_LifeRefused.l1]; rw [if_neg (by omega)]) (j5_ev h)
  | succ d ih =>
    intro a h0 hd
    have e : doS m r s a = (0, false, 19, m, r, s) := by
      unfold doS
      rw [if_neg (by omega), if_pos hm]
    have hh := h
    unfold Fine at hh
    refine Ev.step (fun k => by simp only [monocoquelaw32_LifeRefused.l1]; rw [if_pos (by omega)]) ?_
    refine Ev.bind (do_ev (a := a) (by omega) (by omega) (by omega)) ?_
    rw [e]
    simp only [Bool.false_eq_true, if_false, if_true]
    rw [same_some h]
    simp only [Option.bind_some, if_true]
    rw [wrap_id (x := a + 1) (by omega) (by omega)]
    exact ih (a + 1) (by omega) (by omega)

theorem j3_ev : Ev (fun k => monocoquelaw32_LifeRefused.j3 k m r s m s (r - s) r) true := by
  by_cases c : m = 0
  · exact Ev.step (fun k => by simp only [monocoquelaw32_LifeRefused.j3]; rw [if_pos c]) (l1_ev h c 3 4 (by decide) (by decide))
  · exact Ev.step (fun k => by simp only [monocoquelaw32_LifeRefused.j3]; rw [if_neg c]) (j5_ev h)

theorem j1_ev (o : Int) : Ev (fun k => monocoquelaw32_LifeRefused.j1 k o m r s m s (r - s) r) true := by
  have hh := h
  unfold Fine at hh
  have j2 : ∀ b, (b = true ↔ o < 4 ∨ o > 6) → Ev (fun k => monocoquelaw32_LifeRefused.j2 k o b m r s m s (r - s) r) true := by
    intro b hb
    by_cases c : b = true
    · have e : doS m r s o = (m, false, 1, m, r, s) := by
        unfold doS
        rw [if_pos (hb.1 c)]
      refine Ev.step (fun k => by simp only [monocoquelaw32_LifeRefused.j2]; rw [if_pos c]) ?_
      refine Ev.bind (do_ev (a := o) (by omega) (by omega) (by omega)) ?_
      rw [e]
      simp only [Bool.false_eq_true, if_false, if_true]
      rw [same_some h]
      simp only [Option.bind_some, if_true]
      exact j3_ev h
    · exact Ev.step (fun k => by simp only [monocoquelaw32_LifeRefused.j2]; rw [if_neg c]) (j3_ev h)
  by_cases c : o < 4
  · exact Ev.step (fun k => by simp only [monocoquelaw32_LifeRefused.j1]; rw [if_pos c]) (j2 true (by simp [c]))
  · exact Ev.step (fun k => by simp only [monocoquelaw32_LifeRefused.j1]; rw [if_neg c]) (j2 _ (by simp; omega))
end

theorem loop_ev {r : Int} {xs : List Int} (o : Int) : ∀ (d : Nat) (i m s : Int), 0 ≤ i → i ≤ 60 → 60 - i = d → Fine r m s → Ev (fun k => monocoquelaw32_LifeRefused.l0 k xs o i m r s m s (r - s) r) true := by
  intro d
  induction d with
  | zero =>
    intro i m s h0 h1 hd h
    refine Ev.step (fun k => ?_) (j1_ev h o)
    simp only [monocoquelaw32_LifeRefused.l0]
    by_cases c : i < (xs.length : Int)
    · rw [if_pos c, if_neg (by omega)]
    · rw [if_neg c]
  | succ d ih =>
    intro i m s h0 h1 hd h
    by_cases c : i < (xs.length : Int)
    · refine Ev.step (fun k => by simp only [monocoquelaw32_LifeRefused.l0]; rw [if_pos c, if_pos (by omega), if_pos h0]) ?_
      refine Ev.bind (both_ev (a := rd xs i) h) ?_
      have hf := step_fine (a := rd xs i) h
      simp only []
      rw [wrap_id (x := i + 1) (by omega) (by omega)]
      exact ih (i + 1) _ _ (by omega) (by omega) (by omega) hf
    · exact Ev.step (fun k => by simp only [monocoquelaw32_LifeRefused.l0]; rw [if_neg c]) (j1_ev h o)

theorem pure_law (n : Int) (xs : List Int) (o : Int) (w0 : (Lit.int .i64 n).wf = true) (m : xs.length ≤ maxLen) (y : xs.length * 8 ≤ 140737488351232) (w : ∀ x ∈ xs, (fun n : Int => (Lit.int .i64 n).wf = true) x) (w2 : (Lit.int .i64 o).wf = true) : ∃ k, monocoquelaw32_LifeRefused.f k n xs o = some true := by
  refine Ev.rounds (g := fun k => monocoquelaw32_LifeRefused.f k n xs o) ?_
  unfold monocoquelaw32_LifeRefused.f
  obtain ⟨h0, h1⟩ := rem_range n
  generalize wrap64 (Int.tmod (IntKind.u64.wrap n) 1001) = r at *
  rw [new_some h0 h1]
  simp only [Option.bind_some]
  refine Ev.bind told_ev ?_
  simp only [if_true, monocoqueref32_New.f, Option.bind_some]
  have := loop_ev (r := r) (xs := xs) o 60 0 1 0 (by decide) (by decide) (by decide) (by unfold Fine; omega)
  rw [Int.sub_zero] at this
  exact this

end Go.Proofs.Ytpabbpcklgipnaa.PLifeRefused
