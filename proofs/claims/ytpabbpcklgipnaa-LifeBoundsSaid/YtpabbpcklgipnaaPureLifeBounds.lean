/- The law LifeBounds over numbers: it never begins anew more often than it may. -/
import Derived.Test.YtpabbpcklgipnaaLifeBaseLifeBounds
import Derived.Test.YtpabbpcklgipnaaQLifeBoundsx2
namespace Go.Proofs.Ytpabbpcklgipnaa.PLifeBounds
open Go.RowKit Go.Proofs.YtpabbpcklgipnaaW.PrintWords Go.Proofs.YtpabbpcklgipnaaW.PrintLast Go.Proofs.Ytpabbpcklgipnaa.Num
set_option linter.unusedVariables false
set_option linter.unusedSimpArgs false

def Fine (r m s : Int) : Prop := 0 ≤ m ∧ m ≤ 3 ∧ 0 ≤ s ∧ s ≤ r ∧ r ≤ 1000

theorem do_tells {r m s a : Int} (h : Fine r m s) : Fine r (doS m r s a).2.2.2.1 (doS m r s a).2.2.2.2.2 ∧ (doS m r s a).2.2.2.2.1 = r ∧ (doS m r s a).2.2.2.2.2 = (if (doS m r s a).2.1 = true then s + 1 else s) ∧ (m = 0 → (doS m r s a).2.2.2.1 = 0) := by
  unfold Fine at *
  unfold doS
  repeat' split
  all_goals simp_all
  all_goals omega

theorem u64_range (n q : Int) (hq : 0 < q) (hq2 : q ≤ 1000000) : 0 ≤ wrap64 (Int.tmod (IntKind.u64.wrap n) q) ∧ wrap64 (Int.tmod (IntKind.u64.wrap n) q) < q := by
  have h0 : 0 ≤ IntKind.u64.wrap n := by
    simp [IntKind.wrap, IntKind.signed, IntKind.bits]
    omega
  rw [tmod_pos h0]
  have a := Int.emod_nonneg (IntKind.u64.wrap n) (show q ≠ 0 by omega)
  have b := Int.emod_lt_of_pos (IntKind.u64.wrap n) hq
  rw [wrap_id (by omega) (by omega)]
  omega

theorem loop_ev {r : Int} {xs : List Int} : ∀ (d : Nat) (i m s : Int) (b : Bool), 0 ≤ i → i ≤ 150 → 150 - i = d → Fine r m s → (b = true → m = 0) → Ev (fun k => monocoquelaw32_LifeBounds.l0 k xs r s b i m r s) true := by
  have stop : ∀ (i m s : Int) (b : Bool), Ev (fun k => monocoquelaw32_LifeBounds.j1 k xs r s b i false m r s) true := by
    intro i m s b
    exact Ev.step (f := fun _ => some true) (fun k => by simp only [monocoquelaw32_LifeBounds.j1]; rw [if_neg (by decide)]) (Ev.now _)
  intro d
  induction d with
  | zero =>
    intro i m s b h0 h1 hd h hb
    by_cases c : i < (xs.length : Int)
    · exact Ev.step (fun k => by simp only [monocoquelaw32_LifeBounds.l0]; rw [if_pos c, decide_eq_false (show ¬ i < 150 by omega)]) (stop i m s b)
    · exact Ev.step (fun k => by simp only [monocoquelaw32_LifeBounds.l0]; rw [if_neg c]) (stop i m s b)
  | succ d ih =>
    intro i m s b h0 h1 hd h hb
    by_cases c : i < (xs.length : Int)
    · have next : ∀ (m' s' : Int), Fine r m' s' → (m = 0 → m' = 0) → Ev (fun k => monocoquelaw32_LifeBounds.j2 k xs r s' b i m' r s') true := by
        intro m' s' hf hm
        have hff := hf
        unfold Fine at hff
        have j3 : Ev (fun k => monocoquelaw32_LifeBounds.j3 k xs r s' i false m' r s') true := by
          refine Ev.step (f := fun k => monocoquelaw32_LifeBounds.l0 k xs r s' (m' == 0) (i + 1) m' r s') (fun k => ?_) (ih (i + 1) m' s' _ (by omega) (by omega) (by omega) hf (fun e => by simpa using e))
          simp only [monocoquelaw32_LifeBounds.j3, life_Life_Mode.f, life_Life_Starts.f]
          rw [if_neg (by decide)]
          simp only [Option.bind_some]
          rw [if_neg (by omega), if_pos trivial, left_some (by omega) (by omega) (by omega)]
          simp only [Option.bind_some]
          rw [wrap_id (x := r - s') (by omega) (by omega), if_pos rfl, wrap_id (x := i + 1) (by omega) (by omega)]
        by_cases cb : b = true
        · refine Ev.step (f := fun k => monocoquelaw32_LifeBounds.j3 k xs r s' i false m' r s') (fun k => ?_) j3
          simp only [monocoquelaw32_LifeBounds.j2, life_Life_Mode.f]
          rw [if_pos cb]
          simp only [Option.bind_some]
          rw [hm (hb cb)]
          rfl
        · exact Ev.step (fun k => by simp only [monocoquelaw32_LifeBounds.j2]; rw [if_neg cb]) j3
      refine Ev.step (f := fun k => monocoquelaw32_LifeBounds.j1 k xs r s b i true m r s) (fun k => by simp only [monocoquelaw32_LifeBounds.l0]; rw [if_pos c, decide_eq_true (show i < 150 by omega)]) ?_
      obtain ⟨u0, u1⟩ := u64_range (rd xs i) 4 (by decide) (by decide)
      have hh := h
      unfold Fine at hh
      refine Ev.step (fun k => by simp only [monocoquelaw32_LifeBounds.j1]; rw [if_pos trivial, if_pos h0, if_pos c]) ?_
      generalize wrap64 (Int.tmod (IntKind.u64.wrap (rd xs i)) 4) = q at *
      rw [wrap_id (x := 4 + q) (by omega) (by omega)]
      by_cases c7 : 4 + q = 7
      · simp only [if_pos c7]
        rw [run_some]
        simp only [Option.bind_some]
        have e : (runS m r s).2.2.1 = r ∧ (runS m r s).2.2.2 = s ∧ (m = 0 → (runS m r s).2.1 = 0) ∧ 0 ≤ (runS m r s).2.1 ∧ (runS m r s).2.1 ≤ 3 := by
          unfold runS
          split <;> simp <;> omega
        rw [e.1, e.2.1]
        exact next _ _ (by unfold Fine; omega) e.2.2.1
      · simp only [if_neg c7]
        refine Ev.bind (do_ev (a := 4 + q) (by omega) (by omega) (by omega)) ?_
        obtain ⟨t1, t2, t3, t4⟩ := do_tells (a := 4 + q) h
        rw [t2]
        by_cases cd : (doS m r s (4 + q)).2.1 = true
        · rw [if_pos cd] at t3
          simp only [if_pos cd]
          rw [wrap_id (x := s + 1) (by omega) (by omega)]
          rw [t3] at t1 ⊢
          exact next _ _ t1 t4
        · rw [if_neg cd] at t3
          simp only [if_neg cd]
          rw [t3] at t1 ⊢
          exact next _ _ t1 t4
    · exact Ev.step (fun k => by simp only [monocoquelaw32_LifeBounds.l0]; rw [if_neg c]) (stop i m s b)

theorem pure_law (n : Int) (xs : List Int) (w0 : (Lit.int .i64 n).wf = true) (m : xs.length ≤ maxLen) (y : xs.length * 8 ≤ 140737488351232) (w : ∀ x ∈ xs, (fun n : Int => (Lit.int .i64 n).wf = true) x) : ∃ k, monocoquelaw32_LifeBounds.f k n xs = some true := by
  refine Ev.rounds (g := fun k => monocoquelaw32_LifeBounds.f k n xs) ?_
  unfold monocoquelaw32_LifeBounds.f
  obtain ⟨h0, h1⟩ := u64_range n 20 (by decide) (by decide)
  generalize wrap64 (Int.tmod (IntKind.u64.wrap n) 20) = r at *
  have e : life_New.f r = some (1, r, 0, 0) := by
    unfold life_New.f
    rw [if_neg (by omega), if_neg (by omega)]
  rw [e]
  simp only [Option.bind_some]
  refine Ev.bind told_ev ?_
  simp only [if_true]
  exact loop_ev 150 0 1 0 false (by decide) (by decide) (by decide) (by unfold Fine; omega) (by simp)

end Go.Proofs.Ytpabbpcklgipnaa.PLifeBounds
