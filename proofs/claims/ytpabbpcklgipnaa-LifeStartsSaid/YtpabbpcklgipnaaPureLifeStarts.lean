/- The law LifeStarts over numbers: a warm start comes to Warm, a cold one to Cold; from Cold both come to Cold. -/
import Derived.Test.YtpabbpcklgipnaaLifeBaseLifeStarts
import Derived.Test.YtpabbpcklgipnaaQLifeStartsx2
namespace Go.Proofs.Ytpabbpcklgipnaa.PLifeStarts
open Go.RowKit Go.Proofs.YtpabbpcklgipnaaW.PrintWords Go.Proofs.YtpabbpcklgipnaaW.PrintLast Go.Proofs.Ytpabbpcklgipnaa.Num
set_option linter.unusedVariables false
set_option linter.unusedSimpArgs false

theorem u64_range (n q : Int) (hq : 0 < q) (hq2 : q ≤ 1000000) : 0 ≤ wrap64 (Int.tmod (IntKind.u64.wrap n) q) ∧ wrap64 (Int.tmod (IntKind.u64.wrap n) q) < q := by
  have h0 : 0 ≤ IntKind.u64.wrap n := by
    simp [IntKind.wrap, IntKind.signed, IntKind.bits]
    omega
  rw [tmod_pos h0]
  have a := Int.emod_nonneg (IntKind.u64.wrap n) (show q ≠ 0 by omega)
  have b := Int.emod_lt_of_pos (IntKind.u64.wrap n) hq
  rw [wrap_id (by omega) (by omega)]
  omega

theorem loop_ev {r : Int} {xs : List Bool} (hr : r ≤ 1000) : ∀ (d : Nat) (i m : Int), 0 ≤ i → i ≤ r → r - i = d → (m = 1 ∨ m = 2) → Ev (fun k => monocoquelaw32_LifeStarts.l0 k xs r i m r i) true := by
  have stop : ∀ (i m : Int), Ev (fun k => monocoquelaw32_LifeStarts.j1 k xs r i false m r i) true := by
    intro i m
    exact Ev.step (f := fun _ => some true) (fun k => by simp only [monocoquelaw32_LifeStarts.j1]; rw [if_neg (by decide)]) (Ev.now _)
  intro d
  induction d with
  | zero =>
    intro i m h0 h1 hd hm
    by_cases c : i < (xs.length : Int)
    · exact Ev.step (fun k => by simp only [monocoquelaw32_LifeStarts.l0]; rw [if_pos c, decide_eq_false (show ¬ i < r by omega)]) (stop i m)
    · exact Ev.step (fun k => by simp only [monocoquelaw32_LifeStarts.l0]; rw [if_neg c]) (stop i m)
  | succ d ih =>
    intro i m h0 h1 hd hm
    by_cases c : i < (xs.length : Int)
    · have j3 : ∀ (m' a want : Int), 0 < m' → (a = 4 ∨ a = 5) → want = (if a = 4 ∧ m' ≠ 1 then 2 else 1) → Ev (fun k => monocoquelaw32_LifeStarts.j3 k xs r i a want m' r i) true := by
        intro m' a want hp ha hw
        have e : doS m' r i a = (want, true, 0, want, r, i + 1) := by
          unfold doS
          rw [if_neg (by omega), if_neg (by omega), if_neg (by omega), if_neg (by omega)]
          subst hw
          split <;> rfl
        have hwm : want = 1 ∨ want = 2 := by
          subst hw
          split <;> simp
        refine Ev.step (fun k => by simp only [monocoquelaw32_LifeStarts.j3]; rfl) ?_
        refine Ev.bind (do_ev (a := a) (by omega) (by omega) (by omega)) ?_
        rw [e]
        simp only [if_true, life_Life_Mode.f, Option.bind_some]
        rw [left_some (by omega) (by omega) (by omega)]
        simp only [Option.bind_some]
        rw [wrap_id (x := r - i) (by omega) (by omega), wrap_id (x := r - i - 1) (by omega) (by omega), wrap_id (x := i + 1) (by omega) (by omega)]
        have e2 : r - (i + 1) = r - i - 1 := by omega
        simp only [if_pos e2]
        exact ih (i + 1) want (by omega) (by omega) (by omega) hwm
      have j2 : ∀ (m' : Int), 0 < m' → Ev (fun k => monocoquelaw32_LifeStarts.j2 k xs r i false m' r i) true := by
        intro m' hp
        by_cases cw : rdOf false xs i = true
        · by_cases c1 : m' = 1
          · refine Ev.step (f := fun k => monocoquelaw32_LifeStarts.j3 k xs r i 4 1 m' r i) (fun k => ?_) (j3 m' 4 1 hp (.inl rfl) (by rw [if_neg (by omega)]))
            simp only [monocoquelaw32_LifeStarts.j2, life_Life_Mode.f, Option.bind_some]
            rw [if_neg (by decide), if_pos h0, if_pos c, if_pos cw, if_pos c1]
          · refine Ev.step (f := fun k => monocoquelaw32_LifeStarts.j3 k xs r i 4 2 m' r i) (fun k => ?_) (j3 m' 4 2 hp (.inl rfl) (by rw [if_pos ⟨rfl, c1⟩]))
            simp only [monocoquelaw32_LifeStarts.j2, life_Life_Mode.f, Option.bind_some]
            rw [if_neg (by decide), if_pos h0, if_pos c, if_pos cw, if_neg c1]
        · refine Ev.step (f := fun k => monocoquelaw32_LifeStarts.j3 k xs r i 5 1 m' r i) (fun k => ?_) (j3 m' 5 1 hp (.inr rfl) (by rw [if_neg (by omega)]))
          simp only [monocoquelaw32_LifeStarts.j2, life_Life_Mode.f, Option.bind_some]
          rw [if_neg (by decide), if_pos h0, if_pos c, if_neg cw]
      refine Ev.step (f := fun k => monocoquelaw32_LifeStarts.j1 k xs r i true m r i) (fun k => by simp only [monocoquelaw32_LifeStarts.l0]; rw [if_pos c, decide_eq_true (show i < r by omega)]) ?_
      by_cases c3 : Int.tmod i 3 = 2
      · exact Ev.step (fun k => by simp only [monocoquelaw32_LifeStarts.j1]; rw [if_pos trivial, if_pos c3]) (j2 m (by omega))
      · refine Ev.step (f := fun k => monocoquelaw32_LifeStarts.j2 k xs r i false 3 r i) (fun k => ?_) (j2 3 (by decide))
        have e : runS m r i = (0, 3, r, i) := by
          unfold runS
          rw [if_pos hm]
        simp only [monocoquelaw32_LifeStarts.j1]
        rw [if_pos trivial, if_neg c3, run_some, e]
        rfl
    · exact Ev.step (fun k => by simp only [monocoquelaw32_LifeStarts.l0]; rw [if_neg c]) (stop i m)

theorem pure_law (n : Int) (xs : List Bool) (w0 : (Lit.int .i64 n).wf = true) (m : xs.length ≤ maxLen) (y : xs.length * 1 ≤ 140737488351232) (w : ∀ x ∈ xs, (fun _ : Bool => True) x) : ∃ k, monocoquelaw32_LifeStarts.f k n xs = some true := by
  refine Ev.rounds (g := fun k => monocoquelaw32_LifeStarts.f k n xs) ?_
  unfold monocoquelaw32_LifeStarts.f
  obtain ⟨h0, h1⟩ := u64_range n 30 (by decide) (by decide)
  generalize wrap64 (Int.tmod (IntKind.u64.wrap n) 30) = r at *
  have e : life_New.f r = some (1, r, 0, 0) := by
    unfold life_New.f
    rw [if_neg (by omega), if_neg (by omega)]
  rw [e]
  simp only [Option.bind_some]
  refine Ev.bind told_ev ?_
  simp only [if_true]
  exact loop_ev (by omega) r.toNat 0 1 (by decide) (by omega) (by omega) (.inl rfl)

end Go.Proofs.Ytpabbpcklgipnaa.PLifeStarts
