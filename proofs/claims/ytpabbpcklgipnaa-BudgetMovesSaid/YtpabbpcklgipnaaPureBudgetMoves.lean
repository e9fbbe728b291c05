/- The law BudgetMoves over numbers: a server whose periods begin later answers as much later. -/
import Derived.Test.YtpabbpcklgipnaaBudgetBaseBudgetMoves
import Derived.Test.YtpabbpcklgipnaaQBudgetMovesx2
import Derived.OpenShut
namespace Go.Proofs.Ytpabbpcklgipnaa.PBudgetMoves
open Go.RowKit Go.Proofs.YtpabbpcklgipnaaW.PrintWords Go.Proofs.YtpabbpcklgipnaaW.PrintLast Go.Proofs.Ytpabbpcklgipnaa.Num
set_option linter.unusedVariables false
set_option linter.unusedSimpArgs false

theorem num_moved {P f now : Int} (h0 : 0 ≤ now) (h1 : now ≤ 1000000000) (f0 : 0 ≤ f) (f1 : f ≤ 1100000000) : numS P f (now + f) = numS P 0 now := by
  unfold numS
  rw [if_neg (by omega), if_neg (by omega), show now + f - f = now - 0 by omega]
theorem num_nonneg {P now : Int} (hP : 1 ≤ P) (h0 : 0 ≤ now) (h1 : now ≤ 1000000000) : 0 ≤ numS P 0 now := (num_in hP h0 (by omega) (Int.le_refl 0)).2.1
theorem next_moved {P f now : Int} (hP : 1 ≤ P) (h0 : 0 ≤ now) (h1 : now ≤ 1000000000) (f0 : 0 ≤ f) (f1 : f ≤ 1100000000) : nextS P f (now + f) = nextS P 0 now + f := by
  have := num_nonneg hP h0 h1
  unfold nextS
  rw [num_moved h0 h1 f0 f1, if_neg (by omega), if_neg (by omega)]
  omega
theorem left_moved {Z P l t f now : Int} (hP : 1 ≤ P) (h0 : 0 ≤ now) (h1 : now ≤ 1000000000) (f0 : 0 ≤ f) (f1 : f ≤ 1100000000) : leftS Z P l t f (now + f) = leftS Z P l t 0 now := by
  unfold leftS
  rw [num_moved h0 h1 f0 f1, next_moved hP h0 h1 f0 f1, show nextS P 0 now + f - (now + f) = nextS P 0 now - now by omega]
theorem ran_moved {Z P l t f now n : Int} (hP : 1 ≤ P) (h0 : 0 ≤ now) (h1 : now ≤ 1000000000) (f0 : 0 ≤ f) (f1 : f ≤ 1100000000) : ranS Z P l t f (now + f) n = ranS Z P l t 0 now n := by
  unfold ranS
  rw [left_moved hP h0 h1 f0 f1]
theorem last_moved {Z P l t f now n : Int} (hP : 1 ≤ P) (h0 : 0 ≤ now) (h1 : now ≤ 1000000000) (f0 : 0 ≤ f) (f1 : f ≤ 1100000000) : lastS Z P l t f (now + f) n = lastS Z P l t 0 now n := by
  unfold lastS
  rw [ran_moved hP h0 h1 f0 f1, num_moved h0 h1 f0 f1]
theorem used_moved {Z P l t f now n : Int} (hP : 1 ≤ P) (h0 : 0 ≤ now) (h1 : now ≤ 1000000000) (f0 : 0 ≤ f) (f1 : f ≤ 1100000000) : usedS Z P l t f (now + f) n = usedS Z P l t 0 now n := by
  unfold usedS
  rw [ran_moved hP h0 h1 f0 f1, num_moved h0 h1 f0 f1]

section
variable {Z P f : Int} {ss ns : List Int} (hP : P ≤ 1000) (f0 : 0 ≤ f) (f1 : f < 1073741824) (hs : ∀ x ∈ ss, 0 ≤ x ∧ x ≤ 65535)
include hP f0 f1 hs
set_option linter.unusedSectionVars false

theorem stop_ev {i now l t : Int} (h : Srv Z P l t 0) (h' : Srv Z P l t f) : Ev (fun j => monocoquelaw30_BudgetMoves.j2 j ss ns f now i false Z P l t 0 Z P l t f) true := by
  have hh := h
  unfold Srv at hh
  refine Ev.step (fun j => by simp only [monocoquelaw30_BudgetMoves.j2]; rw [if_neg (by decide)]) ?_
  refine Ev.bind known_ev ?_
  simp only [if_true]
  by_cases z : f = 0
  · simp only [if_pos z]
    exact Ev.now _
  · simp only [if_neg z]
    rw [wrap_id (x := f - 1) (by omega) (by omega)]
    refine Ev.bind (left_ev (now := f - 1) h') ?_
    have e : numS P f (f - 1) = -1 := num_out (.inl (by omega))
    have e1 : leftS Z P l t f (f - 1) = 0 := by
      unfold leftS
      rw [e, if_pos (.inl (by decide))]
    have e2 : nextS P f (f - 1) = 0 := by
      unfold nextS
      rw [e, if_pos (by decide)]
    simp only [e1, if_true]
    rw [next_some h', e2]
    simp only [Option.bind_some, beq_self_eq_true]
    exact Ev.now _

theorem loop_ev : ∀ (d : Nat) (i now l t : Int), 0 ≤ i → i ≤ 40 → 40 - i = d → 0 ≤ now → now ≤ i * 1000 → Srv Z P l t 0 → Srv Z P l t f → Ev (fun j => monocoquelaw30_BudgetMoves.l0 j ss ns f now i Z P l t 0 Z P l t f) true := by
  intro d
  induction d with
  | zero =>
    intro i now l t h0 h1 hd n0 n1 h h'
    refine Ev.step (fun j => ?_) (stop_ev (ss := ss) (ns := ns) (i := i) (now := now) hP f0 f1 hs h h')
    simp only [monocoquelaw30_BudgetMoves.l0]
    rw [decide_eq_false (show ¬ i < 40 by omega)]
    by_cases c : i < (ss.length : Int)
    · rw [if_pos c]
      by_cases c2 : i < (ns.length : Int)
      · rw [if_pos c2]
      · rw [if_neg c2]
    · rw [if_neg c]
  | succ d ih =>
    intro i now l t h0 h1 hd n0 n1 h h'
    by_cases c : i < (ss.length : Int)
    · by_cases c2 : i < (ns.length : Int)
      · have hh := h
        unfold Srv at hh
        have hm : rd ss i ∈ ss := by
          have hlt : i.toNat < ss.length := by omega
          unfold rd
          rw [List.getD_eq_getElem?_getD, List.getElem?_eq_getElem hlt]
          exact List.getElem_mem hlt
        have hb := hs _ hm
        have q0 := Int.emod_nonneg (rd ss i) (show (1000 : Int) ≠ 0 by decide)
        have q1 := Int.emod_lt_of_pos (rd ss i) (show (0 : Int) < 1000 by decide)
        have w1 : wrap64 (Int.tmod (rd ss i) 1000) = rd ss i % 1000 := by rw [tmod_pos (by omega), wrap_id (by omega) (by omega)]
        have w2 : wrap64 (now + rd ss i % 1000) = now + rd ss i % 1000 := wrap_id (by omega) (by omega)
        generalize rd ss i % 1000 = q at *
        have a0 : 0 ≤ now + q := by omega
        have a1 : now + q ≤ 1000000000 := by omega
        generalize hnow : now + q = nw at *
        have w3 : wrap64 (nw + f) = nw + f := wrap_id (by omega) (by omega)
        have hP1 : 1 ≤ P := by omega
        have nn := num_in (P := P) (f := 0) (now := nw) hP1 a0 (by omega) (Int.le_refl 0)
        have nx : 0 ≤ nextS P 0 nw ∧ nextS P 0 nw ≤ 2000000000 := by omega
        have w4 : wrap64 (nextS P 0 nw + f) = nextS P 0 nw + f := wrap_id (by omega) (by omega)
        have wi : wrap64 (i + 1) = i + 1 := wrap_id (by omega) (by omega)
        have hc := charge_srv (now := nw) (n := rd ns i) h
        have hc' := charge_srv (now := nw + f) (n := rd ns i) h'
        have ce := charge_ev (now := nw) (n := rd ns i) h
        have ce' := charge_ev (now := nw + f) (n := rd ns i) h'
        have le := left_ev (now := nw) h
        have le' := left_ev (now := nw + f) h'
        have ne := next_some (now := nw) h
        have ne' := next_some (now := nw + f) h'
        rw [left_moved hP1 a0 a1 f0 (by omega)] at le'
        rw [next_moved hP1 a0 a1 f0 (by omega)] at ne'
        rw [ran_moved hP1 a0 a1 f0 (by omega), last_moved hP1 a0 a1 f0 (by omega), used_moved hP1 a0 a1 f0 (by omega)] at ce'
        rw [last_moved hP1 a0 a1 f0 (by omega), used_moved hP1 a0 a1 f0 (by omega)] at hc'
        refine Ev.step (f := fun j => monocoquelaw30_BudgetMoves.j2 j ss ns f now i true Z P l t 0 Z P l t f) (fun j => by simp only [monocoquelaw30_BudgetMoves.l0]; rw [if_pos c, if_pos c2, decide_eq_true (show i < 40 by omega)]) ?_
        refine Ev.step (fun j => by simp only [monocoquelaw30_BudgetMoves.j2, w1, w2, hnow, w3]; rw [if_pos trivial, if_pos h0, if_pos c]) ?_
        refine Ev.bind le ?_
        refine Ev.bind le' ?_
        simp only [if_true, ne, ne', Option.bind_some, w4, bne_self_eq_false]
        refine Ev.step (fun j => by simp only [monocoquelaw30_BudgetMoves.j3, w3]; rw [if_neg (by decide), if_pos h0, if_pos c2]) ?_
        refine Ev.bind ce ?_
        refine Ev.bind ce' ?_
        simp only [if_true, bne_self_eq_false, Bool.false_eq_true, if_false, wi]
        exact ih (i + 1) nw _ _ (by omega) (by omega) (by omega) a0 (by omega) hc hc'
      · exact Ev.step (fun j => by simp only [monocoquelaw30_BudgetMoves.l0]; rw [if_pos c, if_neg c2]) (stop_ev (ss := ss) (ns := ns) (i := i) (now := now) hP f0 f1 hs h h')
    · exact Ev.step (fun j => by simp only [monocoquelaw30_BudgetMoves.l0]; rw [if_neg c]) (stop_ev (ss := ss) (ns := ns) (i := i) (now := now) hP f0 f1 hs h h')
end

theorem pure_law (a b c : Int) (ss ns : List Int) (w0 : (Lit.int .i64 a).wf = true) (w1 : (Lit.int .i64 b).wf = true) (w2 : (Lit.int .u32 c).wf = true) (m : ss.length ≤ maxLen) (y : ss.length * 2 ≤ 140737488351232) (w : ∀ x ∈ ss, (fun n : Int => (Lit.int .u16 n).wf = true) x) (m3 : ns.length ≤ maxLen) (y3 : ns.length * 8 ≤ 140737488351232) (w3 : ∀ x ∈ ns, (fun n : Int => (Lit.int .i64 n).wf = true) x) : ∃ k, monocoquelaw30_BudgetMoves.f k a b c ss ns = some true := by
  refine Ev.rounds (g := fun k => monocoquelaw30_BudgetMoves.f k a b c ss ns) ?_
  unfold monocoquelaw30_BudgetMoves.f
  obtain ⟨P, Z, e1, e2, e3, p0, p1, z0, z1⟩ := any_srv a b
  rw [e1, e2, e3, new_some p0 (by omega) z0 z1]
  rw [show (fun k => if P = 0 then _ else _) = fun k => _ from funext fun k => if_neg (show ¬ P = 0 by omega)]
  simp only [Option.bind_some, if_true]
  have hc := bounds_u32 w2
  have q0 := Int.emod_nonneg c (show (1073741824 : Int) ≠ 0 by decide)
  have q1 := Int.emod_lt_of_pos c (show (0 : Int) < 1073741824 by decide)
  have w3' : wrap64 (Int.tmod c 1073741824) = c % 1073741824 := by rw [tmod_pos (by omega), wrap_id (by omega) (by omega)]
  generalize c % 1073741824 = f at *
  have hr : budget_Server_Reset.f Z P (-1) 0 0 f = some (Z, P, -1, 0, f) := by
    unfold budget_Server_Reset.f
    rw [if_pos (by omega), if_pos (by omega)]
  refine Ev.step (fun k => by simp only [monocoquelaw30_BudgetMoves.j0, w3']; rw [if_neg (by decide), hr]) ?_
  exact loop_ev p1 q0 q1 (fun x h => bounds_u16 (w x h)) 40 0 0 (-1) 0 (by decide) (by decide) (by decide) (by decide) (by decide) (by unfold Srv; omega) (by unfold Srv; omega)

end Go.Proofs.Ytpabbpcklgipnaa.PBudgetMoves
