/- The walks of functions that the law BudgetBound reaches. Written by this session's turn of the kit's printer, not by the kit's own. -/
import Derived.Test.YtpabbpcklgipnaaQBudgetBoundx0
import Derived.Test.YtpabbpcklgipnaaQBudgetBoundx1
namespace Go.Proofs.Ytpabbpcklgipnaa.PBudgetBound
open Go.RowKit Go.Proofs.YtpabbpcklgipnaaW.PrintWords Go.Proofs.YtpabbpcklgipnaaW.PrintLast Go.Proofs.YtpabbpcklgipnaaW.PrintMore
attribute [local go_sem] max2_int min2_int max_two min_two max_three min_three max_four min_four   -- for this text's walks alone
set_option linter.unusedVariables false
set_option linter.unusedSimpArgs false

/-! ### monocoquelaw30_BudgetBound: function 3 -/
mutual
def monocoquelaw30_BudgetBound.j0 : Nat → Int → Int → List Int → List Int → Bool → Int → Int → Int → Int → Int → Option (Bool)
  | 0, _, _, _, _, _, _, _, _, _, _ => none
  | k + 1, x0, x1, x2, x3, x40, x190000, x190001, x190002, x190003, x190004 => if x40 = true then (some false) else (monocoquelaw30_BudgetBound.l0 k x0 x1 x2 x3 0 0 0 0 x190000 x190001 x190002 x190003 x190004)
def monocoquelaw30_BudgetBound.l0 : Nat → Int → Int → List Int → List Int → Int → Int → Int → Int → Int → Int → Int → Int → Int → Option (Bool)
  | 0, _, _, _, _, _, _, _, _, _, _, _, _, _ => none
  | k + 1, x0, x1, x2, x3, x11, x12, x13, x14, x190000, x190001, x190002, x190003, x190004 => if x14 < (x2.length : Int) then (if x14 < (x3.length : Int) then (monocoquelaw30_BudgetBound.j2 k x0 x1 x2 x3 x11 x12 x13 x14 (decide (x14 < 60)) x190000 x190001 x190002 x190003 x190004) else (monocoquelaw30_BudgetBound.j2 k x0 x1 x2 x3 x11 x12 x13 x14 false x190000 x190001 x190002 x190003 x190004)) else (monocoquelaw30_BudgetBound.j2 k x0 x1 x2 x3 x11 x12 x13 x14 false x190000 x190001 x190002 x190003 x190004)
def monocoquelaw30_BudgetBound.j2 : Nat → Int → Int → List Int → List Int → Int → Int → Int → Int → Bool → Int → Int → Int → Int → Int → Option (Bool)
  | 0, _, _, _, _, _, _, _, _, _, _, _, _, _, _ => none
  | k + 1, x0, x1, x2, x3, x11, x12, x13, x14, x54, x190000, x190001, x190002, x190003, x190004 => if x54 = true then (if 0 ≤ x14 then (if x14 < (x2.length : Int) then (if x1 = 0 then (none) else (if (wrap64 (Int.tdiv (wrap64 (x11 + (wrap64 (Int.tmod (rd x2 x14) 1000)))) x1)) = x12 then (monocoquelaw30_BudgetBound.j3 k x0 x1 x2 x3 (wrap64 (x11 + (wrap64 (Int.tmod (rd x2 x14) 1000)))) x12 x13 x14 x190000 x190001 x190002 x190003 x190004) else (monocoquelaw30_BudgetBound.j3 k x0 x1 x2 x3 (wrap64 (x11 + (wrap64 (Int.tmod (rd x2 x14) 1000)))) (wrap64 (Int.tdiv (wrap64 (x11 + (wrap64 (Int.tmod (rd x2 x14) 1000)))) x1)) 0 x14 x190000 x190001 x190002 x190003 x190004))) else (none)) else (none)) else ((monocoquelaw30_known.f k).bind fun t191 => (some t191))
def monocoquelaw30_BudgetBound.j3 : Nat → Int → Int → List Int → List Int → Int → Int → Int → Int → Int → Int → Int → Int → Int → Option (Bool)
  | 0, _, _, _, _, _, _, _, _, _, _, _, _, _ => none
  | k + 1, x0, x1, x2, x3, x11, x12, x13, x14, x190000, x190001, x190002, x190003, x190004 => if 0 ≤ x14 then (if x14 < (x3.length : Int) then ((budget_Server_Charge.f k x190000 x190001 x190002 x190003 x190004 x11 (rd x3 x14)).bind fun bt194 => (if bt194.1 < 0 then (monocoquelaw30_BudgetBound.j4 k x0 x1 x2 x3 x11 x12 (wrap64 (x13 + bt194.1)) x14 bt194.1 bt194.2.1 true bt194.2.2.1 bt194.2.2.2.1 bt194.2.2.2.2.1 bt194.2.2.2.2.2.1 bt194.2.2.2.2.2.2) else (if bt194.1 > (mx (rd x3 x14) 0) then (monocoquelaw30_BudgetBound.j4 k x0 x1 x2 x3 x11 x12 (wrap64 (x13 + bt194.1)) x14 bt194.1 bt194.2.1 true bt194.2.2.1 bt194.2.2.2.1 bt194.2.2.2.2.1 bt194.2.2.2.2.2.1 bt194.2.2.2.2.2.2) else (if (bt194.2.1 != (decide (bt194.1 < (rd x3 x14)))) = true then (monocoquelaw30_BudgetBound.j4 k x0 x1 x2 x3 x11 x12 (wrap64 (x13 + bt194.1)) x14 bt194.1 bt194.2.1 true bt194.2.2.1 bt194.2.2.2.1 bt194.2.2.2.2.1 bt194.2.2.2.2.2.1 bt194.2.2.2.2.2.2) else (if (wrap64 (x13 + bt194.1)) > x0 then (monocoquelaw30_BudgetBound.j4 k x0 x1 x2 x3 x11 x12 (wrap64 (x13 + bt194.1)) x14 bt194.1 bt194.2.1 true bt194.2.2.1 bt194.2.2.2.1 bt194.2.2.2.2.1 bt194.2.2.2.2.2.1 bt194.2.2.2.2.2.2) else (if (wrap64 (x11 + bt194.1)) > (wrap64 ((wrap64 (x12 + 1)) * x1)) then (monocoquelaw30_BudgetBound.j4 k x0 x1 x2 x3 x11 x12 (wrap64 (x13 + bt194.1)) x14 bt194.1 bt194.2.1 true bt194.2.2.1 bt194.2.2.2.1 bt194.2.2.2.2.1 bt194.2.2.2.2.2.1 bt194.2.2.2.2.2.2) else ((budget_Server_Next.f bt194.2.2.1 bt194.2.2.2.1 bt194.2.2.2.2.1 bt194.2.2.2.2.2.1 bt194.2.2.2.2.2.2 x11).bind fun bt203 => (monocoquelaw30_BudgetBound.j4 k x0 x1 x2 x3 x11 x12 (wrap64 (x13 + bt194.1)) x14 bt194.1 bt194.2.1 (bt203.1 != (wrap64 ((wrap64 (x12 + 1)) * x1))) bt203.2.1 bt203.2.2.1 bt203.2.2.2.1 bt203.2.2.2.2.1 bt203.2.2.2.2.2)))))))) else (none)) else (none)
def monocoquelaw30_BudgetBound.j4 : Nat → Int → Int → List Int → List Int → Int → Int → Int → Int → Int → Bool → Bool → Int → Int → Int → Int → Int → Option (Bool)
  | 0, _, _, _, _, _, _, _, _, _, _, _, _, _, _, _, _ => none
  | k + 1, x0, x1, x2, x3, x11, x12, x13, x14, x15, x16, x131, x190000, x190001, x190002, x190003, x190004 => if x131 = true then (some false) else (if x16 = true then (if x15 ≥ 0 then ((budget_Server_Left.f k x190000 x190001 x190002 x190003 x190004 x11).bind fun bt209 => (if bt209.1 > 0 then (if (wrap64 (x11 + x15)) < (wrap64 ((wrap64 (x12 + 1)) * x1)) then (monocoquelaw30_BudgetBound.j5 k x0 x1 x2 x3 x11 x12 x13 x14 x15 (decide (x13 < x0)) bt209.2.1 bt209.2.2.1 bt209.2.2.2.1 bt209.2.2.2.2.1 bt209.2.2.2.2.2) else (monocoquelaw30_BudgetBound.j5 k x0 x1 x2 x3 x11 x12 x13 x14 x15 false bt209.2.1 bt209.2.2.1 bt209.2.2.2.1 bt209.2.2.2.2.1 bt209.2.2.2.2.2)) else (monocoquelaw30_BudgetBound.j5 k x0 x1 x2 x3 x11 x12 x13 x14 x15 false bt209.2.1 bt209.2.2.1 bt209.2.2.2.1 bt209.2.2.2.2.1 bt209.2.2.2.2.2))) else (monocoquelaw30_BudgetBound.j5 k x0 x1 x2 x3 x11 x12 x13 x14 x15 false x190000 x190001 x190002 x190003 x190004)) else (monocoquelaw30_BudgetBound.j5 k x0 x1 x2 x3 x11 x12 x13 x14 x15 false x190000 x190001 x190002 x190003 x190004))
def monocoquelaw30_BudgetBound.j5 : Nat → Int → Int → List Int → List Int → Int → Int → Int → Int → Int → Bool → Int → Int → Int → Int → Int → Option (Bool)
  | 0, _, _, _, _, _, _, _, _, _, _, _, _, _, _, _ => none
  | k + 1, x0, x1, x2, x3, x11, x12, x13, x14, x15, x157, x190000, x190001, x190002, x190003, x190004 => if x157 = true then (some false) else (if x1 = 0 then (none) else (if (wrap64 (Int.tdiv (wrap64 (x11 + x15)) x1)) = x12 then (monocoquelaw30_BudgetBound.l0 k x0 x1 x2 x3 (wrap64 (x11 + x15)) x12 x13 (wrap64 (x14 + 1)) x190000 x190001 x190002 x190003 x190004) else (monocoquelaw30_BudgetBound.l0 k x0 x1 x2 x3 (wrap64 (x11 + x15)) (wrap64 (Int.tdiv (wrap64 (x11 + x15)) x1)) 0 (wrap64 (x14 + 1)) x190000 x190001 x190002 x190003 x190004)))
end
def monocoquelaw30_BudgetBound.f (k : Nat) (a0 : Int) (a1 : Int) (l2 : List Int) (l3 : List Int) : Option (Bool) := if (IntKind.u64.wrap (wrap64 (1 + (wrap64 (Int.tmod (IntKind.u64.wrap (a1)) 1000))))) = 0 then (none) else ((budget_New.f (wrap64 (1 + (wrap64 (Int.tmod (IntKind.u64.wrap (a0)) (IntKind.u64.wrap (wrap64 (1 + (wrap64 (Int.tmod (IntKind.u64.wrap (a1)) 1000))))))))) (wrap64 (1 + (wrap64 (Int.tmod (IntKind.u64.wrap (a1)) 1000))))).bind fun bt184 => (if bt184.2.2.2.2.2 = 0 then (monocoquelaw30_BudgetBound.j0 k (wrap64 (1 + (wrap64 (Int.tmod (IntKind.u64.wrap (a0)) (IntKind.u64.wrap (wrap64 (1 + (wrap64 (Int.tmod (IntKind.u64.wrap (a1)) 1000))))))))) (wrap64 (1 + (wrap64 (Int.tmod (IntKind.u64.wrap (a1)) 1000)))) l2 l3 false bt184.1 bt184.2.1 bt184.2.2.1 bt184.2.2.2.1 bt184.2.2.2.2.1) else (monocoquelaw30_BudgetBound.j0 k (wrap64 (1 + (wrap64 (Int.tmod (IntKind.u64.wrap (a0)) (IntKind.u64.wrap (wrap64 (1 + (wrap64 (Int.tmod (IntKind.u64.wrap (a1)) 1000))))))))) (wrap64 (1 + (wrap64 (Int.tmod (IntKind.u64.wrap (a1)) 1000)))) l2 l3 true bt184.1 bt184.2.1 bt184.2.2.1 bt184.2.2.2.1 bt184.2.2.2.2.1)))
theorem monocoquelaw30_BudgetBound.mono_l : ∀ k, (∀ y0 y1 y2 y3 y4 y5 y6 y7 y8 y9, LeO (monocoquelaw30_BudgetBound.j0 k y0 y1 y2 y3 y4 y5 y6 y7 y8 y9) (monocoquelaw30_BudgetBound.j0 (k + 1) y0 y1 y2 y3 y4 y5 y6 y7 y8 y9)) ∧ (∀ y0 y1 y2 y3 y4 y5 y6 y7 y8 y9 y10 y11 y12, LeO (monocoquelaw30_BudgetBound.l0 k y0 y1 y2 y3 y4 y5 y6 y7 y8 y9 y10 y11 y12) (monocoquelaw30_BudgetBound.l0 (k + 1) y0 y1 y2 y3 y4 y5 y6 y7 y8 y9 y10 y11 y12)) ∧ (∀ y0 y1 y2 y3 y4 y5 y6 y7 y8 y9 y10 y11 y12 y13, LeO (monocoquelaw30_BudgetBound.j2 k y0 y1 y2 y3 y4 y5 y6 y7 y8 y9 y10 y11 y12 y13) (monocoquelaw30_BudgetBound.j2 (k + 1) y0 y1 y2 y3 y4 y5 y6 y7 y8 y9 y10 y11 y12 y13)) ∧ (∀ y0 y1 y2 y3 y4 y5 y6 y7 y8 y9 y10 y11 y12, LeO (monocoquelaw30_BudgetBound.j3 k y0 y1 y2 y3 y4 y5 y6 y7 y8 y9 y10 y11 y12) (monocoquelaw30_BudgetBound.j3 (k + 1) y0 y1 y2 y3 y4 y5 y6 y7 y8 y9 y10 y11 y12)) ∧ (∀ y0 y1 y2 y3 y4 y5 y6 y7 y8 y9 y10 y11 y12 y13 y14 y15, LeO (monocoquelaw30_BudgetBound.j4 k y0 y1 y2 y3 y4 y5 y6 y7 y8 y9 y10 y11 y12 y13 y14 y15) (monocoquelaw30_BudgetBound.j4 (k + 1) y0 y1 y2 y3 y4 y5 y6 y7 y8 y9 y10 y11 y12 y13 y14 y15)) ∧ (∀ y0 y1 y2 y3 y4 y5 y6 y7 y8 y9 y10 y11 y12 y13 y14, LeO (monocoquelaw30_BudgetBound.j5 k y0 y1 y2 y3 y4 y5 y6 y7 y8 y9 y10 y11 y12 y13 y14) (monocoquelaw30_BudgetBound.j5 (k + 1) y0 y1 y2 y3 y4 y5 y6 y7 y8 y9 y10 y11 y12 y13 y14))
  | 0 => ⟨fun _ _ _ _ _ _ _ _ _ _ r h => by simp [monocoquelaw30_BudgetBound.j0] at h, fun _ _ _ _ _ _ _ _ _ _ _ _ _ r h => by simp [monocoquelaw30_BudgetBound.l0] at h, fun _ _ _ _ _ _ _ _ _ _ _ _ _ _ r h => by simp [monocoquelaw30_BudgetBound.j2] at h, fun _ _ _ _ _ _ _ _ _ _ _ _ _ r h => by simp [monocoquelaw30_BudgetBound.j3] at h, fun _ _ _ _ _ _ _ _ _ _ _ _ _ _ _ _ r h => by simp [monocoquelaw30_BudgetBound.j4] at h, fun _ _ _ _ _ _ _ _ _ _ _ _ _ _ _ r h => by simp [monocoquelaw30_BudgetBound.j5] at h⟩
  | k + 1 => by
    obtain ⟨ih0, ih1, ih2, ih3, ih4, ih5⟩ := monocoquelaw30_BudgetBound.mono_l k
    refine ⟨?_, ?_, ?_, ?_, ?_, ?_⟩
    · intro y0 y1 y2 y3 y4 y5 y6 y7 y8 y9
      unfold monocoquelaw30_BudgetBound.j0
      repeat' first
      | (with_reducible exact ih0 _ _ _ _ _ _ _ _ _ _)
      | (with_reducible exact ih1 _ _ _ _ _ _ _ _ _ _ _ _ _)
      | (with_reducible exact ih2 _ _ _ _ _ _ _ _ _ _ _ _ _ _)
      | (with_reducible exact ih3 _ _ _ _ _ _ _ _ _ _ _ _ _)
      | (with_reducible exact ih4 _ _ _ _ _ _ _ _ _ _ _ _ _ _ _ _)
      | (with_reducible exact ih5 _ _ _ _ _ _ _ _ _ _ _ _ _ _ _)
      | (with_reducible exact budget_Server_Charge.mono _ _ _ _ _ _ _ _)
      | (with_reducible exact budget_Server_Left.mono _ _ _ _ _ _ _)
      | (with_reducible exact monocoquelaw30_known.mono _)
      | (with_reducible exact LeO.refl _)
      | (with_reducible exact LeO.none _)
      | (with_reducible refine LeO.ite ?_ ?_)
      | (with_reducible refine LeO.bind ?_ (fun _ => ?_))
      | exact ih0 _ _ _ _ _ _ _ _ _ _
      | exact ih1 _ _ _ _ _ _ _ _ _ _ _ _ _
      | exact ih2 _ _ _ _ _ _ _ _ _ _ _ _ _ _
      | exact ih3 _ _ _ _ _ _ _ _ _ _ _ _ _
      | exact ih4 _ _ _ _ _ _ _ _ _ _ _ _ _ _ _ _
      | exact ih5 _ _ _ _ _ _ _ _ _ _ _ _ _ _ _
      | exact budget_Server_Charge.mono _ _ _ _ _ _ _ _
      | exact budget_Server_Left.mono _ _ _ _ _ _ _
      | exact monocoquelaw30_known.mono _
      | exact LeO.none _
      | refine LeO.ite ?_ ?_
      | refine LeO.bind ?_ (fun _ => ?_)
    · intro y0 y1 y2 y3 y4 y5 y6 y7 y8 y9 y10 y11 y12
      unfold monocoquelaw30_BudgetBound.l0
      repeat' first
      | (with_reducible exact ih0 _ _ _ _ _ _ _ _ _ _)
      | (with_reducible exact ih1 _ _ _ _ _ _ _ _ _ _ _ _ _)
      | (with_reducible exact ih2 _ _ _ _ _ _ _ _ _ _ _ _ _ _)
      | (with_reducible exact ih3 _ _ _ _ _ _ _ _ _ _ _ _ _)
      | (with_reducible exact ih4 _ _ _ _ _ _ _ _ _ _ _ _ _ _ _ _)
      | (with_reducible exact ih5 _ _ _ _ _ _ _ _ _ _ _ _ _ _ _)
      | (with_reducible exact budget_Server_Charge.mono _ _ _ _ _ _ _ _)
      | (with_reducible exact budget_Server_Left.mono _ _ _ _ _ _ _)
      | (with_reducible exact monocoquelaw30_known.mono _)
      | (with_reducible exact LeO.refl _)
      | (with_reducible exact LeO.none _)
      | (with_reducible refine LeO.ite ?_ ?_)
      | (with_reducible refine LeO.bind ?_ (fun _ => ?_))
      | exact ih0 _ _ _ _ _ _ _ _ _ _
      | exact ih1 _ _ _ _ _ _ _ _ _ _ _ _ _
      | exact ih2 _ _ _ _ _ _ _ _ _ _ _ _ _ _
      | exact ih3 _ _ _ _ _ _ _ _ _ _ _ _ _
      | exact ih4 _ _ _ _ _ _ _ _ _ _ _ _ _ _ _ _
      | exact ih5 _ _ _ _ _ _ _ _ _ _ _ _ _ _ _
      | exact budget_Server_Charge.mono _ _ _ _ _ _ _ _
      | exact budget_Server_Left.mono _ _ _ _ _ _ _
      | exact monocoquelaw30_known.mono _
      | exact LeO.none _
      | refine LeO.ite ?_ ?_
      | refine LeO.bind ?_ (fun _ => ?_)
    · intro y0 y1 y2 y3 y4 y5 y6 y7 y8 y9 y10 y11 y12 y13
      unfold monocoquelaw30_BudgetBound.j2
      repeat' first
      | (with_reducible exact ih0 _ _ _ _ _ _ _ _ _ _)
      | (with_reducible exact ih1 _ _ _ _ _ _ _ _ _ _ _ _ _)
      | (with_reducible exact ih2 _ _ _ _ _ _ _ _ _ _ _ _ _ _)
      | (with_reducible exact ih3 _ _ _ _ _ _ _ _ _ _ _ _ _)
      | (with_reducible exact ih4 _ _ _ _ _ _ _ _ _ _ _ _ _ _ _ _)
      | (with_reducible exact ih5 _ _ _ _ _ _ _ _ _ _ _ _ _ _ _)
      | (with_reducible exact budget_Server_Charge.mono _ _ _ _ _ _ _ _)
      | (with_reducible exact budget_Server_Left.mono _ _ _ _ _ _ _)
      | (with_reducible exact monocoquelaw30_known.mono _)
      | (with_reducible exact LeO.refl _)
      | (with_reducible exact LeO.none _)
      | (with_reducible refine LeO.ite ?_ ?_)
      | (with_reducible refine LeO.bind ?_ (fun _ => ?_))
      | exact ih0 _ _ _ _ _ _ _ _ _ _
      | exact ih1 _ _ _ _ _ _ _ _ _ _ _ _ _
      | exact ih2 _ _ _ _ _ _ _ _ _ _ _ _ _ _
      | exact ih3 _ _ _ _ _ _ _ _ _ _ _ _ _
      | exact ih4 _ _ _ _ _ _ _ _ _ _ _ _ _ _ _ _
      | exact ih5 _ _ _ _ _ _ _ _ _ _ _ _ _ _ _
      | exact budget_Server_Charge.mono _ _ _ _ _ _ _ _
      | exact budget_Server_Left.mono _ _ _ _ _ _ _
      | exact monocoquelaw30_known.mono _
      | exact LeO.none _
      | refine LeO.ite ?_ ?_
      | refine LeO.bind ?_ (fun _ => ?_)
    · intro y0 y1 y2 y3 y4 y5 y6 y7 y8 y9 y10 y11 y12
      unfold monocoquelaw30_BudgetBound.j3
      repeat' first
      | (with_reducible exact ih0 _ _ _ _ _ _ _ _ _ _)
      | (with_reducible exact ih1 _ _ _ _ _ _ _ _ _ _ _ _ _)
      | (with_reducible exact ih2 _ _ _ _ _ _ _ _ _ _ _ _ _ _)
      | (with_reducible exact ih3 _ _ _ _ _ _ _ _ _ _ _ _ _)
      | (with_reducible exact ih4 _ _ _ _ _ _ _ _ _ _ _ _ _ _ _ _)
      | (with_reducible exact ih5 _ _ _ _ _ _ _ _ _ _ _ _ _ _ _)
      | (with_reducible exact budget_Server_Charge.mono _ _ _ _ _ _ _ _)
      | (with_reducible exact budget_Server_Left.mono _ _ _ _ _ _ _)
      | (with_reducible exact monocoquelaw30_known.mono _)
      | (with_reducible exact LeO.refl _)
      | (with_reducible exact LeO.none _)
      | (with_reducible refine LeO.ite ?_ ?_)
      | (with_reducible refine LeO.bind ?_ (fun _ => ?_))
      | exact ih0 _ _ _ _ _ _ _ _ _ _
      | exact ih1 _ _ _ _ _ _ _ _ _ _ _ _ _
      | exact ih2 _ _ _ _ _ _ _ _ _ _ _ _ _ _
      | exact ih3 _ _ _ _ _ _ _ _ _ _ _ _ _
      | exact ih4 _ _ _ _ _ _ _ _ _ _ _ _ _ _ _ _
      | exact ih5 _ _ _ _ _ _ _ _ _ _ _ _ _ _ _
      | exact budget_Server_Charge.mono _ _ _ _ _ _ _ _
      | exact budget_Server_Left.mono _ _ _ _ _ _ _
      | exact monocoquelaw30_known.mono _
      | exact LeO.none _
      | refine LeO.ite ?_ ?_
      | refine LeO.bind ?_ (fun _ => ?_)
    · intro y0 y1 y2 y3 y4 y5 y6 y7 y8 y9 y10 y11 y12 y13 y14 y15
      unfold monocoquelaw30_BudgetBound.j4
      repeat' first
      | (with_reducible exact ih0 _ _ _ _ _ _ _ _ _ _)
      | (with_reducible exact ih1 _ _ _ _ _ _ _ _ _ _ _ _ _)
      | (with_reducible exact ih2 _ _ _ _ _ _ _ _ _ _ _ _ _ _)
      | (with_reducible exact ih3 _ _ _ _ _ _ _ _ _ _ _ _ _)
      | (with_reducible exact ih4 _ _ _ _ _ _ _ _ _ _ _ _ _ _ _ _)
      | (with_reducible exact ih5 _ _ _ _ _ _ _ _ _ _ _ _ _ _ _)
      | (with_reducible exact budget_Server_Charge.mono _ _ _ _ _ _ _ _)
      | (with_reducible exact budget_Server_Left.mono _ _ _ _ _ _ _)
      | (with_reducible exact monocoquelaw30_known.mono _)
      | (with_reducible exact LeO.refl _)
      | (with_reducible exact LeO.none _)
      | (with_reducible refine LeO.ite ?_ ?_)
      | (with_reducible refine LeO.bind ?_ (fun _ => ?_))
      | exact ih0 _ _ _ _ _ _ _ _ _ _
      | exact ih1 _ _ _ _ _ _ _ _ _ _ _ _ _
      | exact ih2 _ _ _ _ _ _ _ _ _ _ _ _ _ _
      | exact ih3 _ _ _ _ _ _ _ _ _ _ _ _ _
      | exact ih4 _ _ _ _ _ _ _ _ _ _ _ _ _ _ _ _
      | exact ih5 _ _ _ _ _ _ _ _ _ _ _ _ _ _ _
      | exact budget_Server_Charge.mono _ _ _ _ _ _ _ _
      | exact budget_Server_Left.mono _ _ _ _ _ _ _
      | exact monocoquelaw30_known.mono _
      | exact LeO.none _
      | refine LeO.ite ?_ ?_
      | refine LeO.bind ?_ (fun _ => ?_)
    · intro y0 y1 y2 y3 y4 y5 y6 y7 y8 y9 y10 y11 y12 y13 y14
      unfold monocoquelaw30_BudgetBound.j5
      repeat' first
      | (with_reducible exact ih0 _ _ _ _ _ _ _ _ _ _)
      | (with_reducible exact ih1 _ _ _ _ _ _ _ _ _ _ _ _ _)
      | (with_reducible exact ih2 _ _ _ _ _ _ _ _ _ _ _ _ _ _)
      | (with_reducible exact ih3 _ _ _ _ _ _ _ _ _ _ _ _ _)
      | (with_reducible exact ih4 _ _ _ _ _ _ _ _ _ _ _ _ _ _ _ _)
      | (with_reducible exact ih5 _ _ _ _ _ _ _ _ _ _ _ _ _ _ _)
      | (with_reducible exact budget_Server_Charge.mono _ _ _ _ _ _ _ _)
      | (with_reducible exact budget_Server_Left.mono _ _ _ _ _ _ _)
      | (with_reducible exact monocoquelaw30_known.mono _)
      | (with_reducible exact LeO.refl _)
      | (with_reducible exact LeO.none _)
      | (with_reducible refine LeO.ite ?_ ?_)
      | (with_reducible refine LeO.bind ?_ (fun _ => ?_))
      | exact ih0 _ _ _ _ _ _ _ _ _ _
      | exact ih1 _ _ _ _ _ _ _ _ _ _ _ _ _
      | exact ih2 _ _ _ _ _ _ _ _ _ _ _ _ _ _
      | exact ih3 _ _ _ _ _ _ _ _ _ _ _ _ _
      | exact ih4 _ _ _ _ _ _ _ _ _ _ _ _ _ _ _ _
      | exact ih5 _ _ _ _ _ _ _ _ _ _ _ _ _ _ _
      | exact budget_Server_Charge.mono _ _ _ _ _ _ _ _
      | exact budget_Server_Left.mono _ _ _ _ _ _ _
      | exact monocoquelaw30_known.mono _
      | exact LeO.none _
      | refine LeO.ite ?_ ?_
      | refine LeO.bind ?_ (fun _ => ?_)
theorem monocoquelaw30_BudgetBound.mono : ∀ a0 a1 a2 a3 k, LeO (monocoquelaw30_BudgetBound.f k a0 a1 a2 a3) (monocoquelaw30_BudgetBound.f (k + 1) a0 a1 a2 a3) := by
  intro a0 a1 a2 a3 k
  obtain ⟨ih0, ih1, ih2, ih3, ih4, ih5⟩ := monocoquelaw30_BudgetBound.mono_l k
  unfold monocoquelaw30_BudgetBound.f
  repeat' first
      | (with_reducible exact ih0 _ _ _ _ _ _ _ _ _ _)
      | (with_reducible exact ih1 _ _ _ _ _ _ _ _ _ _ _ _ _)
      | (with_reducible exact ih2 _ _ _ _ _ _ _ _ _ _ _ _ _ _)
      | (with_reducible exact ih3 _ _ _ _ _ _ _ _ _ _ _ _ _)
      | (with_reducible exact ih4 _ _ _ _ _ _ _ _ _ _ _ _ _ _ _ _)
      | (with_reducible exact ih5 _ _ _ _ _ _ _ _ _ _ _ _ _ _ _)
      | (with_reducible exact budget_Server_Charge.mono _ _ _ _ _ _ _ _)
      | (with_reducible exact budget_Server_Left.mono _ _ _ _ _ _ _)
      | (with_reducible exact monocoquelaw30_known.mono _)
      | (with_reducible exact LeO.refl _)
      | (with_reducible exact LeO.none _)
      | (with_reducible refine LeO.ite ?_ ?_)
      | (with_reducible refine LeO.bind ?_ (fun _ => ?_))
      | exact ih0 _ _ _ _ _ _ _ _ _ _
      | exact ih1 _ _ _ _ _ _ _ _ _ _ _ _ _
      | exact ih2 _ _ _ _ _ _ _ _ _ _ _ _ _ _
      | exact ih3 _ _ _ _ _ _ _ _ _ _ _ _ _
      | exact ih4 _ _ _ _ _ _ _ _ _ _ _ _ _ _ _ _
      | exact ih5 _ _ _ _ _ _ _ _ _ _ _ _ _ _ _
      | exact budget_Server_Charge.mono _ _ _ _ _ _ _ _
      | exact budget_Server_Left.mono _ _ _ _ _ _ _
      | exact monocoquelaw30_known.mono _
      | exact LeO.none _
      | refine LeO.ite ?_ ?_
      | refine LeO.bind ?_ (fun _ => ?_)
set_option maxHeartbeats 8000000 in
set_option maxRecDepth 100000 in
theorem monocoquelaw30_BudgetBound.calls (k : Nat) (a0 : Int) (a1 : Int) (A2 : Option Addr) (c2 : Nat) (l2 : List Int) (A3 : Option Addr) (c3 : Nat) (l3 : List Int) (r : Bool) (w : World) (hr2 : Kd.C (Kd.int .u16) w A2 l2.length l2) (hc2 : l2.length ≤ c2) (hr3 : Kd.C (Kd.int .i64) w A3 l3.length l3) (hc3 : l3.length ≤ c3) (h : monocoquelaw30_BudgetBound.f k a0 a1 l2 l3 = some r) :
    Calls Try.prog 3 #[.int .i64 a0, .int .i64 a1, .slice A2 l2.length c2, .slice A3 l3.length c3] w fun e w' => e = .returned (.bool r) ∧ Below w.heap.size w w' := by
  have hu25 := Try.underlying25
  have HR2 := Aside0.mk hr2
  have HC2 := Aside0.mk hc2
  clear hr2 hc2
  have HR3 := Aside0.mk hr3
  have HC3 := Aside0.mk hc3
  clear hr3 hc3
  have HB := Aside0.mk (Below.refl w.heap.size w)
  have H : (if (IntKind.u64.wrap (wrap64 (1 + (wrap64 (Int.tmod (IntKind.u64.wrap (a1)) 1000))))) = 0 then (none) else ((budget_New.f (wrap64 (1 + (wrap64 (Int.tmod (IntKind.u64.wrap (a0)) (IntKind.u64.wrap (wrap64 (1 + (wrap64 (Int.tmod (IntKind.u64.wrap (a1)) 1000))))))))) (wrap64 (1 + (wrap64 (Int.tmod (IntKind.u64.wrap (a1)) 1000))))).bind fun bt184 => (if bt184.2.2.2.2.2 = 0 then (monocoquelaw30_BudgetBound.j0 k (wrap64 (1 + (wrap64 (Int.tmod (IntKind.u64.wrap (a0)) (IntKind.u64.wrap (wrap64 (1 + (wrap64 (Int.tmod (IntKind.u64.wrap (a1)) 1000))))))))) (wrap64 (1 + (wrap64 (Int.tmod (IntKind.u64.wrap (a1)) 1000)))) l2 l3 false bt184.1 bt184.2.1 bt184.2.2.1 bt184.2.2.2.1 bt184.2.2.2.2.1) else (monocoquelaw30_BudgetBound.j0 k (wrap64 (1 + (wrap64 (Int.tmod (IntKind.u64.wrap (a0)) (IntKind.u64.wrap (wrap64 (1 + (wrap64 (Int.tmod (IntKind.u64.wrap (a1)) 1000))))))))) (wrap64 (1 + (wrap64 (Int.tmod (IntKind.u64.wrap (a1)) 1000)))) l2 l3 true bt184.1 bt184.2.1 bt184.2.2.1 bt184.2.2.2.1 bt184.2.2.2.2.1)))) = some r := h
  clear h
  by_cases c5 : (IntKind.u64.wrap (wrap64 (1 + (wrap64 (Int.tmod (IntKind.u64.wrap (a1)) 1000))))) = 0
  · rw [if_pos c5] at H
    exact absurd H (by simp)
  · rw [if_neg c5] at H
    have c5b0 : ((IntKind.u64.wrap (wrap64 (1 + (wrap64 (Int.tmod (IntKind.u64.wrap (a1)) 1000))))) == 0) = false := beq_eq_false_iff_ne.mpr c5
    have c5b1 : ((IntKind.u64.wrap (wrap64 (1 + (wrap64 (Int.tmod (IntKind.u64.wrap (a1)) 1000))))) != 0) = true := bne_iff_ne.mpr c5
    replace H := Option.bind_eq_some_iff.mp H
    obtain ⟨⟨t184, t185, t186, t187, t188, t190⟩, A60, H⟩ := H
    replace H : (if t190 = 0 then (monocoquelaw30_BudgetBound.j0 k (wrap64 (1 + (wrap64 (Int.tmod (IntKind.u64.wrap (a0)) (IntKind.u64.wrap (wrap64 (1 + (wrap64 (Int.tmod (IntKind.u64.wrap (a1)) 1000))))))))) (wrap64 (1 + (wrap64 (Int.tmod (IntKind.u64.wrap (a1)) 1000)))) l2 l3 false t184 t185 t186 t187 t188) else (monocoquelaw30_BudgetBound.j0 k (wrap64 (1 + (wrap64 (Int.tmod (IntKind.u64.wrap (a0)) (IntKind.u64.wrap (wrap64 (1 + (wrap64 (Int.tmod (IntKind.u64.wrap (a1)) 1000))))))))) (wrap64 (1 + (wrap64 (Int.tmod (IntKind.u64.wrap (a1)) 1000)))) l2 l3 true t184 t185 t186 t187 t188)) = some r := H
    have A6 := Aside0.mk A60
    clear A60
    have HC7 := Aside0.mk H
    clear H
    go_enter Try.func3, Try.ntmps3
    go_upto_region 4 with (first | ((with_reducible refine gate_callee (f := 15) rfl ?_); refine goesL_ (some 32) rfl rfl Try.func15 (by kernel_rfl) rfl #[.int .i64 (wrap64 (1 + (wrap64 (Int.tmod (IntKind.u64.wrap (a0)) (IntKind.u64.wrap (wrap64 (1 + (wrap64 (Int.tmod (IntKind.u64.wrap (a1)) 1000))))))))), .int .i64 (wrap64 (1 + (wrap64 (Int.tmod (IntKind.u64.wrap (a1)) 1000))))] rfl (by (try simp only [List.map_toArray, List.map_cons, List.map_nil]); first | done | rfl | (simp only [List.length_drop, List.length_take]; rfl)) ?_; (with_reducible refine (budget_New.calls (wrap64 (1 + (wrap64 (Int.tmod (IntKind.u64.wrap (a0)) (IntKind.u64.wrap (wrap64 (1 + (wrap64 (Int.tmod (IntKind.u64.wrap (a1)) 1000))))))))) (wrap64 (1 + (wrap64 (Int.tmod (IntKind.u64.wrap (a1)) 1000)))) t184 t185 t186 t187 t188 t190 w _ ?side1 A6.out).mono ?_); (case side1 => repeat (first | (with_reducible first | exact HB.out | apply below_alloc | apply pw_below_drewN | apply below_drew1) | exact HB.out)); rintro e w8 ⟨g189, rfl, hi, hb, hb2⟩; refine ⟨_, rfl, ?_⟩; have n0_ := Aside0.mk (hb); have n1_ := Aside0.mk (hi); clear HB; have HB := n0_; have HI189 := n1_; clear n0_ n1_; (try clear hb); (try clear hb2); (try clear hk); (try clear hi)))
    (try simp only [Act.put, List.setIfInBounds_toArray, List.set_cons_zero, List.set_cons_succ])
    go_cut [40] (fun v40 wc => ∃ (kq : Nat) (x40_6 : Bool), v40 = .bool x40_6 ∧ Aside0 (monocoquelaw30_BudgetBound.j0 kq (wrap64 (1 + (wrap64 (Int.tmod (IntKind.u64.wrap (a0)) (IntKind.u64.wrap (wrap64 (1 + (wrap64 (Int.tmod (IntKind.u64.wrap (a1)) 1000))))))))) (wrap64 (1 + (wrap64 (Int.tmod (IntKind.u64.wrap (a1)) 1000)))) l2 l3 x40_6 t184 t185 t186 t187 t188 = some r) ∧ Aside0 (kq ≤ k) ∧ Aside0 (IsS84 w wc g189 t184 t185 t186 t187 t188) ∧ Aside0 (Below w.heap.size w wc))
    case first =>
      have H := HC7.out
      clear HC7
      by_cases c9 : t190 = 0
      · rw [if_pos c9] at H
        have c9b0 : (t190 == 0) = true := beq_iff_eq.mpr c9
        have c9b1 : (t190 != 0) = false := bne_eq_false_iff_eq.mpr c9
        clear c9
        (first | rw [c9b0] | (simp only [i64_w, i32_w]; rw [c9b0]) | skip)
        have H' := Aside0.mk H
        clear H
        go_wp2
        go_meet
        case rel => exact ⟨_, (false), (by first | rfl | (simp; done) | (simp [*]; done)), H', ⟨by first | omega | exact Nat.le_refl _⟩, ⟨by repeat (first | (with_reducible first | exact HI189.out | apply IsS84.alloc | apply IsS84.drewN | apply IsS84.drew | apply IsS84.set_0 | apply IsS84.set_1 | apply IsS84.set_2 | apply IsS84.set_3 | apply IsS84.set_4) | exact HI189.out)⟩, ⟨by repeat (first | (with_reducible first | exact HB.out | apply below_alloc | apply pw_below_drewN | apply below_drew1 | refine below_set ?_ (IsS84.ge HI189.out)) | exact HB.out)⟩⟩
      · rw [if_neg c9] at H
        have c9b0 : (t190 == 0) = false := beq_eq_false_iff_ne.mpr c9
        have c9b1 : (t190 != 0) = true := bne_iff_ne.mpr c9
        (first | rw [c9b0] | (simp only [i64_w, i32_w]; rw [c9b0]) | skip)
        have H' := Aside0.mk H
        clear H
        go_wp2
        go_meet
        case rel => exact ⟨_, (true), (by first | rfl | (simp; done) | (simp [*]; done)), H', ⟨by first | omega | exact Nat.le_refl _⟩, ⟨by repeat (first | (with_reducible first | exact HI189.out | apply IsS84.alloc | apply IsS84.drewN | apply IsS84.drew | apply IsS84.set_0 | apply IsS84.set_1 | apply IsS84.set_2 | apply IsS84.set_3 | apply IsS84.set_4) | exact HI189.out)⟩, ⟨by repeat (first | (with_reducible first | exact HB.out | apply below_alloc | apply pw_below_drewN | apply below_drew1 | refine below_set ?_ (IsS84.ge HI189.out)) | exact HB.out)⟩⟩
    case rest =>
      clear HC7
      try clear c1
      try clear c2
      try clear p2
      try clear c3
      try clear c5
      try clear c5b0
      try clear c5b1
      try clear p6
      try clear c9
      try clear c9b0
      try clear c9b1
      obtain ⟨kq, x40_6, rfl, HA, HJ6, HI189, HB⟩ := hcut
      cases kq with
      | zero => exact absurd HA.out (by simp [monocoquelaw30_BudgetBound.j0])
      | succ kj6 =>
        have H := HA.out
        clear HA
        simp only [monocoquelaw30_BudgetBound.j0] at H
        by_cases c10 : x40_6 = true
        · subst c10
          have H1 : (some false) = some r := by rw [if_pos rfl] at H; exact H
          clear H
          have H := H1
          clear H1
          obtain rfl := Option.some.inj H
          go_wp2
          go_ret
          exact ⟨by first | rfl | (simp [errW_none, errW_some] <;> rfl) | (simp [*, errW_none, errW_some] <;> rfl), by repeat (first | (with_reducible first | exact HB.out | apply below_alloc | apply pw_below_drewN | apply below_drew1 | refine below_set ?_ (IsS84.ge HI189.out)) | exact HB.out)⟩
        · replace c10 := Bool.eq_false_iff.mpr c10
          subst c10
          have H1 : (monocoquelaw30_BudgetBound.l0 kj6 (wrap64 (1 + (wrap64 (Int.tmod (IntKind.u64.wrap (a0)) (IntKind.u64.wrap (wrap64 (1 + (wrap64 (Int.tmod (IntKind.u64.wrap (a1)) 1000))))))))) (wrap64 (1 + (wrap64 (Int.tmod (IntKind.u64.wrap (a1)) 1000)))) l2 l3 0 0 0 0 t184 t185 t186 t187 t188) = some r := by rw [if_neg (show ¬ (false = true) by decide)] at H; exact H
          clear H
          have H := H1
          clear H1
          have H' := Aside0.mk H
          clear H
          go_wp2
          go_loopg [11, 12, 13, 14] kj6 (fun kq v11 v12 v13 v14 w' => ∃ (x11_2 : Int) (x12_2 : Int) (x13_2 : Int) (x14_2 : Int) (x190000_2 : Int) (x190001_2 : Int) (x190002_2 : Int) (x190003_2 : Int) (x190004_2 : Int), v11 = .int .i64 x11_2 ∧ v12 = .int .i64 x12_2 ∧ v13 = .int .i64 x13_2 ∧ v14 = .int .i64 x14_2 ∧ Aside0 (monocoquelaw30_BudgetBound.l0 kq (wrap64 (1 + (wrap64 (Int.tmod (IntKind.u64.wrap (a0)) (IntKind.u64.wrap (wrap64 (1 + (wrap64 (Int.tmod (IntKind.u64.wrap (a1)) 1000))))))))) (wrap64 (1 + (wrap64 (Int.tmod (IntKind.u64.wrap (a1)) 1000)))) l2 l3 x11_2 x12_2 x13_2 x14_2 x190000_2 x190001_2 x190002_2 x190003_2 x190004_2 = some r) ∧ Aside0 (kq ≤ kj6) ∧ Aside0 (IsS84 w w' g189 x190000_2 x190001_2 x190002_2 x190003_2 x190004_2) ∧ Aside0 (Below w.heap.size w w'))
          case atStart => exact ⟨(0), (0), (0), (0), (t184), (t185), (t186), (t187), (t188), (by first | rfl | (simp; done) | (simp [*]; done)), (by first | rfl | (simp; done) | (simp [*]; done)), (by first | rfl | (simp; done) | (simp [*]; done)), (by first | rfl | (simp; done) | (simp [*]; done)), H', ⟨Nat.le_refl _⟩, ⟨by repeat (first | (with_reducible first | exact HI189.out | apply IsS84.alloc | apply IsS84.drewN | apply IsS84.drew | apply IsS84.set_0 | apply IsS84.set_1 | apply IsS84.set_2 | apply IsS84.set_3 | apply IsS84.set_4) | exact HI189.out)⟩, ⟨by repeat (first | (with_reducible first | exact HB.out | apply below_alloc | apply pw_below_drewN | apply below_drew1 | refine below_set ?_ (IsS84.ge HI189.out)) | exact HB.out)⟩⟩
          case round =>
            clear H'
            try clear c1
            try clear c2
            try clear p2
            try clear c3
            try clear c5
            try clear c5b0
            try clear c5b1
            try clear p6
            try clear c9
            try clear c9b0
            try clear c9b1
            try clear c10
            try clear p2
            try clear p6
            obtain ⟨x11_2, x12_2, x13_2, x14_2, x190000_2, x190001_2, x190002_2, x190003_2, x190004_2, rfl, rfl, rfl, rfl, HA, HK2, HI189, HB⟩ := hrel
            cases gk with
            | zero => exact absurd HA.out (by simp [monocoquelaw30_BudgetBound.l0])
            | succ k2 =>
              have H := HA.out
              clear HA
              simp only [monocoquelaw30_BudgetBound.l0] at H
              have HC11 := Aside0.mk H
              clear H
              go_upto_region 8 with (fail)
              go_cut [54] (fun v54 wc => ∃ (kq : Nat) (x54_10 : Bool), v54 = .bool x54_10 ∧ Aside0 (monocoquelaw30_BudgetBound.j2 kq (wrap64 (1 + (wrap64 (Int.tmod (IntKind.u64.wrap (a0)) (IntKind.u64.wrap (wrap64 (1 + (wrap64 (Int.tmod (IntKind.u64.wrap (a1)) 1000))))))))) (wrap64 (1 + (wrap64 (Int.tmod (IntKind.u64.wrap (a1)) 1000)))) l2 l3 x11_2 x12_2 x13_2 x14_2 x54_10 x190000_2 x190001_2 x190002_2 x190003_2 x190004_2 = some r) ∧ Aside0 (kq ≤ k2) ∧ Aside0 (IsS84 w wc g189 x190000_2 x190001_2 x190002_2 x190003_2 x190004_2) ∧ Aside0 (Below w.heap.size w wc))
              case first =>
                have H := HC11.out
                clear HC11
                by_cases c12 : x14_2 < (l2.length : Int)
                · rw [if_pos c12] at H
                  have c12b0 : decide (x14_2 < (l2.length : Int)) = true := decide_eq_true c12
                  clear c12
                  (first | rw [c12b0] | (simp only [i64_w, i32_w]; rw [c12b0]) | skip)
                  by_cases c13 : x14_2 < (l3.length : Int)
                  · rw [if_pos c13] at H
                    have c13b0 : decide (x14_2 < (l3.length : Int)) = true := decide_eq_true c13
                    clear c13
                    have H' := Aside0.mk H
                    clear H
                    go_wp2
                    go_meet
                    case rel => exact ⟨_, (decide (x14_2 < 60)), (by first | rfl | (simp; done) | (simp [*]; done)), H', ⟨by have := HJ6.out; have := HK2.out; first | omega | exact Nat.le_refl _⟩, ⟨by repeat (first | (with_reducible first | exact HI189.out | apply IsS84.alloc | apply IsS84.drewN | apply IsS84.drew | apply IsS84.set_0 | apply IsS84.set_1 | apply IsS84.set_2 | apply IsS84.set_3 | apply IsS84.set_4) | exact HI189.out)⟩, ⟨by repeat (first | (with_reducible first | exact HB.out | apply below_alloc | apply pw_below_drewN | apply below_drew1 | refine below_set ?_ (IsS84.ge HI189.out)) | exact HB.out)⟩⟩
                  · rw [if_neg c13] at H
                    have c13b0 : decide (x14_2 < (l3.length : Int)) = false := decide_eq_false c13
                    clear c13
                    have H' := Aside0.mk H
                    clear H
                    go_wp2
                    go_meet
                    case rel => exact ⟨_, (false), (by first | rfl | (simp; done) | (simp [*]; done)), H', ⟨by have := HJ6.out; have := HK2.out; first | omega | exact Nat.le_refl _⟩, ⟨by repeat (first | (with_reducible first | exact HI189.out | apply IsS84.alloc | apply IsS84.drewN | apply IsS84.drew | apply IsS84.set_0 | apply IsS84.set_1 | apply IsS84.set_2 | apply IsS84.set_3 | apply IsS84.set_4) | exact HI189.out)⟩, ⟨by repeat (first | (with_reducible first | exact HB.out | apply below_alloc | apply pw_below_drewN | apply below_drew1 | refine below_set ?_ (IsS84.ge HI189.out)) | exact HB.out)⟩⟩
                · rw [if_neg c12] at H
                  have c12b0 : decide (x14_2 < (l2.length : Int)) = false := decide_eq_false c12
                  clear c12
                  (first | rw [c12b0] | (simp only [i64_w, i32_w]; rw [c12b0]) | skip)
                  have H' := Aside0.mk H
                  clear H
                  go_wp2
                  go_meet
                  case rel => exact ⟨_, (false), (by first | rfl | (simp; done) | (simp [*]; done)), H', ⟨by have := HJ6.out; have := HK2.out; first | omega | exact Nat.le_refl _⟩, ⟨by repeat (first | (with_reducible first | exact HI189.out | apply IsS84.alloc | apply IsS84.drewN | apply IsS84.drew | apply IsS84.set_0 | apply IsS84.set_1 | apply IsS84.set_2 | apply IsS84.set_3 | apply IsS84.set_4) | exact HI189.out)⟩, ⟨by repeat (first | (with_reducible first | exact HB.out | apply below_alloc | apply pw_below_drewN | apply below_drew1 | refine below_set ?_ (IsS84.ge HI189.out)) | exact HB.out)⟩⟩
              case rest =>
                clear HC11
                try clear c1
                try clear c2
                try clear p2
                try clear c3
                try clear c5
                try clear c5b0
                try clear c5b1
                try clear p6
                try clear c9
                try clear c9b0
                try clear c9b1
                try clear c10
                try clear c12
                try clear c12b0
                try clear c13
                try clear c13b0
                try clear p2
                try clear p6
                obtain ⟨kq, x54_10, rfl, HA, HJ10, HI189, HB⟩ := hcut
                cases kq with
                | zero => exact absurd HA.out (by simp [monocoquelaw30_BudgetBound.j2])
                | succ kj10 =>
                  have H := HA.out
                  clear HA
                  simp only [monocoquelaw30_BudgetBound.j2] at H
                  by_cases c14 : x54_10 = true
                  · subst c14
                    have H1 : (if 0 ≤ x14_2 then (if x14_2 < (l2.length : Int) then (if (wrap64 (1 + (wrap64 (Int.tmod (IntKind.u64.wrap (a1)) 1000)))) = 0 then (none) else (if (wrap64 (Int.tdiv (wrap64 (x11_2 + (wrap64 (Int.tmod (rd l2 x14_2) 1000)))) (wrap64 (1 + (wrap64 (Int.tmod (IntKind.u64.wrap (a1)) 1000)))))) = x12_2 then (monocoquelaw30_BudgetBound.j3 kj10 (wrap64 (1 + (wrap64 (Int.tmod (IntKind.u64.wrap (a0)) (IntKind.u64.wrap (wrap64 (1 + (wrap64 (Int.tmod (IntKind.u64.wrap (a1)) 1000))))))))) (wrap64 (1 + (wrap64 (Int.tmod (IntKind.u64.wrap (a1)) 1000)))) l2 l3 (wrap64 (x11_2 + (wrap64 (Int.tmod (rd l2 x14_2) 1000)))) x12_2 x13_2 x14_2 x190000_2 x190001_2 x190002_2 x190003_2 x190004_2) else (monocoquelaw30_BudgetBound.j3 kj10 (wrap64 (1 + (wrap64 (Int.tmod (IntKind.u64.wrap (a0)) (IntKind.u64.wrap (wrap64 (1 + (wrap64 (Int.tmod (IntKind.u64.wrap (a1)) 1000))))))))) (wrap64 (1 + (wrap64 (Int.tmod (IntKind.u64.wrap (a1)) 1000)))) l2 l3 (wrap64 (x11_2 + (wrap64 (Int.tmod (rd l2 x14_2) 1000)))) (wrap64 (Int.tdiv (wrap64 (x11_2 + (wrap64 (Int.tmod (rd l2 x14_2) 1000)))) (wrap64 (1 + (wrap64 (Int.tmod (IntKind.u64.wrap (a1)) 1000)))))) 0 x14_2 x190000_2 x190001_2 x190002_2 x190003_2 x190004_2))) else (none)) else (none)) = some r := by rw [if_pos rfl] at H; exact H
                    clear H
                    have H := H1
                    clear H1
                    by_cases c15 : 0 ≤ x14_2
                    · rw [if_pos c15] at H
                      have c15b0 : decide (0 ≤ x14_2) = true := decide_eq_true c15
                      clear c15
                      by_cases c16 : x14_2 < (l2.length : Int)
                      · rw [if_pos c16] at H
                        have c16b0 : decide (x14_2 < (l2.length : Int)) = true := decide_eq_true c16
                        clear c16
                        by_cases c17 : (wrap64 (1 + (wrap64 (Int.tmod (IntKind.u64.wrap (a1)) 1000)))) = 0
                        · rw [if_pos c17] at H
                          exact absurd H (by simp)
                        · rw [if_neg c17] at H
                          have c17b0 : ((wrap64 (1 + (wrap64 (Int.tmod (IntKind.u64.wrap (a1)) 1000)))) == 0) = false := beq_eq_false_iff_ne.mpr c17
                          have c17b1 : ((wrap64 (1 + (wrap64 (Int.tmod (IntKind.u64.wrap (a1)) 1000)))) != 0) = true := bne_iff_ne.mpr c17
                          have HC18 := Aside0.mk H
                          clear H
                          have p192 : 0 ≤ (x14_2 : Int) := of_decide_eq_true (by first | (with_reducible assumption) | assumption)
                          have q192 : x14_2 < (l2.length : Int) := of_decide_eq_true (by first | (with_reducible assumption) | assumption)
                          obtain ⟨ad192, e192, hx192_0⟩ := Kd.at_int HR2.out x14_2 p192 q192
                          cases e192
                          replace hx192_0 := (HB.out.cell (World.block_lt_of_cell? w _ hx192_0)).trans hx192_0
                          replace p192 := eq_true p192
                          replace q192 := eq_true q192
                          go_upto_if 69 with (fail)
                          go_cut [12, 13] (fun v12 v13 wc => ∃ (kq : Nat) (x12_17 : Int) (x13_17 : Int), v12 = .int .i64 x12_17 ∧ v13 = .int .i64 x13_17 ∧ Aside0 (monocoquelaw30_BudgetBound.j3 kq (wrap64 (1 + (wrap64 (Int.tmod (IntKind.u64.wrap (a0)) (IntKind.u64.wrap (wrap64 (1 + (wrap64 (Int.tmod (IntKind.u64.wrap (a1)) 1000))))))))) (wrap64 (1 + (wrap64 (Int.tmod (IntKind.u64.wrap (a1)) 1000)))) l2 l3 (wrap64 (x11_2 + (wrap64 (Int.tmod (rd l2 x14_2) 1000)))) x12_17 x13_17 x14_2 x190000_2 x190001_2 x190002_2 x190003_2 x190004_2 = some r) ∧ Aside0 (kq ≤ kj10) ∧ Aside0 (IsS84 w wc g189 x190000_2 x190001_2 x190002_2 x190003_2 x190004_2) ∧ Aside0 (Below w.heap.size w wc))
                          case first =>
                            have H := HC18.out
                            clear HC18
                            by_cases c19 : (wrap64 (Int.tdiv (wrap64 (x11_2 + (wrap64 (Int.tmod (rd l2 x14_2) 1000)))) (wrap64 (1 + (wrap64 (Int.tmod (IntKind.u64.wrap (a1)) 1000)))))) = x12_2
                            · rw [if_pos c19] at H
                              have c19b0 : ((wrap64 (Int.tdiv (wrap64 (x11_2 + (wrap64 (Int.tmod (rd l2 x14_2) 1000)))) (wrap64 (1 + (wrap64 (Int.tmod (IntKind.u64.wrap (a1)) 1000)))))) == x12_2) = true := beq_iff_eq.mpr c19
                              have c19b1 : ((wrap64 (Int.tdiv (wrap64 (x11_2 + (wrap64 (Int.tmod (rd l2 x14_2) 1000)))) (wrap64 (1 + (wrap64 (Int.tmod (IntKind.u64.wrap (a1)) 1000)))))) != x12_2) = false := bne_eq_false_iff_eq.mpr c19
                              clear c19
                              (first | rw [c19b0] | (simp only [i64_w, i32_w]; rw [c19b0]) | skip)
                              have H' := Aside0.mk H
                              clear H
                              go_wp2
                              go_meet
                              case rel => exact ⟨_, (x12_2), (x13_2), (by first | rfl | (simp; done) | (simp [*]; done)), (by first | rfl | (simp; done) | (simp [*]; done)), H', ⟨by have := HJ6.out; have := HK2.out; have := HJ10.out; first | omega | exact Nat.le_refl _⟩, ⟨by repeat (first | (with_reducible first | exact HI189.out | apply IsS84.alloc | apply IsS84.drewN | apply IsS84.drew | apply IsS84.set_0 | apply IsS84.set_1 | apply IsS84.set_2 | apply IsS84.set_3 | apply IsS84.set_4) | exact HI189.out)⟩, ⟨by repeat (first | (with_reducible first | exact HB.out | apply below_alloc | apply pw_below_drewN | apply below_drew1 | refine below_set ?_ (IsS84.ge HI189.out)) | exact HB.out)⟩⟩
                            · rw [if_neg c19] at H
                              have c19b0 : ((wrap64 (Int.tdiv (wrap64 (x11_2 + (wrap64 (Int.tmod (rd l2 x14_2) 1000)))) (wrap64 (1 + (wrap64 (Int.tmod (IntKind.u64.wrap (a1)) 1000)))))) == x12_2) = false := beq_eq_false_iff_ne.mpr c19
                              have c19b1 : ((wrap64 (Int.tdiv (wrap64 (x11_2 + (wrap64 (Int.tmod (rd l2 x14_2) 1000)))) (wrap64 (1 + (wrap64 (Int.tmod (IntKind.u64.wrap (a1)) 1000)))))) != x12_2) = true := bne_iff_ne.mpr c19
                              (first | rw [c19b0] | (simp only [i64_w, i32_w]; rw [c19b0]) | skip)
                              have H' := Aside0.mk H
                              clear H
                              go_wp2
                              go_meet
                              case rel => exact ⟨_, (wrap64 (Int.tdiv (wrap64 (x11_2 + (wrap64 (Int.tmod (rd l2 x14_2) 1000)))) (wrap64 (1 + (wrap64 (Int.tmod (IntKind.u64.wrap (a1)) 1000)))))), (0), (by first | rfl | (simp; done) | (simp [*]; done)), (by first | rfl | (simp; done) | (simp [*]; done)), H', ⟨by have := HJ6.out; have := HK2.out; have := HJ10.out; first | omega | exact Nat.le_refl _⟩, ⟨by repeat (first | (with_reducible first | exact HI189.out | apply IsS84.alloc | apply IsS84.drewN | apply IsS84.drew | apply IsS84.set_0 | apply IsS84.set_1 | apply IsS84.set_2 | apply IsS84.set_3 | apply IsS84.set_4) | exact HI189.out)⟩, ⟨by repeat (first | (with_reducible first | exact HB.out | apply below_alloc | apply pw_below_drewN | apply below_drew1 | refine below_set ?_ (IsS84.ge HI189.out)) | exact HB.out)⟩⟩
                          case rest =>
                            clear HC18
                            try clear c1
                            try clear p1
                            try clear q1
                            try clear hx1
                            try clear c2
                            try clear p2
                            try clear c3
                            try clear c5
                            try clear c5b0
                            try clear c5b1
                            try clear p6
                            try clear c9
                            try clear c9b0
                            try clear c9b1
                            try clear c10
                            try clear c12
                            try clear c12b0
                            try clear c13
                            try clear c13b0
                            try clear c14
                            try clear c15
                            try clear c15b0
                            try clear c16
                            try clear c16b0
                            try clear c17
                            try clear c17b0
                            try clear c17b1
                            try clear c19
                            try clear c19b0
                            try clear c19b1
                            try clear p19
                            try clear q19
                            try clear hx19
                            try clear hx192_0
                            try clear p192
                            try clear p2
                            try clear p6
                            try clear q192
                            obtain ⟨kq, x12_17, x13_17, rfl, rfl, HA, HJ17, HI189, HB⟩ := hcut
                            cases kq with
                            | zero => exact absurd HA.out (by simp [monocoquelaw30_BudgetBound.j3])
                            | succ kj17 =>
                              have H := HA.out
                              clear HA
                              simp only [monocoquelaw30_BudgetBound.j3] at H
                              by_cases c20 : 0 ≤ x14_2
                              · rw [if_pos c20] at H
                                have c20b0 : decide (0 ≤ x14_2) = true := decide_eq_true c20
                                clear c20
                                by_cases c21 : x14_2 < (l3.length : Int)
                                · rw [if_pos c21] at H
                                  have c21b0 : decide (x14_2 < (l3.length : Int)) = true := decide_eq_true c21
                                  clear c21
                                  replace H := Option.bind_eq_some_iff.mp H
                                  obtain ⟨⟨t194, t195, t196, t197, t198, t199, t200⟩, A220, H⟩ := H
                                  replace H : (if t194 < 0 then (monocoquelaw30_BudgetBound.j4 kj17 (wrap64 (1 + (wrap64 (Int.tmod (IntKind.u64.wrap (a0)) (IntKind.u64.wrap (wrap64 (1 + (wrap64 (Int.tmod (IntKind.u64.wrap (a1)) 1000))))))))) (wrap64 (1 + (wrap64 (Int.tmod (IntKind.u64.wrap (a1)) 1000)))) l2 l3 (wrap64 (x11_2 + (wrap64 (Int.tmod (rd l2 x14_2) 1000)))) x12_17 (wrap64 (x13_17 + t194)) x14_2 t194 t195 true t196 t197 t198 t199 t200) else (if t194 > (mx (rd l3 x14_2) 0) then (monocoquelaw30_BudgetBound.j4 kj17 (wrap64 (1 + (wrap64 (Int.tmod (IntKind.u64.wrap (a0)) (IntKind.u64.wrap (wrap64 (1 + (wrap64 (Int.tmod (IntKind.u64.wrap (a1)) 1000))))))))) (wrap64 (1 + (wrap64 (Int.tmod (IntKind.u64.wrap (a1)) 1000)))) l2 l3 (wrap64 (x11_2 + (wrap64 (Int.tmod (rd l2 x14_2) 1000)))) x12_17 (wrap64 (x13_17 + t194)) x14_2 t194 t195 true t196 t197 t198 t199 t200) else (if (t195 != (decide (t194 < (rd l3 x14_2)))) = true then (monocoquelaw30_BudgetBound.j4 kj17 (wrap64 (1 + (wrap64 (Int.tmod (IntKind.u64.wrap (a0)) (IntKind.u64.wrap (wrap64 (1 + (wrap64 (Int.tmod (IntKind.u64.wrap (a1)) 1000))))))))) (wrap64 (1 + (wrap64 (Int.tmod (IntKind.u64.wrap (a1)) 1000)))) l2 l3 (wrap64 (x11_2 + (wrap64 (Int.tmod (rd l2 x14_2) 1000)))) x12_17 (wrap64 (x13_17 + t194)) x14_2 t194 t195 true t196 t197 t198 t199 t200) else (if (wrap64 (x13_17 + t194)) > (wrap64 (1 + (wrap64 (Int.tmod (IntKind.u64.wrap (a0)) (IntKind.u64.wrap (wrap64 (1 + (wrap64 (Int.tmod (IntKind.u64.wrap (a1)) 1000))))))))) then (monocoquelaw30_BudgetBound.j4 kj17 (wrap64 (1 + (wrap64 (Int.tmod (IntKind.u64.wrap (a0)) (IntKind.u64.wrap (wrap64 (1 + (wrap64 (Int.tmod (IntKind.u64.wrap (a1)) 1000))))))))) (wrap64 (1 + (wrap64 (Int.tmod (IntKind.u64.wrap (a1)) 1000)))) l2 l3 (wrap64 (x11_2 + (wrap64 (Int.tmod (rd l2 x14_2) 1000)))) x12_17 (wrap64 (x13_17 + t194)) x14_2 t194 t195 true t196 t197 t198 t199 t200) else (if (wrap64 ((wrap64 (x11_2 + (wrap64 (Int.tmod (rd l2 x14_2) 1000)))) + t194)) > (wrap64 ((wrap64 (x12_17 + 1)) * (wrap64 (1 + (wrap64 (Int.tmod (IntKind.u64.wrap (a1)) 1000)))))) then (monocoquelaw30_BudgetBound.j4 kj17 (wrap64 (1 + (wrap64 (Int.tmod (IntKind.u64.wrap (a0)) (IntKind.u64.wrap (wrap64 (1 + (wrap64 (Int.tmod (IntKind.u64.wrap (a1)) 1000))))))))) (wrap64 (1 + (wrap64 (Int.tmod (IntKind.u64.wrap (a1)) 1000)))) l2 l3 (wrap64 (x11_2 + (wrap64 (Int.tmod (rd l2 x14_2) 1000)))) x12_17 (wrap64 (x13_17 + t194)) x14_2 t194 t195 true t196 t197 t198 t199 t200) else ((budget_Server_Next.f t196 t197 t198 t199 t200 (wrap64 (x11_2 + (wrap64 (Int.tmod (rd l2 x14_2) 1000))))).bind fun bt203 => (monocoquelaw30_BudgetBound.j4 kj17 (wrap64 (1 + (wrap64 (Int.tmod (IntKind.u64.wrap (a0)) (IntKind.u64.wrap (wrap64 (1 + (wrap64 (Int.tmod (IntKind.u64.wrap (a1)) 1000))))))))) (wrap64 (1 + (wrap64 (Int.tmod (IntKind.u64.wrap (a1)) 1000)))) l2 l3 (wrap64 (x11_2 + (wrap64 (Int.tmod (rd l2 x14_2) 1000)))) x12_17 (wrap64 (x13_17 + t194)) x14_2 t194 t195 (bt203.1 != (wrap64 ((wrap64 (x12_17 + 1)) * (wrap64 (1 + (wrap64 (Int.tmod (IntKind.u64.wrap (a1)) 1000))))))) bt203.2.1 bt203.2.2.1 bt203.2.2.2.1 bt203.2.2.2.2.1 bt203.2.2.2.2.2))))))) = some r := H
                                  have A22 := Aside0.mk A220
                                  clear A220
                                  have HC23 := Aside0.mk H
                                  clear H
                                  have p193 : 0 ≤ (x14_2 : Int) := of_decide_eq_true (by first | (with_reducible assumption) | assumption)
                                  have q193 : x14_2 < (l3.length : Int) := of_decide_eq_true (by first | (with_reducible assumption) | assumption)
                                  obtain ⟨ad193, e193, hx193_0⟩ := Kd.at_int HR3.out x14_2 p193 q193
                                  cases e193
                                  replace hx193_0 := (HB.out.cell (World.block_lt_of_cell? w _ hx193_0)).trans hx193_0
                                  replace p193 := eq_true p193
                                  replace q193 := eq_true q193
                                  go_upto_region 15 with (first | ((with_reducible refine gate_callee (f := 16) rfl ?_); refine goesL_ (some 80) rfl rfl Try.func16 (by kernel_rfl) rfl #[.pointer (some ⟨g189, 0, none⟩), .int .i64 (wrap64 (x11_2 + (wrap64 (Int.tmod (rd l2 x14_2) 1000)))), .int .i64 (rd l3 x14_2)] rfl (by (try simp only [List.map_toArray, List.map_cons, List.map_nil]); first | done | rfl | (simp only [List.length_drop, List.length_take]; rfl)) ?_; (with_reducible refine (budget_Server_Charge.calls kj17 g189 x190000_2 x190001_2 x190002_2 x190003_2 x190004_2 (wrap64 (x11_2 + (wrap64 (Int.tmod (rd l2 x14_2) 1000)))) (rd l3 x14_2) t194 t195 t196 t197 t198 t199 t200 w _ ?side1 ?side2 A22.out).mono ?_); (case side1 => repeat (first | (with_reducible first | exact HI189.out | apply IsS84.alloc | apply IsS84.drewN | apply IsS84.drew | apply IsS84.set_0 | apply IsS84.set_1 | apply IsS84.set_2 | apply IsS84.set_3 | apply IsS84.set_4) | exact HI189.out)); (case side2 => repeat (first | (with_reducible first | exact HB.out | apply below_alloc | apply pw_below_drewN | apply below_drew1 | refine below_set ?_ (IsS84.ge HI189.out)) | exact HB.out)); rintro e w24 ⟨rfl, hi, hb, hk⟩; refine ⟨_, rfl, ?_⟩; have n0_ := Aside0.mk (hb); have n1_ := Aside0.mk (hi); clear HB; clear HI189; have HB := n0_; have HI189 := n1_; clear n0_ n1_; (try clear hb); (try clear hb2); (try clear hk); (try clear hi)))
                                  (try simp only [Act.put, List.setIfInBounds_toArray, List.set_cons_zero, List.set_cons_succ])
                                  go_cut [131] (fun v131 wc => ∃ (kq : Nat) (x131_22 : Bool) (x190000_22 : Int) (x190001_22 : Int) (x190002_22 : Int) (x190003_22 : Int) (x190004_22 : Int), v131 = .bool x131_22 ∧ Aside0 (monocoquelaw30_BudgetBound.j4 kq (wrap64 (1 + (wrap64 (Int.tmod (IntKind.u64.wrap (a0)) (IntKind.u64.wrap (wrap64 (1 + (wrap64 (Int.tmod (IntKind.u64.wrap (a1)) 1000))))))))) (wrap64 (1 + (wrap64 (Int.tmod (IntKind.u64.wrap (a1)) 1000)))) l2 l3 (wrap64 (x11_2 + (wrap64 (Int.tmod (rd l2 x14_2) 1000)))) x12_17 (wrap64 (x13_17 + t194)) x14_2 t194 t195 x131_22 x190000_22 x190001_22 x190002_22 x190003_22 x190004_22 = some r) ∧ Aside0 (kq ≤ kj17) ∧ Aside0 (IsS84 w wc g189 x190000_22 x190001_22 x190002_22 x190003_22 x190004_22) ∧ Aside0 (Below w.heap.size w wc))
                                  case first =>
                                    have H := HC23.out
                                    clear HC23
                                    by_cases c25 : t194 < 0
                                    · rw [if_pos c25] at H
                                      have c25b0 : decide (t194 < 0) = true := decide_eq_true c25
                                      clear c25
                                      (first | rw [c25b0] | (simp only [i64_w, i32_w]; rw [c25b0]) | skip)
                                      have H' := Aside0.mk H
                                      clear H
                                      go_wp2
                                      go_meet
                                      case rel => exact ⟨_, (true), (t196), (t197), (t198), (t199), (t200), (by first | rfl | (simp; done) | (simp [*]; done)), H', ⟨by have := HJ6.out; have := HK2.out; have := HJ10.out; have := HJ17.out; first | omega | exact Nat.le_refl _⟩, ⟨by repeat (first | (with_reducible first | exact HI189.out | apply IsS84.alloc | apply IsS84.drewN | apply IsS84.drew | apply IsS84.set_0 | apply IsS84.set_1 | apply IsS84.set_2 | apply IsS84.set_3 | apply IsS84.set_4) | exact HI189.out)⟩, ⟨by repeat (first | (with_reducible first | exact HB.out | apply below_alloc | apply pw_below_drewN | apply below_drew1 | refine below_set ?_ (IsS84.ge HI189.out)) | exact HB.out)⟩⟩
                                    · rw [if_neg c25] at H
                                      have c25b0 : decide (t194 < 0) = false := decide_eq_false c25
                                      clear c25
                                      (first | rw [c25b0] | (simp only [i64_w, i32_w]; rw [c25b0]) | skip)
                                      obtain ⟨ji26, hji26⟩ : ∃ j_ : Int, (mx (rd l3 x14_2) 0) = j_ := ⟨_, rfl⟩
                                      replace H : (if t194 > (ji26) then (monocoquelaw30_BudgetBound.j4 kj17 (wrap64 (1 + (wrap64 (Int.tmod (IntKind.u64.wrap (a0)) (IntKind.u64.wrap (wrap64 (1 + (wrap64 (Int.tmod (IntKind.u64.wrap (a1)) 1000))))))))) (wrap64 (1 + (wrap64 (Int.tmod (IntKind.u64.wrap (a1)) 1000)))) l2 l3 (wrap64 (x11_2 + (wrap64 (Int.tmod (rd l2 x14_2) 1000)))) x12_17 (wrap64 (x13_17 + t194)) x14_2 t194 t195 true t196 t197 t198 t199 t200) else (if (t195 != (decide (t194 < (rd l3 x14_2)))) = true then (monocoquelaw30_BudgetBound.j4 kj17 (wrap64 (1 + (wrap64 (Int.tmod (IntKind.u64.wrap (a0)) (IntKind.u64.wrap (wrap64 (1 + (wrap64 (Int.tmod (IntKind.u64.wrap (a1)) 1000))))))))) (wrap64 (1 + (wrap64 (Int.tmod (IntKind.u64.wrap (a1)) 1000)))) l2 l3 (wrap64 (x11_2 + (wrap64 (Int.tmod (rd l2 x14_2) 1000)))) x12_17 (wrap64 (x13_17 + t194)) x14_2 t194 t195 true t196 t197 t198 t199 t200) else (if (wrap64 (x13_17 + t194)) > (wrap64 (1 + (wrap64 (Int.tmod (IntKind.u64.wrap (a0)) (IntKind.u64.wrap (wrap64 (1 + (wrap64 (Int.tmod (IntKind.u64.wrap (a1)) 1000))))))))) then (monocoquelaw30_BudgetBound.j4 kj17 (wrap64 (1 + (wrap64 (Int.tmod (IntKind.u64.wrap (a0)) (IntKind.u64.wrap (wrap64 (1 + (wrap64 (Int.tmod (IntKind.u64.wrap (a1)) 1000))))))))) (wrap64 (1 + (wrap64 (Int.tmod (IntKind.u64.wrap (a1)) 1000)))) l2 l3 (wrap64 (x11_2 + (wrap64 (Int.tmod (rd l2 x14_2) 1000)))) x12_17 (wrap64 (x13_17 + t194)) x14_2 t194 t195 true t196 t197 t198 t199 t200) else (if (wrap64 ((wrap64 (x11_2 + (wrap64 (Int.tmod (rd l2 x14_2) 1000)))) + t194)) > (wrap64 ((wrap64 (x12_17 + 1)) * (wrap64 (1 + (wrap64 (Int.tmod (IntKind.u64.wrap (a1)) 1000)))))) then (monocoquelaw30_BudgetBound.j4 kj17 (wrap64 (1 + (wrap64 (Int.tmod (IntKind.u64.wrap (a0)) (IntKind.u64.wrap (wrap64 (1 + (wrap64 (Int.tmod (IntKind.u64.wrap (a1)) 1000))))))))) (wrap64 (1 + (wrap64 (Int.tmod (IntKind.u64.wrap (a1)) 1000)))) l2 l3 (wrap64 (x11_2 + (wrap64 (Int.tmod (rd l2 x14_2) 1000)))) x12_17 (wrap64 (x13_17 + t194)) x14_2 t194 t195 true t196 t197 t198 t199 t200) else ((budget_Server_Next.f t196 t197 t198 t199 t200 (wrap64 (x11_2 + (wrap64 (Int.tmod (rd l2 x14_2) 1000))))).bind fun bt203 => (monocoquelaw30_BudgetBound.j4 kj17 (wrap64 (1 + (wrap64 (Int.tmod (IntKind.u64.wrap (a0)) (IntKind.u64.wrap (wrap64 (1 + (wrap64 (Int.tmod (IntKind.u64.wrap (a1)) 1000))))))))) (wrap64 (1 + (wrap64 (Int.tmod (IntKind.u64.wrap (a1)) 1000)))) l2 l3 (wrap64 (x11_2 + (wrap64 (Int.tmod (rd l2 x14_2) 1000)))) x12_17 (wrap64 (x13_17 + t194)) x14_2 t194 t195 (bt203.1 != (wrap64 ((wrap64 (x12_17 + 1)) * (wrap64 (1 + (wrap64 (Int.tmod (IntKind.u64.wrap (a1)) 1000))))))) bt203.2.1 bt203.2.2.1 bt203.2.2.2.1 bt203.2.2.2.2.1 bt203.2.2.2.2.2)))))) = some r := by first | (rw [hji26] at H; exact H) | (simp only [hji26] at H ⊢; exact H)
                                      have hji26_ : (if (rd l3 x14_2) < 0 then 0 else (rd l3 x14_2)) = ji26 := hji26
                                      by_cases c27 : t194 > (ji26)
                                      · rw [if_pos c27] at H
                                        have c27b0 : decide ((ji26) < t194) = true := decide_eq_true c27
                                        clear c27
                                        have H' := Aside0.mk H
                                        clear H
                                        have p201 : 0 ≤ (x14_2 : Int) := of_decide_eq_true (by first | (with_reducible assumption) | assumption)
                                        have q201 : x14_2 < (l3.length : Int) := of_decide_eq_true (by first | (with_reducible assumption) | assumption)
                                        obtain ⟨ad201, e201, hx201_0⟩ := Kd.at_int HR3.out x14_2 p201 q201
                                        obtain rfl : ad193 = ad201 := (by injection e201)
                                        replace hx201_0 := (HB.out.cell (World.block_lt_of_cell? w _ hx201_0)).trans hx201_0
                                        replace p201 := eq_true p201
                                        replace q201 := eq_true q201
                                        go_wp2
                                        go_meet
                                        case rel => exact ⟨_, (true), (t196), (t197), (t198), (t199), (t200), (by first | rfl | (simp; done) | (simp [*]; done)), H', ⟨by have := HJ6.out; have := HK2.out; have := HJ10.out; have := HJ17.out; first | omega | exact Nat.le_refl _⟩, ⟨by repeat (first | (with_reducible first | exact HI189.out | apply IsS84.alloc | apply IsS84.drewN | apply IsS84.drew | apply IsS84.set_0 | apply IsS84.set_1 | apply IsS84.set_2 | apply IsS84.set_3 | apply IsS84.set_4) | exact HI189.out)⟩, ⟨by repeat (first | (with_reducible first | exact HB.out | apply below_alloc | apply pw_below_drewN | apply below_drew1 | refine below_set ?_ (IsS84.ge HI189.out)) | exact HB.out)⟩⟩
                                      · rw [if_neg c27] at H
                                        have c27b0 : decide ((ji26) < t194) = false := decide_eq_false c27
                                        clear c27
                                        by_cases c28 : (t195 != (decide (t194 < (rd l3 x14_2)))) = true
                                        · rw [if_pos c28] at H
                                          have c28b0 : (t195 != (decide (t194 < (rd l3 x14_2)))) = true := c28
                                          (try (have c28b1 : decide (t195 = (decide (t194 < (rd l3 x14_2)))) = false := by simpa using c28))
                                          (try (have c28b2 : (t195 == (decide (t194 < (rd l3 x14_2)))) = false := by simpa using c28))
                                          (try (have c28b3 : ¬ (t195 = (decide (t194 < (rd l3 x14_2)))) := by simpa using c28))
                                          clear c28
                                          have H' := Aside0.mk H
                                          clear H
                                          have p201 : 0 ≤ (x14_2 : Int) := of_decide_eq_true (by first | (with_reducible assumption) | assumption)
                                          have q201 : x14_2 < (l3.length : Int) := of_decide_eq_true (by first | (with_reducible assumption) | assumption)
                                          obtain ⟨ad201, e201, hx201_0⟩ := Kd.at_int HR3.out x14_2 p201 q201
                                          obtain rfl : ad193 = ad201 := (by injection e201)
                                          replace hx201_0 := (HB.out.cell (World.block_lt_of_cell? w _ hx201_0)).trans hx201_0
                                          replace p201 := eq_true p201
                                          replace q201 := eq_true q201
                                          have p202 : 0 ≤ (x14_2 : Int) := of_decide_eq_true (by first | (with_reducible assumption) | assumption)
                                          have q202 : x14_2 < (l3.length : Int) := of_decide_eq_true (by first | (with_reducible assumption) | assumption)
                                          obtain ⟨ad202, e202, hx202_0⟩ := Kd.at_int HR3.out x14_2 p202 q202
                                          obtain rfl : ad193 = ad202 := (by injection e202)
                                          replace hx202_0 := (HB.out.cell (World.block_lt_of_cell? w _ hx202_0)).trans hx202_0
                                          replace p202 := eq_true p202
                                          replace q202 := eq_true q202
                                          go_wp2
                                          go_meet
                                          case rel => exact ⟨_, (true), (t196), (t197), (t198), (t199), (t200), (by first | rfl | (simp; done) | (simp [*]; done)), H', ⟨by have := HJ6.out; have := HK2.out; have := HJ10.out; have := HJ17.out; first | omega | exact Nat.le_refl _⟩, ⟨by repeat (first | (with_reducible first | exact HI189.out | apply IsS84.alloc | apply IsS84.drewN | apply IsS84.drew | apply IsS84.set_0 | apply IsS84.set_1 | apply IsS84.set_2 | apply IsS84.set_3 | apply IsS84.set_4) | exact HI189.out)⟩, ⟨by repeat (first | (with_reducible first | exact HB.out | apply below_alloc | apply pw_below_drewN | apply below_drew1 | refine below_set ?_ (IsS84.ge HI189.out)) | exact HB.out)⟩⟩
                                        · rw [if_neg c28] at H
                                          have c28b0 : (t195 != (decide (t194 < (rd l3 x14_2)))) = false := by simpa using c28
                                          (try (have c28b1 : decide (t195 = (decide (t194 < (rd l3 x14_2)))) = true := by simpa using c28))
                                          (try (have c28b2 : (t195 == (decide (t194 < (rd l3 x14_2)))) = true := by simpa using c28))
                                          clear c28
                                          by_cases c29 : (wrap64 (x13_17 + t194)) > (wrap64 (1 + (wrap64 (Int.tmod (IntKind.u64.wrap (a0)) (IntKind.u64.wrap (wrap64 (1 + (wrap64 (Int.tmod (IntKind.u64.wrap (a1)) 1000)))))))))
                                          · rw [if_pos c29] at H
                                            have c29b0 : decide ((wrap64 (1 + (wrap64 (Int.tmod (IntKind.u64.wrap (a0)) (IntKind.u64.wrap (wrap64 (1 + (wrap64 (Int.tmod (IntKind.u64.wrap (a1)) 1000))))))))) < (wrap64 (x13_17 + t194))) = true := decide_eq_true c29
                                            clear c29
                                            have H' := Aside0.mk H
                                            clear H
                                            have p201 : 0 ≤ (x14_2 : Int) := of_decide_eq_true (by first | (with_reducible assumption) | assumption)
                                            have q201 : x14_2 < (l3.length : Int) := of_decide_eq_true (by first | (with_reducible assumption) | assumption)
                                            obtain ⟨ad201, e201, hx201_0⟩ := Kd.at_int HR3.out x14_2 p201 q201
                                            obtain rfl : ad193 = ad201 := (by injection e201)
                                            replace hx201_0 := (HB.out.cell (World.block_lt_of_cell? w _ hx201_0)).trans hx201_0
                                            replace p201 := eq_true p201
                                            replace q201 := eq_true q201
                                            have p202 : 0 ≤ (x14_2 : Int) := of_decide_eq_true (by first | (with_reducible assumption) | assumption)
                                            have q202 : x14_2 < (l3.length : Int) := of_decide_eq_true (by first | (with_reducible assumption) | assumption)
                                            obtain ⟨ad202, e202, hx202_0⟩ := Kd.at_int HR3.out x14_2 p202 q202
                                            obtain rfl : ad193 = ad202 := (by injection e202)
                                            replace hx202_0 := (HB.out.cell (World.block_lt_of_cell? w _ hx202_0)).trans hx202_0
                                            replace p202 := eq_true p202
                                            replace q202 := eq_true q202
                                            go_wp2
                                            go_meet
                                            case rel => exact ⟨_, (true), (t196), (t197), (t198), (t199), (t200), (by first | rfl | (simp; done) | (simp [*]; done)), H', ⟨by have := HJ6.out; have := HK2.out; have := HJ10.out; have := HJ17.out; first | omega | exact Nat.le_refl _⟩, ⟨by repeat (first | (with_reducible first | exact HI189.out | apply IsS84.alloc | apply IsS84.drewN | apply IsS84.drew | apply IsS84.set_0 | apply IsS84.set_1 | apply IsS84.set_2 | apply IsS84.set_3 | apply IsS84.set_4) | exact HI189.out)⟩, ⟨by repeat (first | (with_reducible first | exact HB.out | apply below_alloc | apply pw_below_drewN | apply below_drew1 | refine below_set ?_ (IsS84.ge HI189.out)) | exact HB.out)⟩⟩
                                          · rw [if_neg c29] at H
                                            have c29b0 : decide ((wrap64 (1 + (wrap64 (Int.tmod (IntKind.u64.wrap (a0)) (IntKind.u64.wrap (wrap64 (1 + (wrap64 (Int.tmod (IntKind.u64.wrap (a1)) 1000))))))))) < (wrap64 (x13_17 + t194))) = false := decide_eq_false c29
                                            clear c29
                                            by_cases c30 : (wrap64 ((wrap64 (x11_2 + (wrap64 (Int.tmod (rd l2 x14_2) 1000)))) + t194)) > (wrap64 ((wrap64 (x12_17 + 1)) * (wrap64 (1 + (wrap64 (Int.tmod (IntKind.u64.wrap (a1)) 1000))))))
                                            · rw [if_pos c30] at H
                                              have c30b0 : decide ((wrap64 ((wrap64 (x12_17 + 1)) * (wrap64 (1 + (wrap64 (Int.tmod (IntKind.u64.wrap (a1)) 1000)))))) < (wrap64 ((wrap64 (x11_2 + (wrap64 (Int.tmod (rd l2 x14_2) 1000)))) + t194))) = true := decide_eq_true c30
                                              clear c30
                                              have H' := Aside0.mk H
                                              clear H
                                              have p201 : 0 ≤ (x14_2 : Int) := of_decide_eq_true (by first | (with_reducible assumption) | assumption)
                                              have q201 : x14_2 < (l3.length : Int) := of_decide_eq_true (by first | (with_reducible assumption) | assumption)
                                              obtain ⟨ad201, e201, hx201_0⟩ := Kd.at_int HR3.out x14_2 p201 q201
                                              obtain rfl : ad193 = ad201 := (by injection e201)
                                              replace hx201_0 := (HB.out.cell (World.block_lt_of_cell? w _ hx201_0)).trans hx201_0
                                              replace p201 := eq_true p201
                                              replace q201 := eq_true q201
                                              have p202 : 0 ≤ (x14_2 : Int) := of_decide_eq_true (by first | (with_reducible assumption) | assumption)
                                              have q202 : x14_2 < (l3.length : Int) := of_decide_eq_true (by first | (with_reducible assumption) | assumption)
                                              obtain ⟨ad202, e202, hx202_0⟩ := Kd.at_int HR3.out x14_2 p202 q202
                                              obtain rfl : ad193 = ad202 := (by injection e202)
                                              replace hx202_0 := (HB.out.cell (World.block_lt_of_cell? w _ hx202_0)).trans hx202_0
                                              replace p202 := eq_true p202
                                              replace q202 := eq_true q202
                                              go_wp2
                                              go_meet
                                              case rel => exact ⟨_, (true), (t196), (t197), (t198), (t199), (t200), (by first | rfl | (simp; done) | (simp [*]; done)), H', ⟨by have := HJ6.out; have := HK2.out; have := HJ10.out; have := HJ17.out; first | omega | exact Nat.le_refl _⟩, ⟨by repeat (first | (with_reducible first | exact HI189.out | apply IsS84.alloc | apply IsS84.drewN | apply IsS84.drew | apply IsS84.set_0 | apply IsS84.set_1 | apply IsS84.set_2 | apply IsS84.set_3 | apply IsS84.set_4) | exact HI189.out)⟩, ⟨by repeat (first | (with_reducible first | exact HB.out | apply below_alloc | apply pw_below_drewN | apply below_drew1 | refine below_set ?_ (IsS84.ge HI189.out)) | exact HB.out)⟩⟩
                                            · rw [if_neg c30] at H
                                              have c30b0 : decide ((wrap64 ((wrap64 (x12_17 + 1)) * (wrap64 (1 + (wrap64 (Int.tmod (IntKind.u64.wrap (a1)) 1000)))))) < (wrap64 ((wrap64 (x11_2 + (wrap64 (Int.tmod (rd l2 x14_2) 1000)))) + t194))) = false := decide_eq_false c30
                                              clear c30
                                              replace H := Option.bind_eq_some_iff.mp H
                                              obtain ⟨⟨t203, t204, t205, t206, t207, t208⟩, A310, H⟩ := H
                                              replace H : (monocoquelaw30_BudgetBound.j4 kj17 (wrap64 (1 + (wrap64 (Int.tmod (IntKind.u64.wrap (a0)) (IntKind.u64.wrap (wrap64 (1 + (wrap64 (Int.tmod (IntKind.u64.wrap (a1)) 1000))))))))) (wrap64 (1 + (wrap64 (Int.tmod (IntKind.u64.wrap (a1)) 1000)))) l2 l3 (wrap64 (x11_2 + (wrap64 (Int.tmod (rd l2 x14_2) 1000)))) x12_17 (wrap64 (x13_17 + t194)) x14_2 t194 t195 (t203 != (wrap64 ((wrap64 (x12_17 + 1)) * (wrap64 (1 + (wrap64 (Int.tmod (IntKind.u64.wrap (a1)) 1000))))))) t204 t205 t206 t207 t208) = some r := H
                                              have A31 := Aside0.mk A310
                                              clear A310
                                              have H' := Aside0.mk H
                                              clear H
                                              have p201 : 0 ≤ (x14_2 : Int) := of_decide_eq_true (by first | (with_reducible assumption) | assumption)
                                              have q201 : x14_2 < (l3.length : Int) := of_decide_eq_true (by first | (with_reducible assumption) | assumption)
                                              obtain ⟨ad201, e201, hx201_0⟩ := Kd.at_int HR3.out x14_2 p201 q201
                                              obtain rfl : ad193 = ad201 := (by injection e201)
                                              replace hx201_0 := (HB.out.cell (World.block_lt_of_cell? w _ hx201_0)).trans hx201_0
                                              replace p201 := eq_true p201
                                              replace q201 := eq_true q201
                                              have p202 : 0 ≤ (x14_2 : Int) := of_decide_eq_true (by first | (with_reducible assumption) | assumption)
                                              have q202 : x14_2 < (l3.length : Int) := of_decide_eq_true (by first | (with_reducible assumption) | assumption)
                                              obtain ⟨ad202, e202, hx202_0⟩ := Kd.at_int HR3.out x14_2 p202 q202
                                              obtain rfl : ad193 = ad202 := (by injection e202)
                                              replace hx202_0 := (HB.out.cell (World.block_lt_of_cell? w _ hx202_0)).trans hx202_0
                                              replace p202 := eq_true p202
                                              replace q202 := eq_true q202
                                              go_wp2_with (first | (go_at_call 17; (with_reducible refine (budget_Server_Next.calls g189 t196 t197 t198 t199 t200 (wrap64 (x11_2 + (wrap64 (Int.tmod (rd l2 x14_2) 1000)))) t203 t204 t205 t206 t207 t208 w _ ?side1 ?side2 A31.out).mono ?_); (case side1 => repeat (first | (with_reducible first | exact HI189.out | apply IsS84.alloc | apply IsS84.drewN | apply IsS84.drew | apply IsS84.set_0 | apply IsS84.set_1 | apply IsS84.set_2 | apply IsS84.set_3 | apply IsS84.set_4) | exact HI189.out)); (case side2 => repeat (first | (with_reducible first | exact HB.out | apply below_alloc | apply pw_below_drewN | apply below_drew1 | refine below_set ?_ (IsS84.ge HI189.out)) | exact HB.out)); rintro e w32 ⟨rfl, hi, hb, hk⟩; have n0_ := Aside0.mk (hb); have n1_ := Aside0.mk (hi); clear HB; clear HI189; have HB := n0_; have HI189 := n1_; clear n0_ n1_; (try clear hb); (try clear hb2); (try clear hk); (try clear hi)))
                                              go_meet
                                              case rel => exact ⟨_, ((t203 != (wrap64 ((wrap64 (x12_17 + 1)) * (wrap64 (1 + (wrap64 (Int.tmod (IntKind.u64.wrap (a1)) 1000)))))))), (t204), (t205), (t206), (t207), (t208), (by first | rfl | (simp; done) | (simp [*]; done)), H', ⟨by have := HJ6.out; have := HK2.out; have := HJ10.out; have := HJ17.out; first | omega | exact Nat.le_refl _⟩, ⟨by repeat (first | (with_reducible first | exact HI189.out | apply IsS84.alloc | apply IsS84.drewN | apply IsS84.drew | apply IsS84.set_0 | apply IsS84.set_1 | apply IsS84.set_2 | apply IsS84.set_3 | apply IsS84.set_4) | exact HI189.out)⟩, ⟨by repeat (first | (with_reducible first | exact HB.out | apply below_alloc | apply pw_below_drewN | apply below_drew1 | refine below_set ?_ (IsS84.ge HI189.out)) | exact HB.out)⟩⟩
                                  case rest =>
                                    clear HC23
                                    try clear c1
                                    try clear p1
                                    try clear q1
                                    try clear hx1
                                    try clear c2
                                    try clear p2
                                    try clear q2
                                    try clear hx2
                                    try clear c3
                                    try clear c5
                                    try clear c5b0
                                    try clear c5b1
                                    try clear p6
                                    try clear c9
                                    try clear c9b0
                                    try clear c9b1
                                    try clear c10
                                    try clear c12
                                    try clear c12b0
                                    try clear c13
                                    try clear c13b0
                                    try clear c14
                                    try clear c15
                                    try clear c15b0
                                    try clear c16
                                    try clear c16b0
                                    try clear c17
                                    try clear c17b0
                                    try clear c17b1
                                    try clear c19
                                    try clear c19b0
                                    try clear c19b1
                                    try clear p19
                                    try clear q19
                                    try clear hx19
                                    try clear c20
                                    try clear c20b0
                                    try clear p20
                                    try clear q20
                                    try clear hx20
                                    try clear c21
                                    try clear c21b0
                                    try clear c25
                                    try clear c25b0
                                    try clear c27
                                    try clear c27b0
                                    try clear c28
                                    try clear c28b0
                                    try clear c28b1
                                    try clear c28b2
                                    try clear c29
                                    try clear c29b0
                                    try clear c30
                                    try clear c30b0
                                    try clear hx192_0
                                    try clear hx193_0
                                    try clear hx201_0
                                    try clear hx202_0
                                    try clear p1
                                    try clear p19
                                    try clear p192
                                    try clear p193
                                    try clear p2
                                    try clear p201
                                    try clear p202
                                    try clear p6
                                    try clear q1
                                    try clear q19
                                    try clear q192
                                    try clear q193
                                    try clear q201
                                    try clear q202
                                    obtain ⟨kq, x131_22, x190000_22, x190001_22, x190002_22, x190003_22, x190004_22, rfl, HA, HJ22, HI189, HB⟩ := hcut
                                    cases kq with
                                    | zero => exact absurd HA.out (by simp [monocoquelaw30_BudgetBound.j4])
                                    | succ kj22 =>
                                      have H := HA.out
                                      clear HA
                                      simp only [monocoquelaw30_BudgetBound.j4] at H
                                      by_cases c33 : x131_22 = true
                                      · subst c33
                                        have H1 : (some false) = some r := by rw [if_pos rfl] at H; exact H
                                        clear H
                                        have H := H1
                                        clear H1
                                        obtain rfl := Option.some.inj H
                                        go_wp2
                                        go_ret
                                        exact ⟨by first | rfl | (simp [errW_none, errW_some] <;> rfl) | (simp [*, errW_none, errW_some] <;> rfl), by repeat (first | (with_reducible first | exact HB.out | apply below_alloc | apply pw_below_drewN | apply below_drew1 | refine below_set ?_ (IsS84.ge HI189.out)) | exact HB.out)⟩
                                      · replace c33 := Bool.eq_false_iff.mpr c33
                                        subst c33
                                        have H1 : (if t195 = true then (if t194 ≥ 0 then ((budget_Server_Left.f kj22 x190000_22 x190001_22 x190002_22 x190003_22 x190004_22 (wrap64 (x11_2 + (wrap64 (Int.tmod (rd l2 x14_2) 1000))))).bind fun bt209 => (if bt209.1 > 0 then (if (wrap64 ((wrap64 (x11_2 + (wrap64 (Int.tmod (rd l2 x14_2) 1000)))) + t194)) < (wrap64 ((wrap64 (x12_17 + 1)) * (wrap64 (1 + (wrap64 (Int.tmod (IntKind.u64.wrap (a1)) 1000)))))) then (monocoquelaw30_BudgetBound.j5 kj22 (wrap64 (1 + (wrap64 (Int.tmod (IntKind.u64.wrap (a0)) (IntKind.u64.wrap (wrap64 (1 + (wrap64 (Int.tmod (IntKind.u64.wrap (a1)) 1000))))))))) (wrap64 (1 + (wrap64 (Int.tmod (IntKind.u64.wrap (a1)) 1000)))) l2 l3 (wrap64 (x11_2 + (wrap64 (Int.tmod (rd l2 x14_2) 1000)))) x12_17 (wrap64 (x13_17 + t194)) x14_2 t194 (decide ((wrap64 (x13_17 + t194)) < (wrap64 (1 + (wrap64 (Int.tmod (IntKind.u64.wrap (a0)) (IntKind.u64.wrap (wrap64 (1 + (wrap64 (Int.tmod (IntKind.u64.wrap (a1)) 1000))))))))))) bt209.2.1 bt209.2.2.1 bt209.2.2.2.1 bt209.2.2.2.2.1 bt209.2.2.2.2.2) else (monocoquelaw30_BudgetBound.j5 kj22 (wrap64 (1 + (wrap64 (Int.tmod (IntKind.u64.wrap (a0)) (IntKind.u64.wrap (wrap64 (1 + (wrap64 (Int.tmod (IntKind.u64.wrap (a1)) 1000))))))))) (wrap64 (1 + (wrap64 (Int.tmod (IntKind.u64.wrap (a1)) 1000)))) l2 l3 (wrap64 (x11_2 + (wrap64 (Int.tmod (rd l2 x14_2) 1000)))) x12_17 (wrap64 (x13_17 + t194)) x14_2 t194 false bt209.2.1 bt209.2.2.1 bt209.2.2.2.1 bt209.2.2.2.2.1 bt209.2.2.2.2.2)) else (monocoquelaw30_BudgetBound.j5 kj22 (wrap64 (1 + (wrap64 (Int.tmod (IntKind.u64.wrap (a0)) (IntKind.u64.wrap (wrap64 (1 + (wrap64 (Int.tmod (IntKind.u64.wrap (a1)) 1000))))))))) (wrap64 (1 + (wrap64 (Int.tmod (IntKind.u64.wrap (a1)) 1000)))) l2 l3 (wrap64 (x11_2 + (wrap64 (Int.tmod (rd l2 x14_2) 1000)))) x12_17 (wrap64 (x13_17 + t194)) x14_2 t194 false bt209.2.1 bt209.2.2.1 bt209.2.2.2.1 bt209.2.2.2.2.1 bt209.2.2.2.2.2))) else (monocoquelaw30_BudgetBound.j5 kj22 (wrap64 (1 + (wrap64 (Int.tmod (IntKind.u64.wrap (a0)) (IntKind.u64.wrap (wrap64 (1 + (wrap64 (Int.tmod (IntKind.u64.wrap (a1)) 1000))))))))) (wrap64 (1 + (wrap64 (Int.tmod (IntKind.u64.wrap (a1)) 1000)))) l2 l3 (wrap64 (x11_2 + (wrap64 (Int.tmod (rd l2 x14_2) 1000)))) x12_17 (wrap64 (x13_17 + t194)) x14_2 t194 false x190000_22 x190001_22 x190002_22 x190003_22 x190004_22)) else (monocoquelaw30_BudgetBound.j5 kj22 (wrap64 (1 + (wrap64 (Int.tmod (IntKind.u64.wrap (a0)) (IntKind.u64.wrap (wrap64 (1 + (wrap64 (Int.tmod (IntKind.u64.wrap (a1)) 1000))))))))) (wrap64 (1 + (wrap64 (Int.tmod (IntKind.u64.wrap (a1)) 1000)))) l2 l3 (wrap64 (x11_2 + (wrap64 (Int.tmod (rd l2 x14_2) 1000)))) x12_17 (wrap64 (x13_17 + t194)) x14_2 t194 false x190000_22 x190001_22 x190002_22 x190003_22 x190004_22)) = some r := by rw [if_neg (show ¬ (false = true) by decide)] at H; exact H
                                        clear H
                                        have H := H1
                                        clear H1
                                        have HC34 := Aside0.mk H
                                        clear H
                                        go_upto_region 17 with (fail)
                                        go_cut [157] (fun v157 wc => ∃ (kq : Nat) (x157_33 : Bool) (x190000_33 : Int) (x190001_33 : Int) (x190002_33 : Int) (x190003_33 : Int) (x190004_33 : Int), v157 = .bool x157_33 ∧ Aside0 (monocoquelaw30_BudgetBound.j5 kq (wrap64 (1 + (wrap64 (Int.tmod (IntKind.u64.wrap (a0)) (IntKind.u64.wrap (wrap64 (1 + (wrap64 (Int.tmod (IntKind.u64.wrap (a1)) 1000))))))))) (wrap64 (1 + (wrap64 (Int.tmod (IntKind.u64.wrap (a1)) 1000)))) l2 l3 (wrap64 (x11_2 + (wrap64 (Int.tmod (rd l2 x14_2) 1000)))) x12_17 (wrap64 (x13_17 + t194)) x14_2 t194 x157_33 x190000_33 x190001_33 x190002_33 x190003_33 x190004_33 = some r) ∧ Aside0 (kq ≤ kj22) ∧ Aside0 (IsS84 w wc g189 x190000_33 x190001_33 x190002_33 x190003_33 x190004_33) ∧ Aside0 (Below w.heap.size w wc))
                                        case first =>
                                          have H := HC34.out
                                          clear HC34
                                          by_cases c35 : t195 = true
                                          · subst c35
                                            have H1 : (if t194 ≥ 0 then ((budget_Server_Left.f kj22 x190000_22 x190001_22 x190002_22 x190003_22 x190004_22 (wrap64 (x11_2 + (wrap64 (Int.tmod (rd l2 x14_2) 1000))))).bind fun bt209 => (if bt209.1 > 0 then (if (wrap64 ((wrap64 (x11_2 + (wrap64 (Int.tmod (rd l2 x14_2) 1000)))) + t194)) < (wrap64 ((wrap64 (x12_17 + 1)) * (wrap64 (1 + (wrap64 (Int.tmod (IntKind.u64.wrap (a1)) 1000)))))) then (monocoquelaw30_BudgetBound.j5 kj22 (wrap64 (1 + (wrap64 (Int.tmod (IntKind.u64.wrap (a0)) (IntKind.u64.wrap (wrap64 (1 + (wrap64 (Int.tmod (IntKind.u64.wrap (a1)) 1000))))))))) (wrap64 (1 + (wrap64 (Int.tmod (IntKind.u64.wrap (a1)) 1000)))) l2 l3 (wrap64 (x11_2 + (wrap64 (Int.tmod (rd l2 x14_2) 1000)))) x12_17 (wrap64 (x13_17 + t194)) x14_2 t194 (decide ((wrap64 (x13_17 + t194)) < (wrap64 (1 + (wrap64 (Int.tmod (IntKind.u64.wrap (a0)) (IntKind.u64.wrap (wrap64 (1 + (wrap64 (Int.tmod (IntKind.u64.wrap (a1)) 1000))))))))))) bt209.2.1 bt209.2.2.1 bt209.2.2.2.1 bt209.2.2.2.2.1 bt209.2.2.2.2.2) else (monocoquelaw30_BudgetBound.j5 kj22 (wrap64 (1 + (wrap64 (Int.tmod (IntKind.u64.wrap (a0)) (IntKind.u64.wrap (wrap64 (1 + (wrap64 (Int.tmod (IntKind.u64.wrap (a1)) 1000))))))))) (wrap64 (1 + (wrap64 (Int.tmod (IntKind.u64.wrap (a1)) 1000)))) l2 l3 (wrap64 (x11_2 + (wrap64 (Int.tmod (rd l2 x14_2) 1000)))) x12_17 (wrap64 (x13_17 + t194)) x14_2 t194 false bt209.2.1 bt209.2.2.1 bt209.2.2.2.1 bt209.2.2.2.2.1 bt209.2.2.2.2.2)) else (monocoquelaw30_BudgetBound.j5 kj22 (wrap64 (1 + (wrap64 (Int.tmod (IntKind.u64.wrap (a0)) (IntKind.u64.wrap (wrap64 (1 + (wrap64 (Int.tmod (IntKind.u64.wrap (a1)) 1000))))))))) (wrap64 (1 + (wrap64 (Int.tmod (IntKind.u64.wrap (a1)) 1000)))) l2 l3 (wrap64 (x11_2 + (wrap64 (Int.tmod (rd l2 x14_2) 1000)))) x12_17 (wrap64 (x13_17 + t194)) x14_2 t194 false bt209.2.1 bt209.2.2.1 bt209.2.2.2.1 bt209.2.2.2.2.1 bt209.2.2.2.2.2))) else (monocoquelaw30_BudgetBound.j5 kj22 (wrap64 (1 + (wrap64 (Int.tmod (IntKind.u64.wrap (a0)) (IntKind.u64.wrap (wrap64 (1 + (wrap64 (Int.tmod (IntKind.u64.wrap (a1)) 1000))))))))) (wrap64 (1 + (wrap64 (Int.tmod (IntKind.u64.wrap (a1)) 1000)))) l2 l3 (wrap64 (x11_2 + (wrap64 (Int.tmod (rd l2 x14_2) 1000)))) x12_17 (wrap64 (x13_17 + t194)) x14_2 t194 false x190000_22 x190001_22 x190002_22 x190003_22 x190004_22)) = some r := by rw [if_pos rfl] at H; exact H
                                            clear H
                                            have H := H1
                                            clear H1
                                            by_cases c36 : t194 ≥ 0
                                            · rw [if_pos c36] at H
                                              have c36b0 : decide (0 ≤ t194) = true := decide_eq_true c36
                                              clear c36
                                              (first | rw [c36b0] | (simp only [i64_w, i32_w]; rw [c36b0]) | skip)
                                              replace H := Option.bind_eq_some_iff.mp H
                                              obtain ⟨⟨t209, t210, t211, t212, t213, t214⟩, A370, H⟩ := H
                                              replace H : (if t209 > 0 then (if (wrap64 ((wrap64 (x11_2 + (wrap64 (Int.tmod (rd l2 x14_2) 1000)))) + t194)) < (wrap64 ((wrap64 (x12_17 + 1)) * (wrap64 (1 + (wrap64 (Int.tmod (IntKind.u64.wrap (a1)) 1000)))))) then (monocoquelaw30_BudgetBound.j5 kj22 (wrap64 (1 + (wrap64 (Int.tmod (IntKind.u64.wrap (a0)) (IntKind.u64.wrap (wrap64 (1 + (wrap64 (Int.tmod (IntKind.u64.wrap (a1)) 1000))))))))) (wrap64 (1 + (wrap64 (Int.tmod (IntKind.u64.wrap (a1)) 1000)))) l2 l3 (wrap64 (x11_2 + (wrap64 (Int.tmod (rd l2 x14_2) 1000)))) x12_17 (wrap64 (x13_17 + t194)) x14_2 t194 (decide ((wrap64 (x13_17 + t194)) < (wrap64 (1 + (wrap64 (Int.tmod (IntKind.u64.wrap (a0)) (IntKind.u64.wrap (wrap64 (1 + (wrap64 (Int.tmod (IntKind.u64.wrap (a1)) 1000))))))))))) t210 t211 t212 t213 t214) else (monocoquelaw30_BudgetBound.j5 kj22 (wrap64 (1 + (wrap64 (Int.tmod (IntKind.u64.wrap (a0)) (IntKind.u64.wrap (wrap64 (1 + (wrap64 (Int.tmod (IntKind.u64.wrap (a1)) 1000))))))))) (wrap64 (1 + (wrap64 (Int.tmod (IntKind.u64.wrap (a1)) 1000)))) l2 l3 (wrap64 (x11_2 + (wrap64 (Int.tmod (rd l2 x14_2) 1000)))) x12_17 (wrap64 (x13_17 + t194)) x14_2 t194 false t210 t211 t212 t213 t214)) else (monocoquelaw30_BudgetBound.j5 kj22 (wrap64 (1 + (wrap64 (Int.tmod (IntKind.u64.wrap (a0)) (IntKind.u64.wrap (wrap64 (1 + (wrap64 (Int.tmod (IntKind.u64.wrap (a1)) 1000))))))))) (wrap64 (1 + (wrap64 (Int.tmod (IntKind.u64.wrap (a1)) 1000)))) l2 l3 (wrap64 (x11_2 + (wrap64 (Int.tmod (rd l2 x14_2) 1000)))) x12_17 (wrap64 (x13_17 + t194)) x14_2 t194 false t210 t211 t212 t213 t214)) = some r := H
                                              have A37 := Aside0.mk A370
                                              clear A370
                                              by_cases c38 : t209 > 0
                                              · rw [if_pos c38] at H
                                                have c38b0 : decide (0 < t209) = true := decide_eq_true c38
                                                clear c38
                                                by_cases c39 : (wrap64 ((wrap64 (x11_2 + (wrap64 (Int.tmod (rd l2 x14_2) 1000)))) + t194)) < (wrap64 ((wrap64 (x12_17 + 1)) * (wrap64 (1 + (wrap64 (Int.tmod (IntKind.u64.wrap (a1)) 1000))))))
                                                · rw [if_pos c39] at H
                                                  have c39b0 : decide ((wrap64 ((wrap64 (x11_2 + (wrap64 (Int.tmod (rd l2 x14_2) 1000)))) + t194)) < (wrap64 ((wrap64 (x12_17 + 1)) * (wrap64 (1 + (wrap64 (Int.tmod (IntKind.u64.wrap (a1)) 1000))))))) = true := decide_eq_true c39
                                                  clear c39
                                                  have H' := Aside0.mk H
                                                  clear H
                                                  go_wp2_with (first | (go_at_call 18; (with_reducible refine (budget_Server_Left.calls kj22 g189 x190000_22 x190001_22 x190002_22 x190003_22 x190004_22 (wrap64 (x11_2 + (wrap64 (Int.tmod (rd l2 x14_2) 1000)))) t209 t210 t211 t212 t213 t214 w _ ?side1 ?side2 A37.out).mono ?_); (case side1 => repeat (first | (with_reducible first | exact HI189.out | apply IsS84.alloc | apply IsS84.drewN | apply IsS84.drew | apply IsS84.set_0 | apply IsS84.set_1 | apply IsS84.set_2 | apply IsS84.set_3 | apply IsS84.set_4) | exact HI189.out)); (case side2 => repeat (first | (with_reducible first | exact HB.out | apply below_alloc | apply pw_below_drewN | apply below_drew1 | refine below_set ?_ (IsS84.ge HI189.out)) | exact HB.out)); rintro e w40 ⟨rfl, hi, hb, hk⟩; have n0_ := Aside0.mk (hb); have n1_ := Aside0.mk (hi); clear HB; clear HI189; have HB := n0_; have HI189 := n1_; clear n0_ n1_; (try clear hb); (try clear hb2); (try clear hk); (try clear hi)))
                                                  go_meet
                                                  case rel => exact ⟨_, (decide ((wrap64 (x13_17 + t194)) < (wrap64 (1 + (wrap64 (Int.tmod (IntKind.u64.wrap (a0)) (IntKind.u64.wrap (wrap64 (1 + (wrap64 (Int.tmod (IntKind.u64.wrap (a1)) 1000))))))))))), (t210), (t211), (t212), (t213), (t214), (by first | rfl | (simp; done) | (simp [*]; done)), H', ⟨by have := HJ6.out; have := HK2.out; have := HJ10.out; have := HJ17.out; have := HJ22.out; first | omega | exact Nat.le_refl _⟩, ⟨by repeat (first | (with_reducible first | exact HI189.out | apply IsS84.alloc | apply IsS84.drewN | apply IsS84.drew | apply IsS84.set_0 | apply IsS84.set_1 | apply IsS84.set_2 | apply IsS84.set_3 | apply IsS84.set_4) | exact HI189.out)⟩, ⟨by repeat (first | (with_reducible first | exact HB.out | apply below_alloc | apply pw_below_drewN | apply below_drew1 | refine below_set ?_ (IsS84.ge HI189.out)) | exact HB.out)⟩⟩
                                                · rw [if_neg c39] at H
                                                  have c39b0 : decide ((wrap64 ((wrap64 (x11_2 + (wrap64 (Int.tmod (rd l2 x14_2) 1000)))) + t194)) < (wrap64 ((wrap64 (x12_17 + 1)) * (wrap64 (1 + (wrap64 (Int.tmod (IntKind.u64.wrap (a1)) 1000))))))) = false := decide_eq_false c39
                                                  clear c39
                                                  have H' := Aside0.mk H
                                                  clear H
                                                  go_wp2_with (first | (go_at_call 18; (with_reducible refine (budget_Server_Left.calls kj22 g189 x190000_22 x190001_22 x190002_22 x190003_22 x190004_22 (wrap64 (x11_2 + (wrap64 (Int.tmod (rd l2 x14_2) 1000)))) t209 t210 t211 t212 t213 t214 w _ ?side1 ?side2 A37.out).mono ?_); (case side1 => repeat (first | (with_reducible first | exact HI189.out | apply IsS84.alloc | apply IsS84.drewN | apply IsS84.drew | apply IsS84.set_0 | apply IsS84.set_1 | apply IsS84.set_2 | apply IsS84.set_3 | apply IsS84.set_4) | exact HI189.out)); (case side2 => repeat (first | (with_reducible first | exact HB.out | apply below_alloc | apply pw_below_drewN | apply below_drew1 | refine below_set ?_ (IsS84.ge HI189.out)) | exact HB.out)); rintro e w41 ⟨rfl, hi, hb, hk⟩; have n0_ := Aside0.mk (hb); have n1_ := Aside0.mk (hi); clear HB; clear HI189; have HB := n0_; have HI189 := n1_; clear n0_ n1_; (try clear hb); (try clear hb2); (try clear hk); (try clear hi)))
                                                  go_meet
                                                  case rel => exact ⟨_, (false), (t210), (t211), (t212), (t213), (t214), (by first | rfl | (simp; done) | (simp [*]; done)), H', ⟨by have := HJ6.out; have := HK2.out; have := HJ10.out; have := HJ17.out; have := HJ22.out; first | omega | exact Nat.le_refl _⟩, ⟨by repeat (first | (with_reducible first | exact HI189.out | apply IsS84.alloc | apply IsS84.drewN | apply IsS84.drew | apply IsS84.set_0 | apply IsS84.set_1 | apply IsS84.set_2 | apply IsS84.set_3 | apply IsS84.set_4) | exact HI189.out)⟩, ⟨by repeat (first | (with_reducible first | exact HB.out | apply below_alloc | apply pw_below_drewN | apply below_drew1 | refine below_set ?_ (IsS84.ge HI189.out)) | exact HB.out)⟩⟩
                                              · rw [if_neg c38] at H
                                                have c38b0 : decide (0 < t209) = false := decide_eq_false c38
                                                clear c38
                                                have H' := Aside0.mk H
                                                clear H
                                                go_wp2_with (first | (go_at_call 18; (with_reducible refine (budget_Server_Left.calls kj22 g189 x190000_22 x190001_22 x190002_22 x190003_22 x190004_22 (wrap64 (x11_2 + (wrap64 (Int.tmod (rd l2 x14_2) 1000)))) t209 t210 t211 t212 t213 t214 w _ ?side1 ?side2 A37.out).mono ?_); (case side1 => repeat (first | (with_reducible first | exact HI189.out | apply IsS84.alloc | apply IsS84.drewN | apply IsS84.drew | apply IsS84.set_0 | apply IsS84.set_1 | apply IsS84.set_2 | apply IsS84.set_3 | apply IsS84.set_4) | exact HI189.out)); (case side2 => repeat (first | (with_reducible first | exact HB.out | apply below_alloc | apply pw_below_drewN | apply below_drew1 | refine below_set ?_ (IsS84.ge HI189.out)) | exact HB.out)); rintro e w42 ⟨rfl, hi, hb, hk⟩; have n0_ := Aside0.mk (hb); have n1_ := Aside0.mk (hi); clear HB; clear HI189; have HB := n0_; have HI189 := n1_; clear n0_ n1_; (try clear hb); (try clear hb2); (try clear hk); (try clear hi)))
                                                go_meet
                                                case rel => exact ⟨_, (false), (t210), (t211), (t212), (t213), (t214), (by first | rfl | (simp; done) | (simp [*]; done)), H', ⟨by have := HJ6.out; have := HK2.out; have := HJ10.out; have := HJ17.out; have := HJ22.out; first | omega | exact Nat.le_refl _⟩, ⟨by repeat (first | (with_reducible first | exact HI189.out | apply IsS84.alloc | apply IsS84.drewN | apply IsS84.drew | apply IsS84.set_0 | apply IsS84.set_1 | apply IsS84.set_2 | apply IsS84.set_3 | apply IsS84.set_4) | exact HI189.out)⟩, ⟨by repeat (first | (with_reducible first | exact HB.out | apply below_alloc | apply pw_below_drewN | apply below_drew1 | refine below_set ?_ (IsS84.ge HI189.out)) | exact HB.out)⟩⟩
                                            · rw [if_neg c36] at H
                                              have c36b0 : decide (0 ≤ t194) = false := decide_eq_false c36
                                              clear c36
                                              (first | rw [c36b0] | (simp only [i64_w, i32_w]; rw [c36b0]) | skip)
                                              have H' := Aside0.mk H
                                              clear H
                                              go_wp2
                                              go_meet
                                              case rel => exact ⟨_, (false), (x190000_22), (x190001_22), (x190002_22), (x190003_22), (x190004_22), (by first | rfl | (simp; done) | (simp [*]; done)), H', ⟨by have := HJ6.out; have := HK2.out; have := HJ10.out; have := HJ17.out; have := HJ22.out; first | omega | exact Nat.le_refl _⟩, ⟨by repeat (first | (with_reducible first | exact HI189.out | apply IsS84.alloc | apply IsS84.drewN | apply IsS84.drew | apply IsS84.set_0 | apply IsS84.set_1 | apply IsS84.set_2 | apply IsS84.set_3 | apply IsS84.set_4) | exact HI189.out)⟩, ⟨by repeat (first | (with_reducible first | exact HB.out | apply below_alloc | apply pw_below_drewN | apply below_drew1 | refine below_set ?_ (IsS84.ge HI189.out)) | exact HB.out)⟩⟩
                                          · replace c35 := Bool.eq_false_iff.mpr c35
                                            subst c35
                                            have H1 : (monocoquelaw30_BudgetBound.j5 kj22 (wrap64 (1 + (wrap64 (Int.tmod (IntKind.u64.wrap (a0)) (IntKind.u64.wrap (wrap64 (1 + (wrap64 (Int.tmod (IntKind.u64.wrap (a1)) 1000))))))))) (wrap64 (1 + (wrap64 (Int.tmod (IntKind.u64.wrap (a1)) 1000)))) l2 l3 (wrap64 (x11_2 + (wrap64 (Int.tmod (rd l2 x14_2) 1000)))) x12_17 (wrap64 (x13_17 + t194)) x14_2 t194 false x190000_22 x190001_22 x190002_22 x190003_22 x190004_22) = some r := by rw [if_neg (show ¬ (false = true) by decide)] at H; exact H
                                            clear H
                                            have H := H1
                                            clear H1
                                            have H' := Aside0.mk H
                                            clear H
                                            go_wp2
                                            go_meet
                                            case rel => exact ⟨_, (false), (x190000_22), (x190001_22), (x190002_22), (x190003_22), (x190004_22), (by first | rfl | (simp; done) | (simp [*]; done)), H', ⟨by have := HJ6.out; have := HK2.out; have := HJ10.out; have := HJ17.out; have := HJ22.out; first | omega | exact Nat.le_refl _⟩, ⟨by repeat (first | (with_reducible first | exact HI189.out | apply IsS84.alloc | apply IsS84.drewN | apply IsS84.drew | apply IsS84.set_0 | apply IsS84.set_1 | apply IsS84.set_2 | apply IsS84.set_3 | apply IsS84.set_4) | exact HI189.out)⟩, ⟨by repeat (first | (with_reducible first | exact HB.out | apply below_alloc | apply pw_below_drewN | apply below_drew1 | refine below_set ?_ (IsS84.ge HI189.out)) | exact HB.out)⟩⟩
                                        case rest =>
                                          clear HC34
                                          try clear c1
                                          try clear p1
                                          try clear q1
                                          try clear hx1
                                          try clear c2
                                          try clear p2
                                          try clear q2
                                          try clear hx2
                                          try clear c3
                                          try clear c5
                                          try clear c5b0
                                          try clear c5b1
                                          try clear p6
                                          try clear c9
                                          try clear c9b0
                                          try clear c9b1
                                          try clear c10
                                          try clear c12
                                          try clear c12b0
                                          try clear c13
                                          try clear c13b0
                                          try clear c14
                                          try clear c15
                                          try clear c15b0
                                          try clear c16
                                          try clear c16b0
                                          try clear c17
                                          try clear c17b0
                                          try clear c17b1
                                          try clear c19
                                          try clear c19b0
                                          try clear c19b1
                                          try clear p19
                                          try clear q19
                                          try clear hx19
                                          try clear c20
                                          try clear c20b0
                                          try clear p20
                                          try clear q20
                                          try clear hx20
                                          try clear c21
                                          try clear c21b0
                                          try clear c25
                                          try clear c25b0
                                          try clear c27
                                          try clear c27b0
                                          try clear c28
                                          try clear c28b0
                                          try clear c28b1
                                          try clear c28b2
                                          try clear c29
                                          try clear c29b0
                                          try clear c30
                                          try clear c30b0
                                          try clear c33
                                          try clear c35
                                          try clear c36
                                          try clear c36b0
                                          try clear c38
                                          try clear c38b0
                                          try clear c39
                                          try clear c39b0
                                          try clear hx192_0
                                          try clear hx193_0
                                          try clear hx201_0
                                          try clear hx202_0
                                          try clear p1
                                          try clear p19
                                          try clear p192
                                          try clear p193
                                          try clear p2
                                          try clear p20
                                          try clear p201
                                          try clear p202
                                          try clear p6
                                          try clear q1
                                          try clear q19
                                          try clear q192
                                          try clear q193
                                          try clear q2
                                          try clear q20
                                          try clear q201
                                          try clear q202
                                          obtain ⟨kq, x157_33, x190000_33, x190001_33, x190002_33, x190003_33, x190004_33, rfl, HA, HJ33, HI189, HB⟩ := hcut
                                          cases kq with
                                          | zero => exact absurd HA.out (by simp [monocoquelaw30_BudgetBound.j5])
                                          | succ kj33 =>
                                            have H := HA.out
                                            clear HA
                                            simp only [monocoquelaw30_BudgetBound.j5] at H
                                            by_cases c43 : x157_33 = true
                                            · subst c43
                                              have H1 : (some false) = some r := by rw [if_pos rfl] at H; exact H
                                              clear H
                                              have H := H1
                                              clear H1
                                              obtain rfl := Option.some.inj H
                                              go_wp2
                                              go_ret
                                              exact ⟨by first | rfl | (simp [errW_none, errW_some] <;> rfl) | (simp [*, errW_none, errW_some] <;> rfl), by repeat (first | (with_reducible first | exact HB.out | apply below_alloc | apply pw_below_drewN | apply below_drew1 | refine below_set ?_ (IsS84.ge HI189.out)) | exact HB.out)⟩
                                            · replace c43 := Bool.eq_false_iff.mpr c43
                                              subst c43
                                              have H1 : (if (wrap64 (1 + (wrap64 (Int.tmod (IntKind.u64.wrap (a1)) 1000)))) = 0 then (none) else (if (wrap64 (Int.tdiv (wrap64 ((wrap64 (x11_2 + (wrap64 (Int.tmod (rd l2 x14_2) 1000)))) + t194)) (wrap64 (1 + (wrap64 (Int.tmod (IntKind.u64.wrap (a1)) 1000)))))) = x12_17 then (monocoquelaw30_BudgetBound.l0 kj33 (wrap64 (1 + (wrap64 (Int.tmod (IntKind.u64.wrap (a0)) (IntKind.u64.wrap (wrap64 (1 + (wrap64 (Int.tmod (IntKind.u64.wrap (a1)) 1000))))))))) (wrap64 (1 + (wrap64 (Int.tmod (IntKind.u64.wrap (a1)) 1000)))) l2 l3 (wrap64 ((wrap64 (x11_2 + (wrap64 (Int.tmod (rd l2 x14_2) 1000)))) + t194)) x12_17 (wrap64 (x13_17 + t194)) (wrap64 (x14_2 + 1)) x190000_33 x190001_33 x190002_33 x190003_33 x190004_33) else (monocoquelaw30_BudgetBound.l0 kj33 (wrap64 (1 + (wrap64 (Int.tmod (IntKind.u64.wrap (a0)) (IntKind.u64.wrap (wrap64 (1 + (wrap64 (Int.tmod (IntKind.u64.wrap (a1)) 1000))))))))) (wrap64 (1 + (wrap64 (Int.tmod (IntKind.u64.wrap (a1)) 1000)))) l2 l3 (wrap64 ((wrap64 (x11_2 + (wrap64 (Int.tmod (rd l2 x14_2) 1000)))) + t194)) (wrap64 (Int.tdiv (wrap64 ((wrap64 (x11_2 + (wrap64 (Int.tmod (rd l2 x14_2) 1000)))) + t194)) (wrap64 (1 + (wrap64 (Int.tmod (IntKind.u64.wrap (a1)) 1000)))))) 0 (wrap64 (x14_2 + 1)) x190000_33 x190001_33 x190002_33 x190003_33 x190004_33))) = some r := by rw [if_neg (show ¬ (false = true) by decide)] at H; exact H
                                              clear H
                                              have H := H1
                                              clear H1
                                              by_cases c44 : (wrap64 (1 + (wrap64 (Int.tmod (IntKind.u64.wrap (a1)) 1000)))) = 0
                                              · rw [if_pos c44] at H
                                                exact absurd H (by simp)
                                              · rw [if_neg c44] at H
                                                have c44b0 : ((wrap64 (1 + (wrap64 (Int.tmod (IntKind.u64.wrap (a1)) 1000)))) == 0) = false := beq_eq_false_iff_ne.mpr c44
                                                have c44b1 : ((wrap64 (1 + (wrap64 (Int.tmod (IntKind.u64.wrap (a1)) 1000)))) != 0) = true := bne_iff_ne.mpr c44
                                                by_cases c45 : (wrap64 (Int.tdiv (wrap64 ((wrap64 (x11_2 + (wrap64 (Int.tmod (rd l2 x14_2) 1000)))) + t194)) (wrap64 (1 + (wrap64 (Int.tmod (IntKind.u64.wrap (a1)) 1000)))))) = x12_17
                                                · rw [if_pos c45] at H
                                                  have c45b0 : ((wrap64 (Int.tdiv (wrap64 ((wrap64 (x11_2 + (wrap64 (Int.tmod (rd l2 x14_2) 1000)))) + t194)) (wrap64 (1 + (wrap64 (Int.tmod (IntKind.u64.wrap (a1)) 1000)))))) == x12_17) = true := beq_iff_eq.mpr c45
                                                  have c45b1 : ((wrap64 (Int.tdiv (wrap64 ((wrap64 (x11_2 + (wrap64 (Int.tmod (rd l2 x14_2) 1000)))) + t194)) (wrap64 (1 + (wrap64 (Int.tmod (IntKind.u64.wrap (a1)) 1000)))))) != x12_17) = false := bne_eq_false_iff_eq.mpr c45
                                                  clear c45
                                                  have H' := Aside0.mk H
                                                  clear H
                                                  go_wp2
                                                  go_roundg kj33
                                                  case measure => have := HJ6.out; have := HK2.out; have := HJ10.out; have := HJ17.out; have := HJ22.out; have := HJ33.out; omega
                                                  case rel => exact ⟨(wrap64 ((wrap64 (x11_2 + (wrap64 (Int.tmod (rd l2 x14_2) 1000)))) + t194)), (x12_17), ((wrap64 (x13_17 + t194))), (wrap64 (x14_2 + 1)), (x190000_33), (x190001_33), (x190002_33), (x190003_33), (x190004_33), (by first | rfl | (simp; done) | (simp [*]; done)), (by first | rfl | (simp; done) | (simp [*]; done)), (by first | rfl | (simp; done) | (simp [*]; done)), (by first | rfl | (simp; done) | (simp [*]; done)), H', ⟨by have := HJ6.out; have := HK2.out; have := HJ10.out; have := HJ17.out; have := HJ22.out; have := HJ33.out; omega⟩, ⟨by repeat (first | (with_reducible first | exact HI189.out | apply IsS84.alloc | apply IsS84.drewN | apply IsS84.drew | apply IsS84.set_0 | apply IsS84.set_1 | apply IsS84.set_2 | apply IsS84.set_3 | apply IsS84.set_4) | exact HI189.out)⟩, ⟨by repeat (first | (with_reducible first | exact HB.out | apply below_alloc | apply pw_below_drewN | apply below_drew1 | refine below_set ?_ (IsS84.ge HI189.out)) | exact HB.out)⟩⟩
                                                · rw [if_neg c45] at H
                                                  have c45b0 : ((wrap64 (Int.tdiv (wrap64 ((wrap64 (x11_2 + (wrap64 (Int.tmod (rd l2 x14_2) 1000)))) + t194)) (wrap64 (1 + (wrap64 (Int.tmod (IntKind.u64.wrap (a1)) 1000)))))) == x12_17) = false := beq_eq_false_iff_ne.mpr c45
                                                  have c45b1 : ((wrap64 (Int.tdiv (wrap64 ((wrap64 (x11_2 + (wrap64 (Int.tmod (rd l2 x14_2) 1000)))) + t194)) (wrap64 (1 + (wrap64 (Int.tmod (IntKind.u64.wrap (a1)) 1000)))))) != x12_17) = true := bne_iff_ne.mpr c45
                                                  have H' := Aside0.mk H
                                                  clear H
                                                  go_wp2
                                                  go_roundg kj33
                                                  case measure => have := HJ6.out; have := HK2.out; have := HJ10.out; have := HJ17.out; have := HJ22.out; have := HJ33.out; omega
                                                  case rel => exact ⟨(wrap64 ((wrap64 (x11_2 + (wrap64 (Int.tmod (rd l2 x14_2) 1000)))) + t194)), (wrap64 (Int.tdiv (wrap64 ((wrap64 (x11_2 + (wrap64 (Int.tmod (rd l2 x14_2) 1000)))) + t194)) (wrap64 (1 + (wrap64 (Int.tmod (IntKind.u64.wrap (a1)) 1000)))))), (0), (wrap64 (x14_2 + 1)), (x190000_33), (x190001_33), (x190002_33), (x190003_33), (x190004_33), (by first | rfl | (simp; done) | (simp [*]; done)), (by first | rfl | (simp; done) | (simp [*]; done)), (by first | rfl | (simp; done) | (simp [*]; done)), (by first | rfl | (simp; done) | (simp [*]; done)), H', ⟨by have := HJ6.out; have := HK2.out; have := HJ10.out; have := HJ17.out; have := HJ22.out; have := HJ33.out; omega⟩, ⟨by repeat (first | (with_reducible first | exact HI189.out | apply IsS84.alloc | apply IsS84.drewN | apply IsS84.drew | apply IsS84.set_0 | apply IsS84.set_1 | apply IsS84.set_2 | apply IsS84.set_3 | apply IsS84.set_4) | exact HI189.out)⟩, ⟨by repeat (first | (with_reducible first | exact HB.out | apply below_alloc | apply pw_below_drewN | apply below_drew1 | refine below_set ?_ (IsS84.ge HI189.out)) | exact HB.out)⟩⟩
                                · rw [if_neg c21] at H
                                  exact absurd H (by simp)
                              · rw [if_neg c20] at H
                                exact absurd H (by simp)
                      · rw [if_neg c16] at H
                        exact absurd H (by simp)
                    · rw [if_neg c15] at H
                      exact absurd H (by simp)
                  · replace c14 := Bool.eq_false_iff.mpr c14
                    subst c14
                    have H1 : ((monocoquelaw30_known.f kj10).bind fun t191 => (some t191)) = some r := by rw [if_neg (show ¬ (false = true) by decide)] at H; exact H
                    clear H
                    have H := H1
                    clear H1
                    replace H := Option.bind_eq_some_iff.mp H
                    obtain ⟨t191, A460, H⟩ := H
                    replace H : (some t191) = some r := H
                    have A46 := Aside0.mk A460
                    clear A460
                    obtain rfl := Option.some.inj H
                    go_wp2_with (first | ((with_reducible refine gate_callee (f := 19) rfl ?_); refine goesL_ (some 169) rfl rfl Try.func19 (by kernel_rfl) rfl #[] rfl (by (try simp only [List.map_toArray, List.map_cons, List.map_nil]); first | done | rfl | (simp only [List.length_drop, List.length_take]; rfl)) ?_; (with_reducible refine (monocoquelaw30_known.calls kj10  t191 _ A46.out).mono ?_); rintro e w47 ⟨rfl, hb⟩; refine ⟨_, rfl, ?_⟩; have n0_ := Aside0.mk (IsS84.below (by repeat (first | (with_reducible first | exact HI189.out | apply IsS84.alloc | apply IsS84.drewN | apply IsS84.drew | apply IsS84.set_0 | apply IsS84.set_1 | apply IsS84.set_2 | apply IsS84.set_3 | apply IsS84.set_4) | exact HI189.out)) hb); have n1_ := Aside0.mk (below_step (by repeat (first | (with_reducible first | exact HB.out | apply below_alloc | apply pw_below_drewN | apply below_drew1 | refine below_set ?_ (IsS84.ge HI189.out)) | exact HB.out)) hb); clear HI189; clear HB; have HI189 := n0_; have HB := n1_; clear n0_ n1_; (try clear hb); (try clear hb2); (try clear hk); (try clear hi)))
                    go_ret
                    exact ⟨by first | rfl | (simp [errW_none, errW_some] <;> rfl) | (simp [*, errW_none, errW_some] <;> rfl), by repeat (first | (with_reducible first | exact HB.out | apply below_alloc | apply pw_below_drewN | apply below_drew1 | refine below_set ?_ (IsS84.ge HI189.out)) | exact HB.out)⟩

/-- THE ONE PURE STATEMENT of monocoquelaw30_BudgetBound: yours. -/
def monocoquelaw30_BudgetBound.Pure : Prop := ∀ (a0 : Int) (a1 : Int) (l2 : List Int) (l3 : List Int), (Lit.int .i64 a0).wf = true → (Lit.int .i64 a1).wf = true → l2.length ≤ maxLen → l2.length * 2 ≤ 140737488351232 → (∀ x ∈ l2, (Lit.int .u16 x).wf = true) → l3.length ≤ maxLen → l3.length * 8 ≤ 140737488351232 → (∀ x ∈ l3, (Lit.int .i64 x).wf = true) → ∃ k, monocoquelaw30_BudgetBound.f k a0 a1 l2 l3 = some true
theorem monocoquelaw30_BudgetBound.walk (P : monocoquelaw30_BudgetBound.Pure) (a0 : Int) (a1 : Int) (a2 : Option Addr) (len2 cap2 : Nat) (z2 : List Int) (a3 : Option Addr) (len3 cap3 : Nat) (z3 : List Int) (w : World) (w0 : (Lit.int .i64 a0).wf = true) (w1 : (Lit.int .i64 a1).wf = true) (w2 : (a2 = none ∧ len2 = 0 ∧ cap2 = 0 ∧ z2 = []) ∨ ∃ x, a2 = some x ∧ len2 ≤ cap2 ∧ cap2 ≤ maxLen ∧ z2.length = cap2 ∧ (∀ i, i < z2.length → w.cell? (x.add i) = some (.int .u16 (z2.getD i 0))) ∧ ∀ n ∈ z2, (Lit.int .u16 n).wf = true) (y2 : len2 * 2 ≤ 140737488351232) (w3 : (a3 = none ∧ len3 = 0 ∧ cap3 = 0 ∧ z3 = []) ∨ ∃ x, a3 = some x ∧ len3 ≤ cap3 ∧ cap3 ≤ maxLen ∧ z3.length = cap3 ∧ (∀ i, i < z3.length → w.cell? (x.add i) = some (.int .i64 (z3.getD i 0))) ∧ ∀ n ∈ z3, (Lit.int .i64 n).wf = true) (y3 : len3 * 8 ≤ 140737488351232) :
    Calls Try.prog 3 #[.int .i64 a0, .int .i64 a1, .slice a2 len2 cap2, .slice a3 len3 cap3] w fun e w' => e = .returned (.bool true) ∧ Below w.heap.size w w' := by
  obtain ⟨l2, rfl, hr2, hm2, hw2, hc2⟩ := ReadsInt.ofRowC w2
  obtain ⟨l3, rfl, hr3, hm3, hw3, hc3⟩ := ReadsInt.ofRowC w3
  obtain ⟨k, h⟩ := P a0 a1 l2 l3 w0 w1 hm2 y2 hw2 hm3 y3 hw3
  refine (monocoquelaw30_BudgetBound.calls k a0 a1 _ _ l2 _ _ l3 true w (Kd.C_of_reads (d := (0 : Int)) (h1 := fun _ => rfl) hr2) hc2 (Kd.C_of_reads (d := (0 : Int)) (h1 := fun _ => rfl) hr3) hc3 h).mono ?_
  rintro e w' ⟨rfl, hd⟩
  exact ⟨rfl, hd⟩

end Go.Proofs.Ytpabbpcklgipnaa.PBudgetBound
