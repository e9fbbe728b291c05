/- The walks of functions that the law BudgetMoves reaches. Written by this session's turn of the kit's printer, not by the kit's own. -/
import Derived.Test.YtpabbpcklgipnaaQBudgetMovesx0
import Derived.Test.YtpabbpcklgipnaaQBudgetMovesx1
namespace Go.Proofs.Ytpabbpcklgipnaa.PBudgetMoves
open Go.RowKit Go.Proofs.YtpabbpcklgipnaaW.PrintWords Go.Proofs.YtpabbpcklgipnaaW.PrintLast Go.Proofs.YtpabbpcklgipnaaW.PrintMore
attribute [local go_sem] max2_int min2_int max_two min_two max_three min_three max_four min_four   -- for this text's walks alone
set_option linter.unusedVariables false
set_option linter.unusedSimpArgs false

/-! ### monocoquelaw30_BudgetMoves: function 5 -/
mutual
def monocoquelaw30_BudgetMoves.j0 : Nat → Int → List Int → List Int → Bool → Int → Int → Int → Int → Int → Int → Int → Int → Int → Int → Option (Bool)
  | 0, _, _, _, _, _, _, _, _, _, _, _, _, _, _ => none
  | k + 1, x2, x3, x4, x59, x190000, x190001, x190002, x190003, x190004, x197000, x197001, x197002, x197003, x197004 => if x59 = true then (some false) else ((budget_Server_Reset.f x197000 x197001 x197002 x197003 x197004 (wrap64 (Int.tmod x2 1073741824))).bind fun bt198 => (monocoquelaw30_BudgetMoves.l0 k x3 x4 (wrap64 (Int.tmod x2 1073741824)) 0 0 x190000 x190001 x190002 x190003 x190004 bt198.1 bt198.2.1 bt198.2.2.1 bt198.2.2.2.1 bt198.2.2.2.2))
def monocoquelaw30_BudgetMoves.l0 : Nat → List Int → List Int → Int → Int → Int → Int → Int → Int → Int → Int → Int → Int → Int → Int → Int → Option (Bool)
  | 0, _, _, _, _, _, _, _, _, _, _, _, _, _, _, _ => none
  | k + 1, x3, x4, x15, x16, x17, x190000, x190001, x190002, x190003, x190004, x197000, x197001, x197002, x197003, x197004 => if x17 < (x3.length : Int) then (if x17 < (x4.length : Int) then (monocoquelaw30_BudgetMoves.j2 k x3 x4 x15 x16 x17 (decide (x17 < 40)) x190000 x190001 x190002 x190003 x190004 x197000 x197001 x197002 x197003 x197004) else (monocoquelaw30_BudgetMoves.j2 k x3 x4 x15 x16 x17 false x190000 x190001 x190002 x190003 x190004 x197000 x197001 x197002 x197003 x197004)) else (monocoquelaw30_BudgetMoves.j2 k x3 x4 x15 x16 x17 false x190000 x190001 x190002 x190003 x190004 x197000 x197001 x197002 x197003 x197004)
def monocoquelaw30_BudgetMoves.j2 : Nat → List Int → List Int → Int → Int → Int → Bool → Int → Int → Int → Int → Int → Int → Int → Int → Int → Int → Option (Bool)
  | 0, _, _, _, _, _, _, _, _, _, _, _, _, _, _, _, _ => none
  | k + 1, x3, x4, x15, x16, x17, x79, x190000, x190001, x190002, x190003, x190004, x197000, x197001, x197002, x197003, x197004 => if x79 = true then (if 0 ≤ x17 then (if x17 < (x3.length : Int) then ((budget_Server_Left.f k x190000 x190001 x190002 x190003 x190004 (wrap64 (x16 + (wrap64 (Int.tmod (rd x3 x17) 1000))))).bind fun bt217 => ((budget_Server_Left.f k x197000 x197001 x197002 x197003 x197004 (wrap64 ((wrap64 (x16 + (wrap64 (Int.tmod (rd x3 x17) 1000)))) + x15))).bind fun bt223 => (if bt217.1 = bt223.1 then ((budget_Server_Next.f bt217.2.1 bt217.2.2.1 bt217.2.2.2.1 bt217.2.2.2.2.1 bt217.2.2.2.2.2 (wrap64 (x16 + (wrap64 (Int.tmod (rd x3 x17) 1000))))).bind fun bt229 => ((budget_Server_Next.f bt223.2.1 bt223.2.2.1 bt223.2.2.2.1 bt223.2.2.2.2.1 bt223.2.2.2.2.2 (wrap64 ((wrap64 (x16 + (wrap64 (Int.tmod (rd x3 x17) 1000)))) + x15))).bind fun bt235 => (monocoquelaw30_BudgetMoves.j3 k x3 x4 x15 (wrap64 (x16 + (wrap64 (Int.tmod (rd x3 x17) 1000)))) x17 ((wrap64 (bt229.1 + x15)) != bt235.1) bt229.2.1 bt229.2.2.1 bt229.2.2.2.1 bt229.2.2.2.2.1 bt229.2.2.2.2.2 bt235.2.1 bt235.2.2.1 bt235.2.2.2.1 bt235.2.2.2.2.1 bt235.2.2.2.2.2))) else (monocoquelaw30_BudgetMoves.j3 k x3 x4 x15 (wrap64 (x16 + (wrap64 (Int.tmod (rd x3 x17) 1000)))) x17 true bt217.2.1 bt217.2.2.1 bt217.2.2.2.1 bt217.2.2.2.2.1 bt217.2.2.2.2.2 bt223.2.1 bt223.2.2.1 bt223.2.2.2.1 bt223.2.2.2.2.1 bt223.2.2.2.2.2)))) else (none)) else (none)) else ((monocoquelaw30_known.f k).bind fun t203 => (if t203 = true then (if x15 = 0 then (some true) else ((budget_Server_Left.f k x197000 x197001 x197002 x197003 x197004 (wrap64 (x15 - 1))).bind fun bt204 => (if bt204.1 = 0 then ((budget_Server_Next.f bt204.2.1 bt204.2.2.1 bt204.2.2.2.1 bt204.2.2.2.2.1 bt204.2.2.2.2.2 (wrap64 (x15 - 1))).bind fun bt210 => (some (bt210.1 == 0))) else (some false)))) else (some false)))
def monocoquelaw30_BudgetMoves.j3 : Nat → List Int → List Int → Int → Int → Int → Bool → Int → Int → Int → Int → Int → Int → Int → Int → Int → Int → Option (Bool)
  | 0, _, _, _, _, _, _, _, _, _, _, _, _, _, _, _, _ => none
  | k + 1, x3, x4, x15, x16, x17, x111, x190000, x190001, x190002, x190003, x190004, x197000, x197001, x197002, x197003, x197004 => if x111 = true then (some false) else (if 0 ≤ x17 then (if x17 < (x4.length : Int) then ((budget_Server_Charge.f k x190000 x190001 x190002 x190003 x190004 x16 (rd x4 x17)).bind fun bt242 => ((budget_Server_Charge.f k x197000 x197001 x197002 x197003 x197004 (wrap64 (x16 + x15)) (rd x4 x17)).bind fun bt250 => (if bt242.1 = bt250.1 then (if (bt242.2.1 != bt250.2.1) = true then (some false) else (monocoquelaw30_BudgetMoves.l0 k x3 x4 x15 x16 (wrap64 (x17 + 1)) bt242.2.2.1 bt242.2.2.2.1 bt242.2.2.2.2.1 bt242.2.2.2.2.2.1 bt242.2.2.2.2.2.2 bt250.2.2.1 bt250.2.2.2.1 bt250.2.2.2.2.1 bt250.2.2.2.2.2.1 bt250.2.2.2.2.2.2)) else (some false)))) else (none)) else (none))
end
def monocoquelaw30_BudgetMoves.f (k : Nat) (a0 : Int) (a1 : Int) (a2 : Int) (l3 : List Int) (l4 : List Int) : Option (Bool) := if (IntKind.u64.wrap (wrap64 (1 + (wrap64 (Int.tmod (IntKind.u64.wrap (a1)) 1000))))) = 0 then (none) else ((budget_New.f (wrap64 (1 + (wrap64 (Int.tmod (IntKind.u64.wrap (a0)) (IntKind.u64.wrap (wrap64 (1 + (wrap64 (Int.tmod (IntKind.u64.wrap (a1)) 1000))))))))) (wrap64 (1 + (wrap64 (Int.tmod (IntKind.u64.wrap (a1)) 1000))))).bind fun bt184 => ((budget_New.f (wrap64 (1 + (wrap64 (Int.tmod (IntKind.u64.wrap (a0)) (IntKind.u64.wrap (wrap64 (1 + (wrap64 (Int.tmod (IntKind.u64.wrap (a1)) 1000))))))))) (wrap64 (1 + (wrap64 (Int.tmod (IntKind.u64.wrap (a1)) 1000))))).bind fun bt191 => (if bt184.2.2.2.2.2 = 0 then (if bt191.2.2.2.2.2 = 0 then (monocoquelaw30_BudgetMoves.j0 k a2 l3 l4 false bt184.1 bt184.2.1 bt184.2.2.1 bt184.2.2.2.1 bt184.2.2.2.2.1 bt191.1 bt191.2.1 bt191.2.2.1 bt191.2.2.2.1 bt191.2.2.2.2.1) else (monocoquelaw30_BudgetMoves.j0 k a2 l3 l4 true bt184.1 bt184.2.1 bt184.2.2.1 bt184.2.2.2.1 bt184.2.2.2.2.1 bt191.1 bt191.2.1 bt191.2.2.1 bt191.2.2.2.1 bt191.2.2.2.2.1)) else (monocoquelaw30_BudgetMoves.j0 k a2 l3 l4 true bt184.1 bt184.2.1 bt184.2.2.1 bt184.2.2.2.1 bt184.2.2.2.2.1 bt191.1 bt191.2.1 bt191.2.2.1 bt191.2.2.2.1 bt191.2.2.2.2.1))))
theorem monocoquelaw30_BudgetMoves.mono_l : ∀ k, (∀ y0 y1 y2 y3 y4 y5 y6 y7 y8 y9 y10 y11 y12 y13, LeO (monocoquelaw30_BudgetMoves.j0 k y0 y1 y2 y3 y4 y5 y6 y7 y8 y9 y10 y11 y12 y13) (monocoquelaw30_BudgetMoves.j0 (k + 1) y0 y1 y2 y3 y4 y5 y6 y7 y8 y9 y10 y11 y12 y13)) ∧ (∀ y0 y1 y2 y3 y4 y5 y6 y7 y8 y9 y10 y11 y12 y13 y14, LeO (monocoquelaw30_BudgetMoves.l0 k y0 y1 y2 y3 y4 y5 y6 y7 y8 y9 y10 y11 y12 y13 y14) (monocoquelaw30_BudgetMoves.l0 (k + 1) y0 y1 y2 y3 y4 y5 y6 y7 y8 y9 y10 y11 y12 y13 y14)) ∧ (∀ y0 y1 y2 y3 y4 y5 y6 y7 y8 y9 y10 y11 y12 y13 y14 y15, LeO (monocoquelaw30_BudgetMoves.j2 k y0 y1 y2 y3 y4 y5 y6 y7 y8 y9 y10 y11 y12 y13 y14 y15) (monocoquelaw30_BudgetMoves.j2 (k + 1) y0 y1 y2 y3 y4 y5 y6 y7 y8 y9 y10 y11 y12 y13 y14 y15)) ∧ (∀ y0 y1 y2 y3 y4 y5 y6 y7 y8 y9 y10 y11 y12 y13 y14 y15, LeO (monocoquelaw30_BudgetMoves.j3 k y0 y1 y2 y3 y4 y5 y6 y7 y8 y9 y10 y11 y12 y13 y14 y15) (monocoquelaw30_BudgetMoves.j3 (k + 1) y0 y1 y2 y3 y4 y5 y6 y7 y8 y9 y10 y11 y12 y13 y14 y15))
  | 0 => ⟨fun _ _ _ _ _ _ _ _ _ _ _ _ _ _ r h => by simp [monocoquelaw30_BudgetMoves.j0] at h, fun _ _ _ _ _ _ _ _ _ _ _ _ _ _ _ r h => by simp [monocoquelaw30_BudgetMoves.l0] at h, fun _ _ _ _ _ _ _ _ _ _ _ _ _ _ _ _ r h => by simp [monocoquelaw30_BudgetMoves.j2] at h, fun _ _ _ _ _ _ _ _ _ _ _ _ _ _ _ _ r h => by simp [monocoquelaw30_BudgetMoves.j3] at h⟩
  | k + 1 => by
    obtain ⟨ih0, ih1, ih2, ih3⟩ := monocoquelaw30_BudgetMoves.mono_l k
    refine ⟨?_, ?_, ?_, ?_⟩
    · intro y0 y1 y2 y3 y4 y5 y6 y7 y8 y9 y10 y11 y12 y13
      unfold monocoquelaw30_BudgetMoves.j0
      repeat' first
      | (with_reducible exact ih0 _ _ _ _ _ _ _ _ _ _ _ _ _ _)
      | (with_reducible exact ih1 _ _ _ _ _ _ _ _ _ _ _ _ _ _ _)
      | (with_reducible exact ih2 _ _ _ _ _ _ _ _ _ _ _ _ _ _ _ _)
      | (with_reducible exact ih3 _ _ _ _ _ _ _ _ _ _ _ _ _ _ _ _)
      | (with_reducible exact budget_Server_Charge.mono _ _ _ _ _ _ _ _)
      | (with_reducible exact budget_Server_Left.mono _ _ _ _ _ _ _)
      | (with_reducible exact monocoquelaw30_known.mono _)
      | (with_reducible exact LeO.refl _)
      | (with_reducible exact LeO.none _)
      | (with_reducible refine LeO.ite ?_ ?_)
      | (with_reducible refine LeO.bind ?_ (fun _ => ?_))
      | exact ih0 _ _ _ _ _ _ _ _ _ _ _ _ _ _
      | exact ih1 _ _ _ _ _ _ _ _ _ _ _ _ _ _ _
      | exact ih2 _ _ _ _ _ _ _ _ _ _ _ _ _ _ _ _
      | exact ih3 _ _ _ _ _ _ _ _ _ _ _ _ _ _ _ _
      | exact budget_Server_Charge.mono _ _ _ _ _ _ _ _
      | exact budget_Server_Left.mono _ _ _ _ _ _ _
      | exact monocoquelaw30_known.mono _
      | exact LeO.none _
      | refine LeO.ite ?_ ?_
      | refine LeO.bind ?_ (fun _ => ?_)
    · intro y0 y1 y2 y3 y4 y5 y6 y7 y8 y9 y10 y11 y12 y13 y14
      unfold monocoquelaw30_BudgetMoves.l0
      repeat' first
      | (with_reducible exact ih0 _ _ _ _ _ _ _ _ _ _ _ _ _ _)
      | (with_reducible exact ih1 _ _ _ _ _ _ _ _ _ _ _ _ _ _ _)
      | (with_reducible exact ih2 _ _ _ _ _ _ _ _ _ _ _ _ _ _ _ _)
      | (with_reducible exact ih3 _ _ _ _ _ _ _ _ _ _ _ _ _ _ _ _)
      | (with_reducible exact budget_Server_Charge.mono _ _ _ _ _ _ _ _)
      | (with_reducible exact budget_Server_Left.mono _ _ _ _ _ _ _)
      | (with_reducible exact monocoquelaw30_known.mono _)
      | (with_reducible exact LeO.refl _)
      | (with_reducible exact LeO.none _)
      | (with_reducible refine LeO.ite ?_ ?_)
      | (with_reducible refine LeO.bind ?_ (fun _ => ?_))
      | exact ih0 _ _ _ _ _ _ _ _ _ _ _ _ _ _
      | exact ih1 _ _ _ _ _ _ _ _ _ _ _ _ _ _ _
      | exact ih2 _ _ _ _ _ _ _ _ _ _ _ _ _ _ _ _
      | exact ih3 _ _ _ _ _ _ _ _ _ _ _ _ _ _ _ _
      | exact budget_Server_Charge.mono _ _ _ _ _ _ _ _
      | exact budget_Server_Left.mono _ _ _ _ _ _ _
      | exact monocoquelaw30_known.mono _
      | exact LeO.none _
      | refine LeO.ite ?_ ?_
      | refine LeO.bind ?_ (fun _ => ?_)
    · intro y0 y1 y2 y3 y4 y5 y6 y7 y8 y9 y10 y11 y12 y13 y14 y15
      unfold monocoquelaw30_BudgetMoves.j2
      repeat' first
      | (with_reducible exact ih0 _ _ _ _ _ _ _ _ _ _ _ _ _ _)
      | (with_reducible exact ih1 _ _ _ _ _ _ _ _ _ _ _ _ _ _ _)
      | (with_reducible exact ih2 _ _ _ _ _ _ _ _ _ _ _ _ _ _ _ _)
      | (with_reducible exact ih3 _ _ _ _ _ _ _ _ _ _ _ _ _ _ _ _)
      | (with_reducible exact budget_Server_Charge.mono _ _ _ _ _ _ _ _)
      | (with_reducible exact budget_Server_Left.mono _ _ _ _ _ _ _)
      | (with_reducible exact monocoquelaw30_known.mono _)
      | (with_reducible exact LeO.refl _)
      | (with_reducible exact LeO.none _)
      | (with_reducible refine LeO.ite ?_ ?_)
      | (with_reducible refine LeO.bind ?_ (fun _ => ?_))
      | exact ih0 _ _ _ _ _ _ _ _ _ _ _ _ _ _
      | exact ih1 _ _ _ _ _ _ _ _ _ _ _ _ _ _ _
      | exact ih2 _ _ _ _ _ _ _ _ _ _ _ _ _ _ _ _
      | exact ih3 _ _ _ _ _ _ _ _ _ _ _ _ _ _ _ _
      | exact budget_Server_Charge.mono _ _ _ _ _ _ _ _
      | exact budget_Server_Left.mono _ _ _ _ _ _ _
      | exact monocoquelaw30_known.mono _
      | exact LeO.none _
      | refine LeO.ite ?_ ?_
      | refine LeO.bind ?_ (fun _ => ?_)
    · intro y0 y1 y2 y3 y4 y5 y6 y7 y8 y9 y10 y11 y12 y13 y14 y15
      unfold monocoquelaw30_BudgetMoves.j3
      repeat' first
      | (with_reducible exact ih0 _ _ _ _ _ _ _ _ _ _ _ _ _ _)
      | (with_reducible exact ih1 _ _ _ _ _ _ _ _ _ _ _ _ _ _ _)
      | (with_reducible exact ih2 _ _ _ _ _ _ _ _ _ _ _ _ _ _ _ _)
      | (with_reducible exact ih3 _ _ _ _ _ _ _ _ _ _ _ _ _ _ _ _)
      | (with_reducible exact budget_Server_Charge.mono _ _ _ _ _ _ _ _)
      | (with_reducible exact budget_Server_Left.mono _ _ _ _ _ _ _)
      | (with_reducible exact monocoquelaw30_known.mono _)
      | (with_reducible exact LeO.refl _)
      | (with_reducible exact LeO.none _)
      | (with_reducible refine LeO.ite ?_ ?_)
      | (with_reducible refine LeO.bind ?_ (fun _ => ?_))
      | exact ih0 _ _ _ _ _ _ _ _ _ _ _ _ _ _
      | exact ih1 _ _ _ _ _ _ _ _ _ _ _ _ _ _ _
      | exact ih2 _ _ _ _ _ _ _ _ _ _ _ _ _ _ _ _
      | exact ih3 _ _ _ _ _ _ _ _ _ _ _ _ _ _ _ _
      | exact budget_Server_Charge.mono _ _ _ _ _ _ _ _
      | exact budget_Server_Left.mono _ _ _ _ _ _ _
      | exact monocoquelaw30_known.mono _
      | exact LeO.none _
      | refine LeO.ite ?_ ?_
      | refine LeO.bind ?_ (fun _ => ?_)
theorem monocoquelaw30_BudgetMoves.mono : ∀ a0 a1 a2 a3 a4 k, LeO (monocoquelaw30_BudgetMoves.f k a0 a1 a2 a3 a4) (monocoquelaw30_BudgetMoves.f (k + 1) a0 a1 a2 a3 a4) := by
  intro a0 a1 a2 a3 a4 k
  obtain ⟨ih0, ih1, ih2, ih3⟩ := monocoquelaw30_BudgetMoves.mono_l k
  unfold monocoquelaw30_BudgetMoves.f
  repeat' first
      | (with_reducible exact ih0 _ _ _ _ _ _ _ _ _ _ _ _ _ _)
      | (with_reducible exact ih1 _ _ _ _ _ _ _ _ _ _ _ _ _ _ _)
      | (with_reducible exact ih2 _ _ _ _ _ _ _ _ _ _ _ _ _ _ _ _)
      | (with_reducible exact ih3 _ _ _ _ _ _ _ _ _ _ _ _ _ _ _ _)
      | (with_reducible exact budget_Server_Charge.mono _ _ _ _ _ _ _ _)
      | (with_reducible exact budget_Server_Left.mono _ _ _ _ _ _ _)
      | (with_reducible exact monocoquelaw30_known.mono _)
      | (with_reducible exact LeO.refl _)
      | (with_reducible exact LeO.none _)
      | (with_reducible refine LeO.ite ?_ ?_)
      | (with_reducible refine LeO.bind ?_ (fun _ => ?_))
      | exact ih0 _ _ _ _ _ _ _ _ _ _ _ _ _ _
      | exact ih1 _ _ _ _ _ _ _ _ _ _ _ _ _ _ _
      | exact ih2 _ _ _ _ _ _ _ _ _ _ _ _ _ _ _ _
      | exact ih3 _ _ _ _ _ _ _ _ _ _ _ _ _ _ _ _
      | exact budget_Server_Charge.mono _ _ _ _ _ _ _ _
      | exact budget_Server_Left.mono _ _ _ _ _ _ _
      | exact monocoquelaw30_known.mono _
      | exact LeO.none _
      | refine LeO.ite ?_ ?_
      | refine LeO.bind ?_ (fun _ => ?_)
set_option maxHeartbeats 8000000 in
set_option maxRecDepth 100000 in
theorem monocoquelaw30_BudgetMoves.calls (k : Nat) (a0 : Int) (a1 : Int) (a2 : Int) (A3 : Option Addr) (c3 : Nat) (l3 : List Int) (A4 : Option Addr) (c4 : Nat) (l4 : List Int) (r : Bool) (w : World) (hr3 : Kd.C (Kd.int .u16) w A3 l3.length l3) (hc3 : l3.length ≤ c3) (hr4 : Kd.C (Kd.int .i64) w A4 l4.length l4) (hc4 : l4.length ≤ c4) (h : monocoquelaw30_BudgetMoves.f k a0 a1 a2 l3 l4 = some r) :
    Calls Try.prog 5 #[.int .i64 a0, .int .i64 a1, .int .u32 a2, .slice A3 l3.length c3, .slice A4 l4.length c4] w fun e w' => e = .returned (.bool r) ∧ Below w.heap.size w w' := by
  have hu25 := Try.underlying25
  have HR3 := Aside0.mk hr3
  have HC3 := Aside0.mk hc3
  clear hr3 hc3
  have HR4 := Aside0.mk hr4
  have HC4 := Aside0.mk hc4
  clear hr4 hc4
  have HB := Aside0.mk (Below.refl w.heap.size w)
  have H : (if (IntKind.u64.wrap (wrap64 (1 + (wrap64 (Int.tmod (IntKind.u64.wrap (a1)) 1000))))) = 0 then (none) else ((budget_New.f (wrap64 (1 + (wrap64 (Int.tmod (IntKind.u64.wrap (a0)) (IntKind.u64.wrap (wrap64 (1 + (wrap64 (Int.tmod (IntKind.u64.wrap (a1)) 1000))))))))) (wrap64 (1 + (wrap64 (Int.tmod (IntKind.u64.wrap (a1)) 1000))))).bind fun bt184 => ((budget_New.f (wrap64 (1 + (wrap64 (Int.tmod (IntKind.u64.wrap (a0)) (IntKind.u64.wrap (wrap64 (1 + (wrap64 (Int.tmod (IntKind.u64.wrap (a1)) 1000))))))))) (wrap64 (1 + (wrap64 (Int.tmod (IntKind.u64.wrap (a1)) 1000))))).bind fun bt191 => (if bt184.2.2.2.2.2 = 0 then (if bt191.2.2.2.2.2 = 0 then (monocoquelaw30_BudgetMoves.j0 k a2 l3 l4 false bt184.1 bt184.2.1 bt184.2.2.1 bt184.2.2.2.1 bt184.2.2.2.2.1 bt191.1 bt191.2.1 bt191.2.2.1 bt191.2.2.2.1 bt191.2.2.2.2.1) else (monocoquelaw30_BudgetMoves.j0 k a2 l3 l4 true bt184.1 bt184.2.1 bt184.2.2.1 bt184.2.2.2.1 bt184.2.2.2.2.1 bt191.1 bt191.2.1 bt191.2.2.1 bt191.2.2.2.1 bt191.2.2.2.2.1)) else (monocoquelaw30_BudgetMoves.j0 k a2 l3 l4 true bt184.1 bt184.2.1 bt184.2.2.1 bt184.2.2.2.1 bt184.2.2.2.2.1 bt191.1 bt191.2.1 bt191.2.2.1 bt191.2.2.2.1 bt191.2.2.2.2.1))))) = some r := h
  clear h
  by_cases c6 : (IntKind.u64.wrap (wrap64 (1 + (wrap64 (Int.tmod (IntKind.u64.wrap (a1)) 1000))))) = 0
  · rw [if_pos c6] at H
    exact absurd H (by simp)
  · rw [if_neg c6] at H
    have c6b0 : ((IntKind.u64.wrap (wrap64 (1 + (wrap64 (Int.tmod (IntKind.u64.wrap (a1)) 1000))))) == 0) = false := beq_eq_false_iff_ne.mpr c6
    have c6b1 : ((IntKind.u64.wrap (wrap64 (1 + (wrap64 (Int.tmod (IntKind.u64.wrap (a1)) 1000))))) != 0) = true := bne_iff_ne.mpr c6
    replace H := Option.bind_eq_some_iff.mp H
    obtain ⟨⟨t184, t185, t186, t187, t188, t190⟩, A70, H⟩ := H
    replace H : ((budget_New.f (wrap64 (1 + (wrap64 (Int.tmod (IntKind.u64.wrap (a0)) (IntKind.u64.wrap (wrap64 (1 + (wrap64 (Int.tmod (IntKind.u64.wrap (a1)) 1000))))))))) (wrap64 (1 + (wrap64 (Int.tmod (IntKind.u64.wrap (a1)) 1000))))).bind fun bt191 => (if t190 = 0 then (if bt191.2.2.2.2.2 = 0 then (monocoquelaw30_BudgetMoves.j0 k a2 l3 l4 false t184 t185 t186 t187 t188 bt191.1 bt191.2.1 bt191.2.2.1 bt191.2.2.2.1 bt191.2.2.2.2.1) else (monocoquelaw30_BudgetMoves.j0 k a2 l3 l4 true t184 t185 t186 t187 t188 bt191.1 bt191.2.1 bt191.2.2.1 bt191.2.2.2.1 bt191.2.2.2.2.1)) else (monocoquelaw30_BudgetMoves.j0 k a2 l3 l4 true t184 t185 t186 t187 t188 bt191.1 bt191.2.1 bt191.2.2.1 bt191.2.2.2.1 bt191.2.2.2.2.1))) = some r := H
    have A7 := Aside0.mk A70
    clear A70
    replace H := Option.bind_eq_some_iff.mp H
    obtain ⟨⟨t191, t192, t193, t194, t195, t197⟩, A80, H⟩ := H
    replace H : (if t190 = 0 then (if t197 = 0 then (monocoquelaw30_BudgetMoves.j0 k a2 l3 l4 false t184 t185 t186 t187 t188 t191 t192 t193 t194 t195) else (monocoquelaw30_BudgetMoves.j0 k a2 l3 l4 true t184 t185 t186 t187 t188 t191 t192 t193 t194 t195)) else (monocoquelaw30_BudgetMoves.j0 k a2 l3 l4 true t184 t185 t186 t187 t188 t191 t192 t193 t194 t195)) = some r := H
    have A8 := Aside0.mk A80
    clear A80
    have HC9 := Aside0.mk H
    clear H
    go_enter Try.func5, Try.ntmps5
    go_upto_region 5 with (first | ((with_reducible refine gate_callee (f := 15) rfl ?_); refine goesL_ (some 37) rfl rfl Try.func15 (by kernel_rfl) rfl #[.int .i64 (wrap64 (1 + (wrap64 (Int.tmod (IntKind.u64.wrap (a0)) (IntKind.u64.wrap (wrap64 (1 + (wrap64 (Int.tmod (IntKind.u64.wrap (a1)) 1000))))))))), .int .i64 (wrap64 (1 + (wrap64 (Int.tmod (IntKind.u64.wrap (a1)) 1000))))] rfl (by (try simp only [List.map_toArray, List.map_cons, List.map_nil]); first | done | rfl | (simp only [List.length_drop, List.length_take]; rfl)) ?_; (with_reducible refine (budget_New.calls (wrap64 (1 + (wrap64 (Int.tmod (IntKind.u64.wrap (a0)) (IntKind.u64.wrap (wrap64 (1 + (wrap64 (Int.tmod (IntKind.u64.wrap (a1)) 1000))))))))) (wrap64 (1 + (wrap64 (Int.tmod (IntKind.u64.wrap (a1)) 1000)))) t184 t185 t186 t187 t188 t190 w _ ?side1 A7.out).mono ?_); (case side1 => repeat (first | (with_reducible first | exact HB.out | apply below_alloc | apply pw_below_drewN | apply below_drew1) | exact HB.out)); rintro e w10 ⟨g189, rfl, hi, hb, hb2, hge⟩; refine ⟨_, rfl, ?_⟩; have n0_ := Aside0.mk (hb); have n1_ := Aside0.mk (hi); clear HB; have HB := n0_; have HI189 := n1_; clear n0_ n1_; (try clear hb); (try clear hb2); (try clear hge); (try clear hk); (try clear hi)) | ((with_reducible refine gate_callee (f := 15) rfl ?_); refine goesL_ (some 43) rfl rfl Try.func15 (by kernel_rfl) rfl #[.int .i64 (wrap64 (1 + (wrap64 (Int.tmod (IntKind.u64.wrap (a0)) (IntKind.u64.wrap (wrap64 (1 + (wrap64 (Int.tmod (IntKind.u64.wrap (a1)) 1000))))))))), .int .i64 (wrap64 (1 + (wrap64 (Int.tmod (IntKind.u64.wrap (a1)) 1000))))] rfl (by (try simp only [List.map_toArray, List.map_cons, List.map_nil]); first | done | rfl | (simp only [List.length_drop, List.length_take]; rfl)) ?_; (with_reducible refine (budget_New.calls (wrap64 (1 + (wrap64 (Int.tmod (IntKind.u64.wrap (a0)) (IntKind.u64.wrap (wrap64 (1 + (wrap64 (Int.tmod (IntKind.u64.wrap (a1)) 1000))))))))) (wrap64 (1 + (wrap64 (Int.tmod (IntKind.u64.wrap (a1)) 1000)))) t191 t192 t193 t194 t195 t197 w _ ?side1 A8.out).mono ?_); (case side1 => repeat (first | (with_reducible first | exact HB.out | apply below_alloc | apply pw_below_drewN | apply below_drew1 | refine below_set ?_ (IsS84.ge HI189.out)) | exact HB.out)); rintro e w11 ⟨g196, rfl, hi, hb, hb2, hge⟩; refine ⟨_, rfl, ?_⟩; have n0_ := Aside0.mk (IsS84.below (by repeat (first | (with_reducible first | exact HI189.out | apply IsS84.alloc | apply IsS84.drewN | apply IsS84.drew | apply IsS84.set_0 | apply IsS84.set_1 | apply IsS84.set_2 | apply IsS84.set_3 | apply IsS84.set_4) | exact HI189.out)) hb2); have n1_ := Aside0.mk (hb); have n2_ := Aside0.mk (hi); have n3_ := Aside0.mk ((Nat.ne_of_gt (Nat.lt_of_lt_of_le (IsS84.lt (show IsS84 w _ g189 t184 t185 t186 t187 t188 from by repeat (first | (with_reducible first | exact HI189.out | apply IsS84.alloc | apply IsS84.drewN | apply IsS84.drew | apply IsS84.set_0 | apply IsS84.set_1 | apply IsS84.set_2 | apply IsS84.set_3 | apply IsS84.set_4) | exact HI189.out))) hge) : g196 ≠ g189)); have n4_ := Aside0.mk ((Ne.symm (Nat.ne_of_gt (Nat.lt_of_lt_of_le (IsS84.lt (show IsS84 w _ g189 t184 t185 t186 t187 t188 from by repeat (first | (with_reducible first | exact HI189.out | apply IsS84.alloc | apply IsS84.drewN | apply IsS84.drew | apply IsS84.set_0 | apply IsS84.set_1 | apply IsS84.set_2 | apply IsS84.set_3 | apply IsS84.set_4) | exact HI189.out))) hge) : g196 ≠ g189) : g189 ≠ g196)); clear HI189; clear HB; have HI189 := n0_; have HB := n1_; have HI196 := n2_; have NS196_189 := n3_; have NS189_196 := n4_; clear n0_ n1_ n2_ n3_ n4_; (try clear hb); (try clear hb2); (try clear hge); (try clear hk); (try clear hi)))
    (try simp only [Act.put, List.setIfInBounds_toArray, List.set_cons_zero, List.set_cons_succ])
    go_cut [59] (fun v59 wc => ∃ (kq : Nat) (x59_8 : Bool), v59 = .bool x59_8 ∧ Aside0 (monocoquelaw30_BudgetMoves.j0 kq a2 l3 l4 x59_8 t184 t185 t186 t187 t188 t191 t192 t193 t194 t195 = some r) ∧ Aside0 (kq ≤ k) ∧ Aside0 (IsS84 w wc g189 t184 t185 t186 t187 t188) ∧ Aside0 (IsS84 w wc g196 t191 t192 t193 t194 t195) ∧ Aside0 (Below w.heap.size w wc))
    case first =>
      have H := HC9.out
      clear HC9
      by_cases c12 : t190 = 0
      · rw [if_pos c12] at H
        have c12b0 : (t190 == 0) = true := beq_iff_eq.mpr c12
        have c12b1 : (t190 != 0) = false := bne_eq_false_iff_eq.mpr c12
        clear c12
        (first | rw [c12b0] | (simp only [i64_w, i32_w]; rw [c12b0]) | skip)
        by_cases c13 : t197 = 0
        · rw [if_pos c13] at H
          have c13b0 : (t197 == 0) = true := beq_iff_eq.mpr c13
          have c13b1 : (t197 != 0) = false := bne_eq_false_iff_eq.mpr c13
          clear c13
          have H' := Aside0.mk H
          clear H
          go_wp2
          go_meet
          case rel => exact ⟨_, (false), (by first | rfl | (simp; done) | (simp [*]; done)), H', ⟨by first | omega | exact Nat.le_refl _⟩, ⟨by repeat (first | (with_reducible first | exact HI189.out | apply IsS84.alloc | apply IsS84.drewN | apply IsS84.drew | apply IsS84.set_0 | apply IsS84.set_1 | apply IsS84.set_2 | apply IsS84.set_3 | apply IsS84.set_4) | exact HI189.out)⟩, ⟨by repeat (first | (with_reducible first | exact HI196.out | apply IsS84.alloc | apply IsS84.drewN | apply IsS84.drew | apply IsS84.set_0 | apply IsS84.set_1 | apply IsS84.set_2 | apply IsS84.set_3 | apply IsS84.set_4) | exact HI196.out)⟩, ⟨by repeat (first | (with_reducible first | exact HB.out | apply below_alloc | apply pw_below_drewN | apply below_drew1 | refine below_set ?_ (IsS84.ge HI189.out) | refine below_set ?_ (IsS84.ge HI196.out)) | exact HB.out)⟩⟩
        · rw [if_neg c13] at H
          have c13b0 : (t197 == 0) = false := beq_eq_false_iff_ne.mpr c13
          have c13b1 : (t197 != 0) = true := bne_iff_ne.mpr c13
          have H' := Aside0.mk H
          clear H
          go_wp2
          go_meet
          case rel => exact ⟨_, (true), (by first | rfl | (simp; done) | (simp [*]; done)), H', ⟨by first | omega | exact Nat.le_refl _⟩, ⟨by repeat (first | (with_reducible first | exact HI189.out | apply IsS84.alloc | apply IsS84.drewN | apply IsS84.drew | apply IsS84.set_0 | apply IsS84.set_1 | apply IsS84.set_2 | apply IsS84.set_3 | apply IsS84.set_4) | exact HI189.out)⟩, ⟨by repeat (first | (with_reducible first | exact HI196.out | apply IsS84.alloc | apply IsS84.drewN | apply IsS84.drew | apply IsS84.set_0 | apply IsS84.set_1 | apply IsS84.set_2 | apply IsS84.set_3 | apply IsS84.set_4) | exact HI196.out)⟩, ⟨by repeat (first | (with_reducible first | exact HB.out | apply below_alloc | apply pw_below_drewN | apply below_drew1 | refine below_set ?_ (IsS84.ge HI189.out) | refine below_set ?_ (IsS84.ge HI196.out)) | exact HB.out)⟩⟩
      · rw [if_neg c12] at H
        have c12b0 : (t190 == 0) = false := beq_eq_false_iff_ne.mpr c12
        have c12b1 : (t190 != 0) = true := bne_iff_ne.mpr c12
        (first | rw [c12b0] | (simp only [i64_w, i32_w]; rw [c12b0]) | skip)
        have H' := Aside0.mk H
        clear H
        go_wp2
        go_meet
        case rel => exact ⟨_, (true), (by first | rfl | (simp; done) | (simp [*]; done)), H', ⟨by first | omega | exact Nat.le_refl _⟩, ⟨by repeat (first | (with_reducible first | exact HI189.out | apply IsS84.alloc | apply IsS84.drewN | apply IsS84.drew | apply IsS84.set_0 | apply IsS84.set_1 | apply IsS84.set_2 | apply IsS84.set_3 | apply IsS84.set_4) | exact HI189.out)⟩, ⟨by repeat (first | (with_reducible first | exact HI196.out | apply IsS84.alloc | apply IsS84.drewN | apply IsS84.drew | apply IsS84.set_0 | apply IsS84.set_1 | apply IsS84.set_2 | apply IsS84.set_3 | apply IsS84.set_4) | exact HI196.out)⟩, ⟨by repeat (first | (with_reducible first | exact HB.out | apply below_alloc | apply pw_below_drewN | apply below_drew1 | refine below_set ?_ (IsS84.ge HI189.out) | refine below_set ?_ (IsS84.ge HI196.out)) | exact HB.out)⟩⟩
    case rest =>
      clear HC9
      try clear c1
      try clear p2
      try clear c3
      try clear c4
      try clear c5
      try clear c6
      try clear c6b0
      try clear c6b1
      try clear p6
      try clear c12
      try clear c12b0
      try clear c12b1
      try clear c13
      try clear c13b0
      try clear c13b1
      obtain ⟨kq, x59_8, rfl, HA, HJ8, HI189, HI196, HB⟩ := hcut
      cases kq with
      | zero => exact absurd HA.out (by simp [monocoquelaw30_BudgetMoves.j0])
      | succ kj8 =>
        have H := HA.out
        clear HA
        simp only [monocoquelaw30_BudgetMoves.j0] at H
        by_cases c14 : x59_8 = true
        · subst c14
          have H1 : (some false) = some r := by rw [if_pos rfl] at H; exact H
          clear H
          have H := H1
          clear H1
          obtain rfl := Option.some.inj H
          go_wp2
          go_ret
          exact ⟨by first | rfl | (simp [errW_none, errW_some] <;> rfl) | (simp [*, errW_none, errW_some] <;> rfl), by repeat (first | (with_reducible first | exact HB.out | apply below_alloc | apply pw_below_drewN | apply below_drew1 | refine below_set ?_ (IsS84.ge HI189.out) | refine below_set ?_ (IsS84.ge HI196.out)) | exact HB.out)⟩
        · replace c14 := Bool.eq_false_iff.mpr c14
          subst c14
          have H1 : ((budget_Server_Reset.f t191 t192 t193 t194 t195 (wrap64 (Int.tmod a2 1073741824))).bind fun bt198 => (monocoquelaw30_BudgetMoves.l0 kj8 l3 l4 (wrap64 (Int.tmod a2 1073741824)) 0 0 t184 t185 t186 t187 t188 bt198.1 bt198.2.1 bt198.2.2.1 bt198.2.2.2.1 bt198.2.2.2.2)) = some r := by rw [if_neg (show ¬ (false = true) by decide)] at H; exact H
          clear H
          have H := H1
          clear H1
          replace H := Option.bind_eq_some_iff.mp H
          obtain ⟨⟨t198, t199, t200, t201, t202⟩, A150, H⟩ := H
          replace H : (monocoquelaw30_BudgetMoves.l0 kj8 l3 l4 (wrap64 (Int.tmod a2 1073741824)) 0 0 t184 t185 t186 t187 t188 t198 t199 t200 t201 t202) = some r := H
          have A15 := Aside0.mk A150
          clear A150
          have H' := Aside0.mk H
          clear H
          go_wp2_with (first | ((with_reducible refine gate_callee (f := 20) rfl ?_); refine goesL_ (some 65) rfl rfl Try.func20 (by kernel_rfl) rfl #[.pointer (some ⟨g196, 0, none⟩), .int .i64 (wrap64 (Int.tmod a2 1073741824))] rfl (by (try simp only [List.map_toArray, List.map_cons, List.map_nil]); first | done | rfl | (simp only [List.length_drop, List.length_take]; rfl)) ?_; (with_reducible refine (budget_Server_Reset.calls g196 t191 t192 t193 t194 t195 (wrap64 (Int.tmod a2 1073741824)) t198 t199 t200 t201 t202 w _ ?side1 ?side2 A15.out).mono ?_); (case side1 => repeat (first | (with_reducible first | exact HI196.out | apply IsS84.alloc | apply IsS84.drewN | apply IsS84.drew | apply IsS84.set_0 | apply IsS84.set_1 | apply IsS84.set_2 | apply IsS84.set_3 | apply IsS84.set_4) | exact HI196.out)); (case side2 => repeat (first | (with_reducible first | exact HB.out | apply below_alloc | apply pw_below_drewN | apply below_drew1 | refine below_set ?_ (IsS84.ge HI189.out) | refine below_set ?_ (IsS84.ge HI196.out)) | exact HB.out)); rintro e w16 ⟨rfl, hi, hb, hk⟩; refine ⟨_, rfl, ?_⟩; have n0_ := Aside0.mk (IsS84.other (show IsS84 w _ g189 t184 t185 t186 t187 t188 from by repeat (first | (with_reducible first | exact HI189.out | apply IsS84.alloc | apply IsS84.drewN | apply IsS84.drew | apply IsS84.set_0 | apply IsS84.set_1 | apply IsS84.set_2 | apply IsS84.set_3 | apply IsS84.set_4) | exact HI189.out)) hk NS189_196.out); have n1_ := Aside0.mk (hb); have n2_ := Aside0.mk (hi); clear HI189; clear HB; clear HI196; have HI189 := n0_; have HB := n1_; have HI196 := n2_; clear n0_ n1_ n2_; (try clear hb); (try clear hb2); (try clear hge); (try clear hk); (try clear hi)))
          go_loopg [16, 17] kj8 (fun kq v16 v17 w' => ∃ (x16_2 : Int) (x17_2 : Int) (x190000_2 : Int) (x190001_2 : Int) (x190002_2 : Int) (x190003_2 : Int) (x190004_2 : Int) (x197000_2 : Int) (x197001_2 : Int) (x197002_2 : Int) (x197003_2 : Int) (x197004_2 : Int), v16 = .int .i64 x16_2 ∧ v17 = .int .i64 x17_2 ∧ Aside0 (monocoquelaw30_BudgetMoves.l0 kq l3 l4 (wrap64 (Int.tmod a2 1073741824)) x16_2 x17_2 x190000_2 x190001_2 x190002_2 x190003_2 x190004_2 x197000_2 x197001_2 x197002_2 x197003_2 x197004_2 = some r) ∧ Aside0 (kq ≤ kj8) ∧ Aside0 (IsS84 w w' g189 x190000_2 x190001_2 x190002_2 x190003_2 x190004_2) ∧ Aside0 (IsS84 w w' g196 x197000_2 x197001_2 x197002_2 x197003_2 x197004_2) ∧ Aside0 (Below w.heap.size w w'))
          case atStart => exact ⟨(0), (0), (t184), (t185), (t186), (t187), (t188), (t198), (t199), (t200), (t201), (t202), (by first | rfl | (simp; done) | (simp [*]; done)), (by first | rfl | (simp; done) | (simp [*]; done)), H', ⟨Nat.le_refl _⟩, ⟨by repeat (first | (with_reducible first | exact HI189.out | apply IsS84.alloc | apply IsS84.drewN | apply IsS84.drew | apply IsS84.set_0 | apply IsS84.set_1 | apply IsS84.set_2 | apply IsS84.set_3 | apply IsS84.set_4) | exact HI189.out)⟩, ⟨by repeat (first | (with_reducible first | exact HI196.out | apply IsS84.alloc | apply IsS84.drewN | apply IsS84.drew | apply IsS84.set_0 | apply IsS84.set_1 | apply IsS84.set_2 | apply IsS84.set_3 | apply IsS84.set_4) | exact HI196.out)⟩, ⟨by repeat (first | (with_reducible first | exact HB.out | apply below_alloc | apply pw_below_drewN | apply below_drew1 | refine below_set ?_ (IsS84.ge HI189.out) | refine below_set ?_ (IsS84.ge HI196.out)) | exact HB.out)⟩⟩
          case round =>
            clear H'
            try clear c1
            try clear c2
            try clear p2
            try clear c3
            try clear c4
            try clear c5
            try clear c6
            try clear c6b0
            try clear c6b1
            try clear p6
            try clear c12
            try clear c12b0
            try clear c12b1
            try clear c13
            try clear c13b0
            try clear c13b1
            try clear c14
            try clear c15
            try clear p2
            try clear p6
            obtain ⟨x16_2, x17_2, x190000_2, x190001_2, x190002_2, x190003_2, x190004_2, x197000_2, x197001_2, x197002_2, x197003_2, x197004_2, rfl, rfl, HA, HK2, HI189, HI196, HB⟩ := hrel
            cases gk with
            | zero => exact absurd HA.out (by simp [monocoquelaw30_BudgetMoves.l0])
            | succ k2 =>
              have H := HA.out
              clear HA
              simp only [monocoquelaw30_BudgetMoves.l0] at H
              have HC17 := Aside0.mk H
              clear H
              go_upto_region 11 with (fail)
              go_cut [79] (fun v79 wc => ∃ (kq : Nat) (x79_16 : Bool), v79 = .bool x79_16 ∧ Aside0 (monocoquelaw30_BudgetMoves.j2 kq l3 l4 (wrap64 (Int.tmod a2 1073741824)) x16_2 x17_2 x79_16 x190000_2 x190001_2 x190002_2 x190003_2 x190004_2 x197000_2 x197001_2 x197002_2 x197003_2 x197004_2 = some r) ∧ Aside0 (kq ≤ k2) ∧ Aside0 (IsS84 w wc g189 x190000_2 x190001_2 x190002_2 x190003_2 x190004_2) ∧ Aside0 (IsS84 w wc g196 x197000_2 x197001_2 x197002_2 x197003_2 x197004_2) ∧ Aside0 (Below w.heap.size w wc))
              case first =>
                have H := HC17.out
                clear HC17
                by_cases c18 : x17_2 < (l3.length : Int)
                · rw [if_pos c18] at H
                  have c18b0 : decide (x17_2 < (l3.length : Int)) = true := decide_eq_true c18
                  clear c18
                  (first | rw [c18b0] | (simp only [i64_w, i32_w]; rw [c18b0]) | skip)
                  by_cases c19 : x17_2 < (l4.length : Int)
                  · rw [if_pos c19] at H
                    have c19b0 : decide (x17_2 < (l4.length : Int)) = true := decide_eq_true c19
                    clear c19
                    have H' := Aside0.mk H
                    clear H
                    go_wp2
                    go_meet
                    case rel => exact ⟨_, (decide (x17_2 < 40)), (by first | rfl | (simp; done) | (simp [*]; done)), H', ⟨by have := HJ8.out; have := HK2.out; first | omega | exact Nat.le_refl _⟩, ⟨by repeat (first | (with_reducible first | exact HI189.out | apply IsS84.alloc | apply IsS84.drewN | apply IsS84.drew | apply IsS84.set_0 | apply IsS84.set_1 | apply IsS84.set_2 | apply IsS84.set_3 | apply IsS84.set_4) | exact HI189.out)⟩, ⟨by repeat (first | (with_reducible first | exact HI196.out | apply IsS84.alloc | apply IsS84.drewN | apply IsS84.drew | apply IsS84.set_0 | apply IsS84.set_1 | apply IsS84.set_2 | apply IsS84.set_3 | apply IsS84.set_4) | exact HI196.out)⟩, ⟨by repeat (first | (with_reducible first | exact HB.out | apply below_alloc | apply pw_below_drewN | apply below_drew1 | refine below_set ?_ (IsS84.ge HI189.out) | refine below_set ?_ (IsS84.ge HI196.out)) | exact HB.out)⟩⟩
                  · rw [if_neg c19] at H
                    have c19b0 : decide (x17_2 < (l4.length : Int)) = false := decide_eq_false c19
                    clear c19
                    have H' := Aside0.mk H
                    clear H
                    go_wp2
                    go_meet
                    case rel => exact ⟨_, (false), (by first | rfl | (simp; done) | (simp [*]; done)), H', ⟨by have := HJ8.out; have := HK2.out; first | omega | exact Nat.le_refl _⟩, ⟨by repeat (first | (with_reducible first | exact HI189.out | apply IsS84.alloc | apply IsS84.drewN | apply IsS84.drew | apply IsS84.set_0 | apply IsS84.set_1 | apply IsS84.set_2 | apply IsS84.set_3 | apply IsS84.set_4) | exact HI189.out)⟩, ⟨by repeat (first | (with_reducible first | exact HI196.out | apply IsS84.alloc | apply IsS84.drewN | apply IsS84.drew | apply IsS84.set_0 | apply IsS84.set_1 | apply IsS84.set_2 | apply IsS84.set_3 | apply IsS84.set_4) | exact HI196.out)⟩, ⟨by repeat (first | (with_reducible first | exact HB.out | apply below_alloc | apply pw_below_drewN | apply below_drew1 | refine below_set ?_ (IsS84.ge HI189.out) | refine below_set ?_ (IsS84.ge HI196.out)) | exact HB.out)⟩⟩
                · rw [if_neg c18] at H
                  have c18b0 : decide (x17_2 < (l3.length : Int)) = false := decide_eq_false c18
                  clear c18
                  (first | rw [c18b0] | (simp only [i64_w, i32_w]; rw [c18b0]) | skip)
                  have H' := Aside0.mk H
                  clear H
                  go_wp2
                  go_meet
                  case rel => exact ⟨_, (false), (by first | rfl | (simp; done) | (simp [*]; done)), H', ⟨by have := HJ8.out; have := HK2.out; first | omega | exact Nat.le_refl _⟩, ⟨by repeat (first | (with_reducible first | exact HI189.out | apply IsS84.alloc | apply IsS84.drewN | apply IsS84.drew | apply IsS84.set_0 | apply IsS84.set_1 | apply IsS84.set_2 | apply IsS84.set_3 | apply IsS84.set_4) | exact HI189.out)⟩, ⟨by repeat (first | (with_reducible first | exact HI196.out | apply IsS84.alloc | apply IsS84.drewN | apply IsS84.drew | apply IsS84.set_0 | apply IsS84.set_1 | apply IsS84.set_2 | apply IsS84.set_3 | apply IsS84.set_4) | exact HI196.out)⟩, ⟨by repeat (first | (with_reducible first | exact HB.out | apply below_alloc | apply pw_below_drewN | apply below_drew1 | refine below_set ?_ (IsS84.ge HI189.out) | refine below_set ?_ (IsS84.ge HI196.out)) | exact HB.out)⟩⟩
              case rest =>
                clear HC17
                try clear c1
                try clear c2
                try clear p2
                try clear c3
                try clear c4
                try clear c5
                try clear c6
                try clear c6b0
                try clear c6b1
                try clear p6
                try clear c12
                try clear c12b0
                try clear c12b1
                try clear c13
                try clear c13b0
                try clear c13b1
                try clear c14
                try clear c15
                try clear c18
                try clear c18b0
                try clear c19
                try clear c19b0
                try clear p2
                try clear p6
                obtain ⟨kq, x79_16, rfl, HA, HJ16, HI189, HI196, HB⟩ := hcut
                cases kq with
                | zero => exact absurd HA.out (by simp [monocoquelaw30_BudgetMoves.j2])
                | succ kj16 =>
                  have H := HA.out
                  clear HA
                  simp only [monocoquelaw30_BudgetMoves.j2] at H
                  by_cases c20 : x79_16 = true
                  · subst c20
                    have H1 : (if 0 ≤ x17_2 then (if x17_2 < (l3.length : Int) then ((budget_Server_Left.f kj16 x190000_2 x190001_2 x190002_2 x190003_2 x190004_2 (wrap64 (x16_2 + (wrap64 (Int.tmod (rd l3 x17_2) 1000))))).bind fun bt217 => ((budget_Server_Left.f kj16 x197000_2 x197001_2 x197002_2 x197003_2 x197004_2 (wrap64 ((wrap64 (x16_2 + (wrap64 (Int.tmod (rd l3 x17_2) 1000)))) + (wrap64 (Int.tmod a2 1073741824))))).bind fun bt223 => (if bt217.1 = bt223.1 then ((budget_Server_Next.f bt217.2.1 bt217.2.2.1 bt217.2.2.2.1 bt217.2.2.2.2.1 bt217.2.2.2.2.2 (wrap64 (x16_2 + (wrap64 (Int.tmod (rd l3 x17_2) 1000))))).bind fun bt229 => ((budget_Server_Next.f bt223.2.1 bt223.2.2.1 bt223.2.2.2.1 bt223.2.2.2.2.1 bt223.2.2.2.2.2 (wrap64 ((wrap64 (x16_2 + (wrap64 (Int.tmod (rd l3 x17_2) 1000)))) + (wrap64 (Int.tmod a2 1073741824))))).bind fun bt235 => (monocoquelaw30_BudgetMoves.j3 kj16 l3 l4 (wrap64 (Int.tmod a2 1073741824)) (wrap64 (x16_2 + (wrap64 (Int.tmod (rd l3 x17_2) 1000)))) x17_2 ((wrap64 (bt229.1 + (wrap64 (Int.tmod a2 1073741824)))) != bt235.1) bt229.2.1 bt229.2.2.1 bt229.2.2.2.1 bt229.2.2.2.2.1 bt229.2.2.2.2.2 bt235.2.1 bt235.2.2.1 bt235.2.2.2.1 bt235.2.2.2.2.1 bt235.2.2.2.2.2))) else (monocoquelaw30_BudgetMoves.j3 kj16 l3 l4 (wrap64 (Int.tmod a2 1073741824)) (wrap64 (x16_2 + (wrap64 (Int.tmod (rd l3 x17_2) 1000)))) x17_2 true bt217.2.1 bt217.2.2.1 bt217.2.2.2.1 bt217.2.2.2.2.1 bt217.2.2.2.2.2 bt223.2.1 bt223.2.2.1 bt223.2.2.2.1 bt223.2.2.2.2.1 bt223.2.2.2.2.2)))) else (none)) else (none)) = some r := by rw [if_pos rfl] at H; exact H
                    clear H
                    have H := H1
                    clear H1
                    by_cases c21 : 0 ≤ x17_2
                    · rw [if_pos c21] at H
                      have c21b0 : decide (0 ≤ x17_2) = true := decide_eq_true c21
                      clear c21
                      by_cases c22 : x17_2 < (l3.length : Int)
                      · rw [if_pos c22] at H
                        have c22b0 : decide (x17_2 < (l3.length : Int)) = true := decide_eq_true c22
                        clear c22
                        have HC23 := Aside0.mk H
                        clear H
                        have p216 : 0 ≤ (x17_2 : Int) := of_decide_eq_true (by first | (with_reducible assumption) | assumption)
                        have q216 : x17_2 < (l3.length : Int) := of_decide_eq_true (by first | (with_reducible assumption) | assumption)
                        obtain ⟨ad216, e216, hx216_0⟩ := Kd.at_int HR3.out x17_2 p216 q216
                        cases e216
                        replace hx216_0 := (HB.out.cell (World.block_lt_of_cell? w _ hx216_0)).trans hx216_0
                        replace p216 := eq_true p216
                        replace q216 := eq_true q216
                        go_upto_region 14 with (fail)
                        go_cut [111] (fun v111 wc => ∃ (kq : Nat) (x111_22 : Bool) (x190000_22 : Int) (x190001_22 : Int) (x190002_22 : Int) (x190003_22 : Int) (x190004_22 : Int) (x197000_22 : Int) (x197001_22 : Int) (x197002_22 : Int) (x197003_22 : Int) (x197004_22 : Int), v111 = .bool x111_22 ∧ Aside0 (monocoquelaw30_BudgetMoves.j3 kq l3 l4 (wrap64 (Int.tmod a2 1073741824)) (wrap64 (x16_2 + (wrap64 (Int.tmod (rd l3 x17_2) 1000)))) x17_2 x111_22 x190000_22 x190001_22 x190002_22 x190003_22 x190004_22 x197000_22 x197001_22 x197002_22 x197003_22 x197004_22 = some r) ∧ Aside0 (kq ≤ kj16) ∧ Aside0 (IsS84 w wc g189 x190000_22 x190001_22 x190002_22 x190003_22 x190004_22) ∧ Aside0 (IsS84 w wc g196 x197000_22 x197001_22 x197002_22 x197003_22 x197004_22) ∧ Aside0 (Below w.heap.size w wc))
                        case first =>
                          have H := HC23.out
                          clear HC23
                          replace H := Option.bind_eq_some_iff.mp H
                          obtain ⟨⟨t217, t218, t219, t220, t221, t222⟩, A240, H⟩ := H
                          replace H : ((budget_Server_Left.f kj16 x197000_2 x197001_2 x197002_2 x197003_2 x197004_2 (wrap64 ((wrap64 (x16_2 + (wrap64 (Int.tmod (rd l3 x17_2) 1000)))) + (wrap64 (Int.tmod a2 1073741824))))).bind fun bt223 => (if t217 = bt223.1 then ((budget_Server_Next.f t218 t219 t220 t221 t222 (wrap64 (x16_2 + (wrap64 (Int.tmod (rd l3 x17_2) 1000))))).bind fun bt229 => ((budget_Server_Next.f bt223.2.1 bt223.2.2.1 bt223.2.2.2.1 bt223.2.2.2.2.1 bt223.2.2.2.2.2 (wrap64 ((wrap64 (x16_2 + (wrap64 (Int.tmod (rd l3 x17_2) 1000)))) + (wrap64 (Int.tmod a2 1073741824))))).bind fun bt235 => (monocoquelaw30_BudgetMoves.j3 kj16 l3 l4 (wrap64 (Int.tmod a2 1073741824)) (wrap64 (x16_2 + (wrap64 (Int.tmod (rd l3 x17_2) 1000)))) x17_2 ((wrap64 (bt229.1 + (wrap64 (Int.tmod a2 1073741824)))) != bt235.1) bt229.2.1 bt229.2.2.1 bt229.2.2.2.1 bt229.2.2.2.2.1 bt229.2.2.2.2.2 bt235.2.1 bt235.2.2.1 bt235.2.2.2.1 bt235.2.2.2.2.1 bt235.2.2.2.2.2))) else (monocoquelaw30_BudgetMoves.j3 kj16 l3 l4 (wrap64 (Int.tmod a2 1073741824)) (wrap64 (x16_2 + (wrap64 (Int.tmod (rd l3 x17_2) 1000)))) x17_2 true t218 t219 t220 t221 t222 bt223.2.1 bt223.2.2.1 bt223.2.2.2.1 bt223.2.2.2.2.1 bt223.2.2.2.2.2))) = some r := H
                          have A24 := Aside0.mk A240
                          clear A240
                          replace H := Option.bind_eq_some_iff.mp H
                          obtain ⟨⟨t223, t224, t225, t226, t227, t228⟩, A250, H⟩ := H
                          replace H : (if t217 = t223 then ((budget_Server_Next.f t218 t219 t220 t221 t222 (wrap64 (x16_2 + (wrap64 (Int.tmod (rd l3 x17_2) 1000))))).bind fun bt229 => ((budget_Server_Next.f t224 t225 t226 t227 t228 (wrap64 ((wrap64 (x16_2 + (wrap64 (Int.tmod (rd l3 x17_2) 1000)))) + (wrap64 (Int.tmod a2 1073741824))))).bind fun bt235 => (monocoquelaw30_BudgetMoves.j3 kj16 l3 l4 (wrap64 (Int.tmod a2 1073741824)) (wrap64 (x16_2 + (wrap64 (Int.tmod (rd l3 x17_2) 1000)))) x17_2 ((wrap64 (bt229.1 + (wrap64 (Int.tmod a2 1073741824)))) != bt235.1) bt229.2.1 bt229.2.2.1 bt229.2.2.2.1 bt229.2.2.2.2.1 bt229.2.2.2.2.2 bt235.2.1 bt235.2.2.1 bt235.2.2.2.1 bt235.2.2.2.2.1 bt235.2.2.2.2.2))) else (monocoquelaw30_BudgetMoves.j3 kj16 l3 l4 (wrap64 (Int.tmod a2 1073741824)) (wrap64 (x16_2 + (wrap64 (Int.tmod (rd l3 x17_2) 1000)))) x17_2 true t218 t219 t220 t221 t222 t224 t225 t226 t227 t228)) = some r := H
                          have A25 := Aside0.mk A250
                          clear A250
                          by_cases c26 : t217 = t223
                          · rw [if_pos c26] at H
                            have c26b0 : (t217 == t223) = true := beq_iff_eq.mpr c26
                            have c26b1 : (t217 != t223) = false := bne_eq_false_iff_eq.mpr c26
                            clear c26
                            (first | rw [c26b0] | (simp only [i64_w, i32_w]; rw [c26b0]) | skip)
                            replace H := Option.bind_eq_some_iff.mp H
                            obtain ⟨⟨t229, t230, t231, t232, t233, t234⟩, A270, H⟩ := H
                            replace H : ((budget_Server_Next.f t224 t225 t226 t227 t228 (wrap64 ((wrap64 (x16_2 + (wrap64 (Int.tmod (rd l3 x17_2) 1000)))) + (wrap64 (Int.tmod a2 1073741824))))).bind fun bt235 => (monocoquelaw30_BudgetMoves.j3 kj16 l3 l4 (wrap64 (Int.tmod a2 1073741824)) (wrap64 (x16_2 + (wrap64 (Int.tmod (rd l3 x17_2) 1000)))) x17_2 ((wrap64 (t229 + (wrap64 (Int.tmod a2 1073741824)))) != bt235.1) t230 t231 t232 t233 t234 bt235.2.1 bt235.2.2.1 bt235.2.2.2.1 bt235.2.2.2.2.1 bt235.2.2.2.2.2)) = some r := H
                            have A27 := Aside0.mk A270
                            clear A270
                            replace H := Option.bind_eq_some_iff.mp H
                            obtain ⟨⟨t235, t236, t237, t238, t239, t240⟩, A280, H⟩ := H
                            replace H : (monocoquelaw30_BudgetMoves.j3 kj16 l3 l4 (wrap64 (Int.tmod a2 1073741824)) (wrap64 (x16_2 + (wrap64 (Int.tmod (rd l3 x17_2) 1000)))) x17_2 ((wrap64 (t229 + (wrap64 (Int.tmod a2 1073741824)))) != t235) t230 t231 t232 t233 t234 t236 t237 t238 t239 t240) = some r := H
                            have A28 := Aside0.mk A280
                            clear A280
                            have H' := Aside0.mk H
                            clear H
                            go_wp2_with (first | ((with_reducible refine gate_callee (f := 18) rfl ?_); refine goesL_ (some 92) rfl rfl Try.func18 (by kernel_rfl) rfl #[.pointer (some ⟨g189, 0, none⟩), .int .i64 (wrap64 (x16_2 + (wrap64 (Int.tmod (rd l3 x17_2) 1000))))] rfl (by (try simp only [List.map_toArray, List.map_cons, List.map_nil]); first | done | rfl | (simp only [List.length_drop, List.length_take]; rfl)) ?_; (with_reducible refine (budget_Server_Left.calls kj16 g189 x190000_2 x190001_2 x190002_2 x190003_2 x190004_2 (wrap64 (x16_2 + (wrap64 (Int.tmod (rd l3 x17_2) 1000)))) t217 t218 t219 t220 t221 t222 w _ ?side1 ?side2 A24.out).mono ?_); (case side1 => repeat (first | (with_reducible first | exact HI189.out | apply IsS84.alloc | apply IsS84.drewN | apply IsS84.drew | apply IsS84.set_0 | apply IsS84.set_1 | apply IsS84.set_2 | apply IsS84.set_3 | apply IsS84.set_4) | exact HI189.out)); (case side2 => repeat (first | (with_reducible first | exact HB.out | apply below_alloc | apply pw_below_drewN | apply below_drew1 | refine below_set ?_ (IsS84.ge HI189.out) | refine below_set ?_ (IsS84.ge HI196.out)) | exact HB.out)); rintro e w29 ⟨rfl, hi, hb, hk⟩; refine ⟨_, rfl, ?_⟩; have n0_ := Aside0.mk (IsS84.other (show IsS84 w _ g196 x197000_2 x197001_2 x197002_2 x197003_2 x197004_2 from by repeat (first | (with_reducible first | exact HI196.out | apply IsS84.alloc | apply IsS84.drewN | apply IsS84.drew | apply IsS84.set_0 | apply IsS84.set_1 | apply IsS84.set_2 | apply IsS84.set_3 | apply IsS84.set_4) | exact HI196.out)) hk NS196_189.out); have n1_ := Aside0.mk (hb); have n2_ := Aside0.mk (hi); clear HI196; clear HB; clear HI189; have HI196 := n0_; have HB := n1_; have HI189 := n2_; clear n0_ n1_ n2_; (try clear hb); (try clear hb2); (try clear hge); (try clear hk); (try clear hi)) | ((with_reducible refine gate_callee (f := 18) rfl ?_); refine goesL_ (some 97) rfl rfl Try.func18 (by kernel_rfl) rfl #[.pointer (some ⟨g196, 0, none⟩), .int .i64 (wrap64 ((wrap64 (x16_2 + (wrap64 (Int.tmod (rd l3 x17_2) 1000)))) + (wrap64 (Int.tmod a2 1073741824))))] rfl (by (try simp only [List.map_toArray, List.map_cons, List.map_nil]); first | done | rfl | (simp only [List.length_drop, List.length_take]; rfl)) ?_; (with_reducible refine (budget_Server_Left.calls kj16 g196 x197000_2 x197001_2 x197002_2 x197003_2 x197004_2 (wrap64 ((wrap64 (x16_2 + (wrap64 (Int.tmod (rd l3 x17_2) 1000)))) + (wrap64 (Int.tmod a2 1073741824)))) t223 t224 t225 t226 t227 t228 w _ ?side1 ?side2 A25.out).mono ?_); (case side1 => repeat (first | (with_reducible first | exact HI196.out | apply IsS84.alloc | apply IsS84.drewN | apply IsS84.drew | apply IsS84.set_0 | apply IsS84.set_1 | apply IsS84.set_2 | apply IsS84.set_3 | apply IsS84.set_4) | exact HI196.out)); (case side2 => repeat (first | (with_reducible first | exact HB.out | apply below_alloc | apply pw_below_drewN | apply below_drew1 | refine below_set ?_ (IsS84.ge HI189.out) | refine below_set ?_ (IsS84.ge HI196.out)) | exact HB.out)); rintro e w30 ⟨rfl, hi, hb, hk⟩; refine ⟨_, rfl, ?_⟩; have n0_ := Aside0.mk (IsS84.other (show IsS84 w _ g189 t218 t219 t220 t221 t222 from by repeat (first | (with_reducible first | exact HI189.out | apply IsS84.alloc | apply IsS84.drewN | apply IsS84.drew | apply IsS84.set_0 | apply IsS84.set_1 | apply IsS84.set_2 | apply IsS84.set_3 | apply IsS84.set_4) | exact HI189.out)) hk NS189_196.out); have n1_ := Aside0.mk (hb); have n2_ := Aside0.mk (hi); clear HI189; clear HB; clear HI196; have HI189 := n0_; have HB := n1_; have HI196 := n2_; clear n0_ n1_ n2_; (try clear hb); (try clear hb2); (try clear hge); (try clear hk); (try clear hi)) | (go_at_call 17; (with_reducible refine (budget_Server_Next.calls g189 t218 t219 t220 t221 t222 (wrap64 (x16_2 + (wrap64 (Int.tmod (rd l3 x17_2) 1000)))) t229 t230 t231 t232 t233 t234 w _ ?side1 ?side2 A27.out).mono ?_); (case side1 => repeat (first | (with_reducible first | exact HI189.out | apply IsS84.alloc | apply IsS84.drewN | apply IsS84.drew | apply IsS84.set_0 | apply IsS84.set_1 | apply IsS84.set_2 | apply IsS84.set_3 | apply IsS84.set_4) | exact HI189.out)); (case side2 => repeat (first | (with_reducible first | exact HB.out | apply below_alloc | apply pw_below_drewN | apply below_drew1 | refine below_set ?_ (IsS84.ge HI189.out) | refine below_set ?_ (IsS84.ge HI196.out)) | exact HB.out)); rintro e w31 ⟨rfl, hi, hb, hk⟩; have n0_ := Aside0.mk (IsS84.other (show IsS84 w _ g196 t224 t225 t226 t227 t228 from by repeat (first | (with_reducible first | exact HI196.out | apply IsS84.alloc | apply IsS84.drewN | apply IsS84.drew | apply IsS84.set_0 | apply IsS84.set_1 | apply IsS84.set_2 | apply IsS84.set_3 | apply IsS84.set_4) | exact HI196.out)) hk NS196_189.out); have n1_ := Aside0.mk (hb); have n2_ := Aside0.mk (hi); clear HI196; clear HB; clear HI189; have HI196 := n0_; have HB := n1_; have HI189 := n2_; clear n0_ n1_ n2_; (try clear hb); (try clear hb2); (try clear hge); (try clear hk); (try clear hi)) | (go_at_call 17; (with_reducible refine (budget_Server_Next.calls g196 t224 t225 t226 t227 t228 (wrap64 ((wrap64 (x16_2 + (wrap64 (Int.tmod (rd l3 x17_2) 1000)))) + (wrap64 (Int.tmod a2 1073741824)))) t235 t236 t237 t238 t239 t240 w _ ?side1 ?side2 A28.out).mono ?_); (case side1 => repeat (first | (with_reducible first | exact HI196.out | apply IsS84.alloc | apply IsS84.drewN | apply IsS84.drew | apply IsS84.set_0 | apply IsS84.set_1 | apply IsS84.set_2 | apply IsS84.set_3 | apply IsS84.set_4) | exact HI196.out)); (case side2 => repeat (first | (with_reducible first | exact HB.out | apply below_alloc | apply pw_below_drewN | apply below_drew1 | refine below_set ?_ (IsS84.ge HI189.out) | refine below_set ?_ (IsS84.ge HI196.out)) | exact HB.out)); rintro e w32 ⟨rfl, hi, hb, hk⟩; have n0_ := Aside0.mk (IsS84.other (show IsS84 w _ g189 t230 t231 t232 t233 t234 from by repeat (first | (with_reducible first | exact HI189.out | apply IsS84.alloc | apply IsS84.drewN | apply IsS84.drew | apply IsS84.set_0 | apply IsS84.set_1 | apply IsS84.set_2 | apply IsS84.set_3 | apply IsS84.set_4) | exact HI189.out)) hk NS189_196.out); have n1_ := Aside0.mk (hb); have n2_ := Aside0.mk (hi); clear HI189; clear HB; clear HI196; have HI189 := n0_; have HB := n1_; have HI196 := n2_; clear n0_ n1_ n2_; (try clear hb); (try clear hb2); (try clear hge); (try clear hk); (try clear hi)))
                            go_meet
                            case rel => exact ⟨_, (((wrap64 (t229 + (wrap64 (Int.tmod a2 1073741824)))) != t235)), (t230), (t231), (t232), (t233), (t234), (t236), (t237), (t238), (t239), (t240), (by first | rfl | (simp; done) | (simp [*]; done)), H', ⟨by have := HJ8.out; have := HK2.out; have := HJ16.out; first | omega | exact Nat.le_refl _⟩, ⟨by repeat (first | (with_reducible first | exact HI189.out | apply IsS84.alloc | apply IsS84.drewN | apply IsS84.drew | apply IsS84.set_0 | apply IsS84.set_1 | apply IsS84.set_2 | apply IsS84.set_3 | apply IsS84.set_4) | exact HI189.out)⟩, ⟨by repeat (first | (with_reducible first | exact HI196.out | apply IsS84.alloc | apply IsS84.drewN | apply IsS84.drew | apply IsS84.set_0 | apply IsS84.set_1 | apply IsS84.set_2 | apply IsS84.set_3 | apply IsS84.set_4) | exact HI196.out)⟩, ⟨by repeat (first | (with_reducible first | exact HB.out | apply below_alloc | apply pw_below_drewN | apply below_drew1 | refine below_set ?_ (IsS84.ge HI189.out) | refine below_set ?_ (IsS84.ge HI196.out)) | exact HB.out)⟩⟩
                          · rw [if_neg c26] at H
                            have c26b0 : (t217 == t223) = false := beq_eq_false_iff_ne.mpr c26
                            have c26b1 : (t217 != t223) = true := bne_iff_ne.mpr c26
                            (first | rw [c26b0] | (simp only [i64_w, i32_w]; rw [c26b0]) | skip)
                            have H' := Aside0.mk H
                            clear H
                            go_wp2_with (first | ((with_reducible refine gate_callee (f := 18) rfl ?_); refine goesL_ (some 92) rfl rfl Try.func18 (by kernel_rfl) rfl #[.pointer (some ⟨g189, 0, none⟩), .int .i64 (wrap64 (x16_2 + (wrap64 (Int.tmod (rd l3 x17_2) 1000))))] rfl (by (try simp only [List.map_toArray, List.map_cons, List.map_nil]); first | done | rfl | (simp only [List.length_drop, List.length_take]; rfl)) ?_; (with_reducible refine (budget_Server_Left.calls kj16 g189 x190000_2 x190001_2 x190002_2 x190003_2 x190004_2 (wrap64 (x16_2 + (wrap64 (Int.tmod (rd l3 x17_2) 1000)))) t217 t218 t219 t220 t221 t222 w _ ?side1 ?side2 A24.out).mono ?_); (case side1 => repeat (first | (with_reducible first | exact HI189.out | apply IsS84.alloc | apply IsS84.drewN | apply IsS84.drew | apply IsS84.set_0 | apply IsS84.set_1 | apply IsS84.set_2 | apply IsS84.set_3 | apply IsS84.set_4) | exact HI189.out)); (case side2 => repeat (first | (with_reducible first | exact HB.out | apply below_alloc | apply pw_below_drewN | apply below_drew1 | refine below_set ?_ (IsS84.ge HI189.out) | refine below_set ?_ (IsS84.ge HI196.out)) | exact HB.out)); rintro e w33 ⟨rfl, hi, hb, hk⟩; refine ⟨_, rfl, ?_⟩; have n0_ := Aside0.mk (IsS84.other (show IsS84 w _ g196 x197000_2 x197001_2 x197002_2 x197003_2 x197004_2 from by repeat (first | (with_reducible first | exact HI196.out | apply IsS84.alloc | apply IsS84.drewN | apply IsS84.drew | apply IsS84.set_0 | apply IsS84.set_1 | apply IsS84.set_2 | apply IsS84.set_3 | apply IsS84.set_4) | exact HI196.out)) hk NS196_189.out); have n1_ := Aside0.mk (hb); have n2_ := Aside0.mk (hi); clear HI196; clear HB; clear HI189; have HI196 := n0_; have HB := n1_; have HI189 := n2_; clear n0_ n1_ n2_; (try clear hb); (try clear hb2); (try clear hge); (try clear hk); (try clear hi)) | ((with_reducible refine gate_callee (f := 18) rfl ?_); refine goesL_ (some 97) rfl rfl Try.func18 (by kernel_rfl) rfl #[.pointer (some ⟨g196, 0, none⟩), .int .i64 (wrap64 ((wrap64 (x16_2 + (wrap64 (Int.tmod (rd l3 x17_2) 1000)))) + (wrap64 (Int.tmod a2 1073741824))))] rfl (by (try simp only [List.map_toArray, List.map_cons, List.map_nil]); first | done | rfl | (simp only [List.length_drop, List.length_take]; rfl)) ?_; (with_reducible refine (budget_Server_Left.calls kj16 g196 x197000_2 x197001_2 x197002_2 x197003_2 x197004_2 (wrap64 ((wrap64 (x16_2 + (wrap64 (Int.tmod (rd l3 x17_2) 1000)))) + (wrap64 (Int.tmod a2 1073741824)))) t223 t224 t225 t226 t227 t228 w _ ?side1 ?side2 A25.out).mono ?_); (case side1 => repeat (first | (with_reducible first | exact HI196.out | apply IsS84.alloc | apply IsS84.drewN | apply IsS84.drew | apply IsS84.set_0 | apply IsS84.set_1 | apply IsS84.set_2 | apply IsS84.set_3 | apply IsS84.set_4) | exact HI196.out)); (case side2 => repeat (first | (with_reducible first | exact HB.out | apply below_alloc | apply pw_below_drewN | apply below_drew1 | refine below_set ?_ (IsS84.ge HI189.out) | refine below_set ?_ (IsS84.ge HI196.out)) | exact HB.out)); rintro e w34 ⟨rfl, hi, hb, hk⟩; refine ⟨_, rfl, ?_⟩; have n0_ := Aside0.mk (IsS84.other (show IsS84 w _ g189 t218 t219 t220 t221 t222 from by repeat (first | (with_reducible first | exact HI189.out | apply IsS84.alloc | apply IsS84.drewN | apply IsS84.drew | apply IsS84.set_0 | apply IsS84.set_1 | apply IsS84.set_2 | apply IsS84.set_3 | apply IsS84.set_4) | exact HI189.out)) hk NS189_196.out); have n1_ := Aside0.mk (hb); have n2_ := Aside0.mk (hi); clear HI189; clear HB; clear HI196; have HI189 := n0_; have HB := n1_; have HI196 := n2_; clear n0_ n1_ n2_; (try clear hb); (try clear hb2); (try clear hge); (try clear hk); (try clear hi)))
                            go_meet
                            case rel => exact ⟨_, (true), (t218), (t219), (t220), (t221), (t222), (t224), (t225), (t226), (t227), (t228), (by first | rfl | (simp; done) | (simp [*]; done)), H', ⟨by have := HJ8.out; have := HK2.out; have := HJ16.out; first | omega | exact Nat.le_refl _⟩, ⟨by repeat (first | (with_reducible first | exact HI189.out | apply IsS84.alloc | apply IsS84.drewN | apply IsS84.drew | apply IsS84.set_0 | apply IsS84.set_1 | apply IsS84.set_2 | apply IsS84.set_3 | apply IsS84.set_4) | exact HI189.out)⟩, ⟨by repeat (first | (with_reducible first | exact HI196.out | apply IsS84.alloc | apply IsS84.drewN | apply IsS84.drew | apply IsS84.set_0 | apply IsS84.set_1 | apply IsS84.set_2 | apply IsS84.set_3 | apply IsS84.set_4) | exact HI196.out)⟩, ⟨by repeat (first | (with_reducible first | exact HB.out | apply below_alloc | apply pw_below_drewN | apply below_drew1 | refine below_set ?_ (IsS84.ge HI189.out) | refine below_set ?_ (IsS84.ge HI196.out)) | exact HB.out)⟩⟩
                        case rest =>
                          clear HC23
                          try clear c1
                          try clear c2
                          try clear p2
                          try clear q2
                          try clear hx2
                          try clear c3
                          try clear c4
                          try clear c5
                          try clear c6
                          try clear c6b0
                          try clear c6b1
                          try clear p6
                          try clear c12
                          try clear c12b0
                          try clear c12b1
                          try clear c13
                          try clear c13b0
                          try clear c13b1
                          try clear c14
                          try clear c15
                          try clear c18
                          try clear c18b0
                          try clear c19
                          try clear c19b0
                          try clear c20
                          try clear c21
                          try clear c21b0
                          try clear p21
                          try clear q21
                          try clear hx21
                          try clear c22
                          try clear c22b0
                          try clear c26
                          try clear c26b0
                          try clear c26b1
                          try clear hx216_0
                          try clear p2
                          try clear p216
                          try clear p6
                          try clear q216
                          obtain ⟨kq, x111_22, x190000_22, x190001_22, x190002_22, x190003_22, x190004_22, x197000_22, x197001_22, x197002_22, x197003_22, x197004_22, rfl, HA, HJ22, HI189, HI196, HB⟩ := hcut
                          cases kq with
                          | zero => exact absurd HA.out (by simp [monocoquelaw30_BudgetMoves.j3])
                          | succ kj22 =>
                            have H := HA.out
                            clear HA
                            simp only [monocoquelaw30_BudgetMoves.j3] at H
                            by_cases c35 : x111_22 = true
                            · subst c35
                              have H1 : (some false) = some r := by rw [if_pos rfl] at H; exact H
                              clear H
                              have H := H1
                              clear H1
                              obtain rfl := Option.some.inj H
                              go_wp2
                              go_ret
                              exact ⟨by first | rfl | (simp [errW_none, errW_some] <;> rfl) | (simp [*, errW_none, errW_some] <;> rfl), by repeat (first | (with_reducible first | exact HB.out | apply below_alloc | apply pw_below_drewN | apply below_drew1 | refine below_set ?_ (IsS84.ge HI189.out) | refine below_set ?_ (IsS84.ge HI196.out)) | exact HB.out)⟩
                            · replace c35 := Bool.eq_false_iff.mpr c35
                              subst c35
                              have H1 : (if 0 ≤ x17_2 then (if x17_2 < (l4.length : Int) then ((budget_Server_Charge.f kj22 x190000_22 x190001_22 x190002_22 x190003_22 x190004_22 (wrap64 (x16_2 + (wrap64 (Int.tmod (rd l3 x17_2) 1000)))) (rd l4 x17_2)).bind fun bt242 => ((budget_Server_Charge.f kj22 x197000_22 x197001_22 x197002_22 x197003_22 x197004_22 (wrap64 ((wrap64 (x16_2 + (wrap64 (Int.tmod (rd l3 x17_2) 1000)))) + (wrap64 (Int.tmod a2 1073741824)))) (rd l4 x17_2)).bind fun bt250 => (if bt242.1 = bt250.1 then (if (bt242.2.1 != bt250.2.1) = true then (some false) else (monocoquelaw30_BudgetMoves.l0 kj22 l3 l4 (wrap64 (Int.tmod a2 1073741824)) (wrap64 (x16_2 + (wrap64 (Int.tmod (rd l3 x17_2) 1000)))) (wrap64 (x17_2 + 1)) bt242.2.2.1 bt242.2.2.2.1 bt242.2.2.2.2.1 bt242.2.2.2.2.2.1 bt242.2.2.2.2.2.2 bt250.2.2.1 bt250.2.2.2.1 bt250.2.2.2.2.1 bt250.2.2.2.2.2.1 bt250.2.2.2.2.2.2)) else (some false)))) else (none)) else (none)) = some r := by rw [if_neg (show ¬ (false = true) by decide)] at H; exact H
                              clear H
                              have H := H1
                              clear H1
                              by_cases c36 : 0 ≤ x17_2
                              · rw [if_pos c36] at H
                                have c36b0 : decide (0 ≤ x17_2) = true := decide_eq_true c36
                                clear c36
                                by_cases c37 : x17_2 < (l4.length : Int)
                                · rw [if_pos c37] at H
                                  have c37b0 : decide (x17_2 < (l4.length : Int)) = true := decide_eq_true c37
                                  clear c37
                                  replace H := Option.bind_eq_some_iff.mp H
                                  obtain ⟨⟨t242, t243, t244, t245, t246, t247, t248⟩, A380, H⟩ := H
                                  replace H : ((budget_Server_Charge.f kj22 x197000_22 x197001_22 x197002_22 x197003_22 x197004_22 (wrap64 ((wrap64 (x16_2 + (wrap64 (Int.tmod (rd l3 x17_2) 1000)))) + (wrap64 (Int.tmod a2 1073741824)))) (rd l4 x17_2)).bind fun bt250 => (if t242 = bt250.1 then (if (t243 != bt250.2.1) = true then (some false) else (monocoquelaw30_BudgetMoves.l0 kj22 l3 l4 (wrap64 (Int.tmod a2 1073741824)) (wrap64 (x16_2 + (wrap64 (Int.tmod (rd l3 x17_2) 1000)))) (wrap64 (x17_2 + 1)) t244 t245 t246 t247 t248 bt250.2.2.1 bt250.2.2.2.1 bt250.2.2.2.2.1 bt250.2.2.2.2.2.1 bt250.2.2.2.2.2.2)) else (some false))) = some r := H
                                  have A38 := Aside0.mk A380
                                  clear A380
                                  replace H := Option.bind_eq_some_iff.mp H
                                  obtain ⟨⟨t250, t251, t252, t253, t254, t255, t256⟩, A390, H⟩ := H
                                  replace H : (if t242 = t250 then (if (t243 != t251) = true then (some false) else (monocoquelaw30_BudgetMoves.l0 kj22 l3 l4 (wrap64 (Int.tmod a2 1073741824)) (wrap64 (x16_2 + (wrap64 (Int.tmod (rd l3 x17_2) 1000)))) (wrap64 (x17_2 + 1)) t244 t245 t246 t247 t248 t252 t253 t254 t255 t256)) else (some false)) = some r := H
                                  have A39 := Aside0.mk A390
                                  clear A390
                                  by_cases c40 : t242 = t250
                                  · rw [if_pos c40] at H
                                    have c40b0 : (t242 == t250) = true := beq_iff_eq.mpr c40
                                    have c40b1 : (t242 != t250) = false := bne_eq_false_iff_eq.mpr c40
                                    clear c40
                                    by_cases c41 : (t243 != t251) = true
                                    · rw [if_pos c41] at H
                                      have c41b0 : (t243 != t251) = true := c41
                                      (try (have c41b1 : decide (t243 = t251) = false := by simpa using c41))
                                      (try (have c41b2 : (t243 == t251) = false := by simpa using c41))
                                      (try (have c41b3 : ¬ (t243 = t251) := by simpa using c41))
                                      clear c41
                                      obtain rfl := Option.some.inj H
                                      have p241 : 0 ≤ (x17_2 : Int) := of_decide_eq_true (by first | (with_reducible assumption) | assumption)
                                      have q241 : x17_2 < (l4.length : Int) := of_decide_eq_true (by first | (with_reducible assumption) | assumption)
                                      obtain ⟨ad241, e241, hx241_0⟩ := Kd.at_int HR4.out x17_2 p241 q241
                                      cases e241
                                      replace hx241_0 := (HB.out.cell (World.block_lt_of_cell? w _ hx241_0)).trans hx241_0
                                      replace p241 := eq_true p241
                                      replace q241 := eq_true q241
                                      go_wp2_with (first | ((with_reducible refine gate_callee (f := 16) rfl ?_); refine goesL_ (some 119) rfl rfl Try.func16 (by kernel_rfl) rfl #[.pointer (some ⟨g189, 0, none⟩), .int .i64 (wrap64 (x16_2 + (wrap64 (Int.tmod (rd l3 x17_2) 1000)))), .int .i64 (rd l4 x17_2)] rfl (by (try simp only [List.map_toArray, List.map_cons, List.map_nil]); first | done | rfl | (simp only [List.length_drop, List.length_take]; rfl)) ?_; (with_reducible refine (budget_Server_Charge.calls kj22 g189 x190000_22 x190001_22 x190002_22 x190003_22 x190004_22 (wrap64 (x16_2 + (wrap64 (Int.tmod (rd l3 x17_2) 1000)))) (rd l4 x17_2) t242 t243 t244 t245 t246 t247 t248 w _ ?side1 ?side2 A38.out).mono ?_); (case side1 => repeat (first | (with_reducible first | exact HI189.out | apply IsS84.alloc | apply IsS84.drewN | apply IsS84.drew | apply IsS84.set_0 | apply IsS84.set_1 | apply IsS84.set_2 | apply IsS84.set_3 | apply IsS84.set_4) | exact HI189.out)); (case side2 => repeat (first | (with_reducible first | exact HB.out | apply below_alloc | apply pw_below_drewN | apply below_drew1 | refine below_set ?_ (IsS84.ge HI189.out) | refine below_set ?_ (IsS84.ge HI196.out)) | exact HB.out)); rintro e w42 ⟨rfl, hi, hb, hk⟩; refine ⟨_, rfl, ?_⟩; have n0_ := Aside0.mk (IsS84.other (show IsS84 w _ g196 x197000_22 x197001_22 x197002_22 x197003_22 x197004_22 from by repeat (first | (with_reducible first | exact HI196.out | apply IsS84.alloc | apply IsS84.drewN | apply IsS84.drew | apply IsS84.set_0 | apply IsS84.set_1 | apply IsS84.set_2 | apply IsS84.set_3 | apply IsS84.set_4) | exact HI196.out)) hk NS196_189.out); have n1_ := Aside0.mk (hb); have n2_ := Aside0.mk (hi); clear HI196; clear HB; clear HI189; have HI196 := n0_; have HB := n1_; have HI189 := n2_; clear n0_ n1_ n2_; (try clear hb); (try clear hb2); (try clear hge); (try clear hk); (try clear hi); have p249 : 0 ≤ (x17_2 : Int) := of_decide_eq_true (by first | (with_reducible assumption) | assumption); have q249 : x17_2 < (l4.length : Int) := of_decide_eq_true (by first | (with_reducible assumption) | assumption); obtain ⟨ad249, e249, hx249_0⟩ := Kd.at_int HR4.out x17_2 p249 q249; obtain rfl : ad241 = ad249 := (by injection e249); replace hx249_0 := (HB.out.cell (World.block_lt_of_cell? w _ hx249_0)).trans hx249_0; replace p249 := eq_true p249; replace q249 := eq_true q249) | ((with_reducible refine gate_callee (f := 16) rfl ?_); refine goesL_ (some 131) rfl rfl Try.func16 (by kernel_rfl) rfl #[.pointer (some ⟨g196, 0, none⟩), .int .i64 (wrap64 ((wrap64 (x16_2 + (wrap64 (Int.tmod (rd l3 x17_2) 1000)))) + (wrap64 (Int.tmod a2 1073741824)))), .int .i64 (rd l4 x17_2)] rfl (by (try simp only [List.map_toArray, List.map_cons, List.map_nil]); first | done | rfl | (simp only [List.length_drop, List.length_take]; rfl)) ?_; (with_reducible refine (budget_Server_Charge.calls kj22 g196 x197000_22 x197001_22 x197002_22 x197003_22 x197004_22 (wrap64 ((wrap64 (x16_2 + (wrap64 (Int.tmod (rd l3 x17_2) 1000)))) + (wrap64 (Int.tmod a2 1073741824)))) (rd l4 x17_2) t250 t251 t252 t253 t254 t255 t256 w _ ?side1 ?side2 A39.out).mono ?_); (case side1 => repeat (first | (with_reducible first | exact HI196.out | apply IsS84.alloc | apply IsS84.drewN | apply IsS84.drew | apply IsS84.set_0 | apply IsS84.set_1 | apply IsS84.set_2 | apply IsS84.set_3 | apply IsS84.set_4) | exact HI196.out)); (case side2 => repeat (first | (with_reducible first | exact HB.out | apply below_alloc | apply pw_below_drewN | apply below_drew1 | refine below_set ?_ (IsS84.ge HI189.out) | refine below_set ?_ (IsS84.ge HI196.out)) | exact HB.out)); rintro e w43 ⟨rfl, hi, hb, hk⟩; refine ⟨_, rfl, ?_⟩; have n0_ := Aside0.mk (IsS84.other (show IsS84 w _ g189 t244 t245 t246 t247 t248 from by repeat (first | (with_reducible first | exact HI189.out | apply IsS84.alloc | apply IsS84.drewN | apply IsS84.drew | apply IsS84.set_0 | apply IsS84.set_1 | apply IsS84.set_2 | apply IsS84.set_3 | apply IsS84.set_4) | exact HI189.out)) hk NS189_196.out); have n1_ := Aside0.mk (hb); have n2_ := Aside0.mk (hi); clear HI189; clear HB; clear HI196; have HI189 := n0_; have HB := n1_; have HI196 := n2_; clear n0_ n1_ n2_; (try clear hb); (try clear hb2); (try clear hge); (try clear hk); (try clear hi)))
                                      go_ret
                                      exact ⟨by first | rfl | (simp [errW_none, errW_some] <;> rfl) | (simp [*, errW_none, errW_some] <;> rfl), by repeat (first | (with_reducible first | exact HB.out | apply below_alloc | apply pw_below_drewN | apply below_drew1 | refine below_set ?_ (IsS84.ge HI189.out) | refine below_set ?_ (IsS84.ge HI196.out)) | exact HB.out)⟩
                                    · rw [if_neg c41] at H
                                      have c41b0 : (t243 != t251) = false := by simpa using c41
                                      (try (have c41b1 : decide (t243 = t251) = true := by simpa using c41))
                                      (try (have c41b2 : (t243 == t251) = true := by simpa using c41))
                                      clear c41
                                      have H' := Aside0.mk H
                                      clear H
                                      have p241 : 0 ≤ (x17_2 : Int) := of_decide_eq_true (by first | (with_reducible assumption) | assumption)
                                      have q241 : x17_2 < (l4.length : Int) := of_decide_eq_true (by first | (with_reducible assumption) | assumption)
                                      obtain ⟨ad241, e241, hx241_0⟩ := Kd.at_int HR4.out x17_2 p241 q241
                                      cases e241
                                      replace hx241_0 := (HB.out.cell (World.block_lt_of_cell? w _ hx241_0)).trans hx241_0
                                      replace p241 := eq_true p241
                                      replace q241 := eq_true q241
                                      go_wp2_with (first | ((with_reducible refine gate_callee (f := 16) rfl ?_); refine goesL_ (some 119) rfl rfl Try.func16 (by kernel_rfl) rfl #[.pointer (some ⟨g189, 0, none⟩), .int .i64 (wrap64 (x16_2 + (wrap64 (Int.tmod (rd l3 x17_2) 1000)))), .int .i64 (rd l4 x17_2)] rfl (by (try simp only [List.map_toArray, List.map_cons, List.map_nil]); first | done | rfl | (simp only [List.length_drop, List.length_take]; rfl)) ?_; (with_reducible refine (budget_Server_Charge.calls kj22 g189 x190000_22 x190001_22 x190002_22 x190003_22 x190004_22 (wrap64 (x16_2 + (wrap64 (Int.tmod (rd l3 x17_2) 1000)))) (rd l4 x17_2) t242 t243 t244 t245 t246 t247 t248 w _ ?side1 ?side2 A38.out).mono ?_); (case side1 => repeat (first | (with_reducible first | exact HI189.out | apply IsS84.alloc | apply IsS84.drewN | apply IsS84.drew | apply IsS84.set_0 | apply IsS84.set_1 | apply IsS84.set_2 | apply IsS84.set_3 | apply IsS84.set_4) | exact HI189.out)); (case side2 => repeat (first | (with_reducible first | exact HB.out | apply below_alloc | apply pw_below_drewN | apply below_drew1 | refine below_set ?_ (IsS84.ge HI189.out) | refine below_set ?_ (IsS84.ge HI196.out)) | exact HB.out)); rintro e w44 ⟨rfl, hi, hb, hk⟩; refine ⟨_, rfl, ?_⟩; have n0_ := Aside0.mk (IsS84.other (show IsS84 w _ g196 x197000_22 x197001_22 x197002_22 x197003_22 x197004_22 from by repeat (first | (with_reducible first | exact HI196.out | apply IsS84.alloc | apply IsS84.drewN | apply IsS84.drew | apply IsS84.set_0 | apply IsS84.set_1 | apply IsS84.set_2 | apply IsS84.set_3 | apply IsS84.set_4) | exact HI196.out)) hk NS196_189.out); have n1_ := Aside0.mk (hb); have n2_ := Aside0.mk (hi); clear HI196; clear HB; clear HI189; have HI196 := n0_; have HB := n1_; have HI189 := n2_; clear n0_ n1_ n2_; (try clear hb); (try clear hb2); (try clear hge); (try clear hk); (try clear hi); have p249 : 0 ≤ (x17_2 : Int) := of_decide_eq_true (by first | (with_reducible assumption) | assumption); have q249 : x17_2 < (l4.length : Int) := of_decide_eq_true (by first | (with_reducible assumption) | assumption); obtain ⟨ad249, e249, hx249_0⟩ := Kd.at_int HR4.out x17_2 p249 q249; obtain rfl : ad241 = ad249 := (by injection e249); replace hx249_0 := (HB.out.cell (World.block_lt_of_cell? w _ hx249_0)).trans hx249_0; replace p249 := eq_true p249; replace q249 := eq_true q249) | ((with_reducible refine gate_callee (f := 16) rfl ?_); refine goesL_ (some 131) rfl rfl Try.func16 (by kernel_rfl) rfl #[.pointer (some ⟨g196, 0, none⟩), .int .i64 (wrap64 ((wrap64 (x16_2 + (wrap64 (Int.tmod (rd l3 x17_2) 1000)))) + (wrap64 (Int.tmod a2 1073741824)))), .int .i64 (rd l4 x17_2)] rfl (by (try simp only [List.map_toArray, List.map_cons, List.map_nil]); first | done | rfl | (simp only [List.length_drop, List.length_take]; rfl)) ?_; (with_reducible refine (budget_Server_Charge.calls kj22 g196 x197000_22 x197001_22 x197002_22 x197003_22 x197004_22 (wrap64 ((wrap64 (x16_2 + (wrap64 (Int.tmod (rd l3 x17_2) 1000)))) + (wrap64 (Int.tmod a2 1073741824)))) (rd l4 x17_2) t250 t251 t252 t253 t254 t255 t256 w _ ?side1 ?side2 A39.out).mono ?_); (case side1 => repeat (first | (with_reducible first | exact HI196.out | apply IsS84.alloc | apply IsS84.drewN | apply IsS84.drew | apply IsS84.set_0 | apply IsS84.set_1 | apply IsS84.set_2 | apply IsS84.set_3 | apply IsS84.set_4) | exact HI196.out)); (case side2 => repeat (first | (with_reducible first | exact HB.out | apply below_alloc | apply pw_below_drewN | apply below_drew1 | refine below_set ?_ (IsS84.ge HI189.out) | refine below_set ?_ (IsS84.ge HI196.out)) | exact HB.out)); rintro e w45 ⟨rfl, hi, hb, hk⟩; refine ⟨_, rfl, ?_⟩; have n0_ := Aside0.mk (IsS84.other (show IsS84 w _ g189 t244 t245 t246 t247 t248 from by repeat (first | (with_reducible first | exact HI189.out | apply IsS84.alloc | apply IsS84.drewN | apply IsS84.drew | apply IsS84.set_0 | apply IsS84.set_1 | apply IsS84.set_2 | apply IsS84.set_3 | apply IsS84.set_4) | exact HI189.out)) hk NS189_196.out); have n1_ := Aside0.mk (hb); have n2_ := Aside0.mk (hi); clear HI189; clear HB; clear HI196; have HI189 := n0_; have HB := n1_; have HI196 := n2_; clear n0_ n1_ n2_; (try clear hb); (try clear hb2); (try clear hge); (try clear hk); (try clear hi)))
                                      go_roundg kj22
                                      case measure => have := HJ8.out; have := HK2.out; have := HJ16.out; have := HJ22.out; omega
                                      case rel => exact ⟨((wrap64 (x16_2 + (wrap64 (Int.tmod (rd l3 x17_2) 1000))))), (wrap64 (x17_2 + 1)), (t244), (t245), (t246), (t247), (t248), (t252), (t253), (t254), (t255), (t256), (by first | rfl | (simp; done) | (simp [*]; done)), (by first | rfl | (simp; done) | (simp [*]; done)), H', ⟨by have := HJ8.out; have := HK2.out; have := HJ16.out; have := HJ22.out; omega⟩, ⟨by repeat (first | (with_reducible first | exact HI189.out | apply IsS84.alloc | apply IsS84.drewN | apply IsS84.drew | apply IsS84.set_0 | apply IsS84.set_1 | apply IsS84.set_2 | apply IsS84.set_3 | apply IsS84.set_4) | exact HI189.out)⟩, ⟨by repeat (first | (with_reducible first | exact HI196.out | apply IsS84.alloc | apply IsS84.drewN | apply IsS84.drew | apply IsS84.set_0 | apply IsS84.set_1 | apply IsS84.set_2 | apply IsS84.set_3 | apply IsS84.set_4) | exact HI196.out)⟩, ⟨by repeat (first | (with_reducible first | exact HB.out | apply below_alloc | apply pw_below_drewN | apply below_drew1 | refine below_set ?_ (IsS84.ge HI189.out) | refine below_set ?_ (IsS84.ge HI196.out)) | exact HB.out)⟩⟩
                                  · rw [if_neg c40] at H
                                    have c40b0 : (t242 == t250) = false := beq_eq_false_iff_ne.mpr c40
                                    have c40b1 : (t242 != t250) = true := bne_iff_ne.mpr c40
                                    obtain rfl := Option.some.inj H
                                    have p241 : 0 ≤ (x17_2 : Int) := of_decide_eq_true (by first | (with_reducible assumption) | assumption)
                                    have q241 : x17_2 < (l4.length : Int) := of_decide_eq_true (by first | (with_reducible assumption) | assumption)
                                    obtain ⟨ad241, e241, hx241_0⟩ := Kd.at_int HR4.out x17_2 p241 q241
                                    cases e241
                                    replace hx241_0 := (HB.out.cell (World.block_lt_of_cell? w _ hx241_0)).trans hx241_0
                                    replace p241 := eq_true p241
                                    replace q241 := eq_true q241
                                    go_wp2_with (first | ((with_reducible refine gate_callee (f := 16) rfl ?_); refine goesL_ (some 119) rfl rfl Try.func16 (by kernel_rfl) rfl #[.pointer (some ⟨g189, 0, none⟩), .int .i64 (wrap64 (x16_2 + (wrap64 (Int.tmod (rd l3 x17_2) 1000)))), .int .i64 (rd l4 x17_2)] rfl (by (try simp only [List.map_toArray, List.map_cons, List.map_nil]); first | done | rfl | (simp only [List.length_drop, List.length_take]; rfl)) ?_; (with_reducible refine (budget_Server_Charge.calls kj22 g189 x190000_22 x190001_22 x190002_22 x190003_22 x190004_22 (wrap64 (x16_2 + (wrap64 (Int.tmod (rd l3 x17_2) 1000)))) (rd l4 x17_2) t242 t243 t244 t245 t246 t247 t248 w _ ?side1 ?side2 A38.out).mono ?_); (case side1 => repeat (first | (with_reducible first | exact HI189.out | apply IsS84.alloc | apply IsS84.drewN | apply IsS84.drew | apply IsS84.set_0 | apply IsS84.set_1 | apply IsS84.set_2 | apply IsS84.set_3 | apply IsS84.set_4) | exact HI189.out)); (case side2 => repeat (first | (with_reducible first | exact HB.out | apply below_alloc | apply pw_below_drewN | apply below_drew1 | refine below_set ?_ (IsS84.ge HI189.out) | refine below_set ?_ (IsS84.ge HI196.out)) | exact HB.out)); rintro e w46 ⟨rfl, hi, hb, hk⟩; refine ⟨_, rfl, ?_⟩; have n0_ := Aside0.mk (IsS84.other (show IsS84 w _ g196 x197000_22 x197001_22 x197002_22 x197003_22 x197004_22 from by repeat (first | (with_reducible first | exact HI196.out | apply IsS84.alloc | apply IsS84.drewN | apply IsS84.drew | apply IsS84.set_0 | apply IsS84.set_1 | apply IsS84.set_2 | apply IsS84.set_3 | apply IsS84.set_4) | exact HI196.out)) hk NS196_189.out); have n1_ := Aside0.mk (hb); have n2_ := Aside0.mk (hi); clear HI196; clear HB; clear HI189; have HI196 := n0_; have HB := n1_; have HI189 := n2_; clear n0_ n1_ n2_; (try clear hb); (try clear hb2); (try clear hge); (try clear hk); (try clear hi); have p249 : 0 ≤ (x17_2 : Int) := of_decide_eq_true (by first | (with_reducible assumption) | assumption); have q249 : x17_2 < (l4.length : Int) := of_decide_eq_true (by first | (with_reducible assumption) | assumption); obtain ⟨ad249, e249, hx249_0⟩ := Kd.at_int HR4.out x17_2 p249 q249; obtain rfl : ad241 = ad249 := (by injection e249); replace hx249_0 := (HB.out.cell (World.block_lt_of_cell? w _ hx249_0)).trans hx249_0; replace p249 := eq_true p249; replace q249 := eq_true q249) | ((with_reducible refine gate_callee (f := 16) rfl ?_); refine goesL_ (some 131) rfl rfl Try.func16 (by kernel_rfl) rfl #[.pointer (some ⟨g196, 0, none⟩), .int .i64 (wrap64 ((wrap64 (x16_2 + (wrap64 (Int.tmod (rd l3 x17_2) 1000)))) + (wrap64 (Int.tmod a2 1073741824)))), .int .i64 (rd l4 x17_2)] rfl (by (try simp only [List.map_toArray, List.map_cons, List.map_nil]); first | done | rfl | (simp only [List.length_drop, List.length_take]; rfl)) ?_; (with_reducible refine (budget_Server_Charge.calls kj22 g196 x197000_22 x197001_22 x197002_22 x197003_22 x197004_22 (wrap64 ((wrap64 (x16_2 + (wrap64 (Int.tmod (rd l3 x17_2) 1000)))) + (wrap64 (Int.tmod a2 1073741824)))) (rd l4 x17_2) t250 t251 t252 t253 t254 t255 t256 w _ ?side1 ?side2 A39.out).mono ?_); (case side1 => repeat (first | (with_reducible first | exact HI196.out | apply IsS84.alloc | apply IsS84.drewN | apply IsS84.drew | apply IsS84.set_0 | apply IsS84.set_1 | apply IsS84.set_2 | apply IsS84.set_3 | apply IsS84.set_4) | exact HI196.out)); (case side2 => repeat (first | (with_reducible first | exact HB.out | apply below_alloc | apply pw_below_drewN | apply below_drew1 | refine below_set ?_ (IsS84.ge HI189.out) | refine below_set ?_ (IsS84.ge HI196.out)) | exact HB.out)); rintro e w47 ⟨rfl, hi, hb, hk⟩; refine ⟨_, rfl, ?_⟩; have n0_ := Aside0.mk (IsS84.other (show IsS84 w _ g189 t244 t245 t246 t247 t248 from by repeat (first | (with_reducible first | exact HI189.out | apply IsS84.alloc | apply IsS84.drewN | apply IsS84.drew | apply IsS84.set_0 | apply IsS84.set_1 | apply IsS84.set_2 | apply IsS84.set_3 | apply IsS84.set_4) | exact HI189.out)) hk NS189_196.out); have n1_ := Aside0.mk (hb); have n2_ := Aside0.mk (hi); clear HI189; clear HB; clear HI196; have HI189 := n0_; have HB := n1_; have HI196 := n2_; clear n0_ n1_ n2_; (try clear hb); (try clear hb2); (try clear hge); (try clear hk); (try clear hi)))
                                    go_ret
                                    exact ⟨by first | rfl | (simp [errW_none, errW_some] <;> rfl) | (simp [*, errW_none, errW_some] <;> rfl), by repeat (first | (with_reducible first | exact HB.out | apply below_alloc | apply pw_below_drewN | apply below_drew1 | refine below_set ?_ (IsS84.ge HI189.out) | refine below_set ?_ (IsS84.ge HI196.out)) | exact HB.out)⟩
                                · rw [if_neg c37] at H
                                  exact absurd H (by simp)
                              · rw [if_neg c36] at H
                                exact absurd H (by simp)
                      · rw [if_neg c22] at H
                        exact absurd H (by simp)
                    · rw [if_neg c21] at H
                      exact absurd H (by simp)
                  · replace c20 := Bool.eq_false_iff.mpr c20
                    subst c20
                    have H1 : ((monocoquelaw30_known.f kj16).bind fun t203 => (if t203 = true then (if (wrap64 (Int.tmod a2 1073741824)) = 0 then (some true) else ((budget_Server_Left.f kj16 x197000_2 x197001_2 x197002_2 x197003_2 x197004_2 (wrap64 ((wrap64 (Int.tmod a2 1073741824)) - 1))).bind fun bt204 => (if bt204.1 = 0 then ((budget_Server_Next.f bt204.2.1 bt204.2.2.1 bt204.2.2.2.1 bt204.2.2.2.2.1 bt204.2.2.2.2.2 (wrap64 ((wrap64 (Int.tmod a2 1073741824)) - 1))).bind fun bt210 => (some (bt210.1 == 0))) else (some false)))) else (some false))) = some r := by rw [if_neg (show ¬ (false = true) by decide)] at H; exact H
                    clear H
                    have H := H1
                    clear H1
                    replace H := Option.bind_eq_some_iff.mp H
                    obtain ⟨t203, A480, H⟩ := H
                    replace H : (if t203 = true then (if (wrap64 (Int.tmod a2 1073741824)) = 0 then (some true) else ((budget_Server_Left.f kj16 x197000_2 x197001_2 x197002_2 x197003_2 x197004_2 (wrap64 ((wrap64 (Int.tmod a2 1073741824)) - 1))).bind fun bt204 => (if bt204.1 = 0 then ((budget_Server_Next.f bt204.2.1 bt204.2.2.1 bt204.2.2.2.1 bt204.2.2.2.2.1 bt204.2.2.2.2.2 (wrap64 ((wrap64 (Int.tmod a2 1073741824)) - 1))).bind fun bt210 => (some (bt210.1 == 0))) else (some false)))) else (some false)) = some r := H
                    have A48 := Aside0.mk A480
                    clear A480
                    by_cases c49 : t203 = true
                    · subst c49
                      have H1 : (if (wrap64 (Int.tmod a2 1073741824)) = 0 then (some true) else ((budget_Server_Left.f kj16 x197000_2 x197001_2 x197002_2 x197003_2 x197004_2 (wrap64 ((wrap64 (Int.tmod a2 1073741824)) - 1))).bind fun bt204 => (if bt204.1 = 0 then ((budget_Server_Next.f bt204.2.1 bt204.2.2.1 bt204.2.2.2.1 bt204.2.2.2.2.1 bt204.2.2.2.2.2 (wrap64 ((wrap64 (Int.tmod a2 1073741824)) - 1))).bind fun bt210 => (some (bt210.1 == 0))) else (some false)))) = some r := by rw [if_pos rfl] at H; exact H
                      clear H
                      have H := H1
                      clear H1
                      by_cases c50 : (wrap64 (Int.tmod a2 1073741824)) = 0
                      · rw [if_pos c50] at H
                        have c50b0 : ((wrap64 (Int.tmod a2 1073741824)) == 0) = true := beq_iff_eq.mpr c50
                        have c50b1 : ((wrap64 (Int.tmod a2 1073741824)) != 0) = false := bne_eq_false_iff_eq.mpr c50
                        clear c50
                        obtain rfl := Option.some.inj H
                        go_wp2_with (first | ((with_reducible refine gate_callee (f := 19) rfl ?_); refine goesL_ (some 142) rfl rfl Try.func19 (by kernel_rfl) rfl #[] rfl (by (try simp only [List.map_toArray, List.map_cons, List.map_nil]); first | done | rfl | (simp only [List.length_drop, List.length_take]; rfl)) ?_; (with_reducible refine (monocoquelaw30_known.calls kj16  true _ A48.out).mono ?_); rintro e w51 ⟨rfl, hb⟩; refine ⟨_, rfl, ?_⟩; have n0_ := Aside0.mk (IsS84.below (by repeat (first | (with_reducible first | exact HI189.out | apply IsS84.alloc | apply IsS84.drewN | apply IsS84.drew | apply IsS84.set_0 | apply IsS84.set_1 | apply IsS84.set_2 | apply IsS84.set_3 | apply IsS84.set_4) | exact HI189.out)) hb); have n1_ := Aside0.mk (IsS84.below (by repeat (first | (with_reducible first | exact HI196.out | apply IsS84.alloc | apply IsS84.drewN | apply IsS84.drew | apply IsS84.set_0 | apply IsS84.set_1 | apply IsS84.set_2 | apply IsS84.set_3 | apply IsS84.set_4) | exact HI196.out)) hb); have n2_ := Aside0.mk (below_step (by repeat (first | (with_reducible first | exact HB.out | apply below_alloc | apply pw_below_drewN | apply below_drew1 | refine below_set ?_ (IsS84.ge HI189.out) | refine below_set ?_ (IsS84.ge HI196.out)) | exact HB.out)) hb); clear HI189; clear HI196; clear HB; have HI189 := n0_; have HI196 := n1_; have HB := n2_; clear n0_ n1_ n2_; (try clear hb); (try clear hb2); (try clear hge); (try clear hk); (try clear hi)))
                        go_ret
                        exact ⟨by first | rfl | (simp [errW_none, errW_some] <;> rfl) | (simp [*, errW_none, errW_some] <;> rfl), by repeat (first | (with_reducible first | exact HB.out | apply below_alloc | apply pw_below_drewN | apply below_drew1 | refine below_set ?_ (IsS84.ge HI189.out) | refine below_set ?_ (IsS84.ge HI196.out)) | exact HB.out)⟩
                      · rw [if_neg c50] at H
                        have c50b0 : ((wrap64 (Int.tmod a2 1073741824)) == 0) = false := beq_eq_false_iff_ne.mpr c50
                        have c50b1 : ((wrap64 (Int.tmod a2 1073741824)) != 0) = true := bne_iff_ne.mpr c50
                        replace H := Option.bind_eq_some_iff.mp H
                        obtain ⟨⟨t204, t205, t206, t207, t208, t209⟩, A520, H⟩ := H
                        replace H : (if t204 = 0 then ((budget_Server_Next.f t205 t206 t207 t208 t209 (wrap64 ((wrap64 (Int.tmod a2 1073741824)) - 1))).bind fun bt210 => (some (bt210.1 == 0))) else (some false)) = some r := H
                        have A52 := Aside0.mk A520
                        clear A520
                        by_cases c53 : t204 = 0
                        · rw [if_pos c53] at H
                          have c53b0 : (t204 == 0) = true := beq_iff_eq.mpr c53
                          have c53b1 : (t204 != 0) = false := bne_eq_false_iff_eq.mpr c53
                          clear c53
                          replace H := Option.bind_eq_some_iff.mp H
                          obtain ⟨⟨t210, t211, t212, t213, t214, t215⟩, A540, H⟩ := H
                          replace H : (some (t210 == 0)) = some r := H
                          have A54 := Aside0.mk A540
                          clear A540
                          obtain rfl := Option.some.inj H
                          go_wp2_with (first | ((with_reducible refine gate_callee (f := 19) rfl ?_); refine goesL_ (some 142) rfl rfl Try.func19 (by kernel_rfl) rfl #[] rfl (by (try simp only [List.map_toArray, List.map_cons, List.map_nil]); first | done | rfl | (simp only [List.length_drop, List.length_take]; rfl)) ?_; (with_reducible refine (monocoquelaw30_known.calls kj16  true _ A48.out).mono ?_); rintro e w55 ⟨rfl, hb⟩; refine ⟨_, rfl, ?_⟩; have n0_ := Aside0.mk (IsS84.below (by repeat (first | (with_reducible first | exact HI189.out | apply IsS84.alloc | apply IsS84.drewN | apply IsS84.drew | apply IsS84.set_0 | apply IsS84.set_1 | apply IsS84.set_2 | apply IsS84.set_3 | apply IsS84.set_4) | exact HI189.out)) hb); have n1_ := Aside0.mk (IsS84.below (by repeat (first | (with_reducible first | exact HI196.out | apply IsS84.alloc | apply IsS84.drewN | apply IsS84.drew | apply IsS84.set_0 | apply IsS84.set_1 | apply IsS84.set_2 | apply IsS84.set_3 | apply IsS84.set_4) | exact HI196.out)) hb); have n2_ := Aside0.mk (below_step (by repeat (first | (with_reducible first | exact HB.out | apply below_alloc | apply pw_below_drewN | apply below_drew1 | refine below_set ?_ (IsS84.ge HI189.out) | refine below_set ?_ (IsS84.ge HI196.out)) | exact HB.out)) hb); clear HI189; clear HI196; clear HB; have HI189 := n0_; have HI196 := n1_; have HB := n2_; clear n0_ n1_ n2_; (try clear hb); (try clear hb2); (try clear hge); (try clear hk); (try clear hi)) | (go_at_call 18; (with_reducible refine (budget_Server_Left.calls kj16 g196 x197000_2 x197001_2 x197002_2 x197003_2 x197004_2 (wrap64 ((wrap64 (Int.tmod a2 1073741824)) - 1)) t204 t205 t206 t207 t208 t209 w _ ?side1 ?side2 A52.out).mono ?_); (case side1 => repeat (first | (with_reducible first | exact HI196.out | apply IsS84.alloc | apply IsS84.drewN | apply IsS84.drew | apply IsS84.set_0 | apply IsS84.set_1 | apply IsS84.set_2 | apply IsS84.set_3 | apply IsS84.set_4) | exact HI196.out)); (case side2 => repeat (first | (with_reducible first | exact HB.out | apply below_alloc | apply pw_below_drewN | apply below_drew1 | refine below_set ?_ (IsS84.ge HI189.out) | refine below_set ?_ (IsS84.ge HI196.out)) | exact HB.out)); rintro e w56 ⟨rfl, hi, hb, hk⟩; have n0_ := Aside0.mk (IsS84.other (show IsS84 w _ g189 x190000_2 x190001_2 x190002_2 x190003_2 x190004_2 from by repeat (first | (with_reducible first | exact HI189.out | apply IsS84.alloc | apply IsS84.drewN | apply IsS84.drew | apply IsS84.set_0 | apply IsS84.set_1 | apply IsS84.set_2 | apply IsS84.set_3 | apply IsS84.set_4) | exact HI189.out)) hk NS189_196.out); have n1_ := Aside0.mk (hb); have n2_ := Aside0.mk (hi); clear HI189; clear HB; clear HI196; have HI189 := n0_; have HB := n1_; have HI196 := n2_; clear n0_ n1_ n2_; (try clear hb); (try clear hb2); (try clear hge); (try clear hk); (try clear hi)) | (go_at_call 17; (with_reducible refine (budget_Server_Next.calls g196 t205 t206 t207 t208 t209 (wrap64 ((wrap64 (Int.tmod a2 1073741824)) - 1)) t210 t211 t212 t213 t214 t215 w _ ?side1 ?side2 A54.out).mono ?_); (case side1 => repeat (first | (with_reducible first | exact HI196.out | apply IsS84.alloc | apply IsS84.drewN | apply IsS84.drew | apply IsS84.set_0 | apply IsS84.set_1 | apply IsS84.set_2 | apply IsS84.set_3 | apply IsS84.set_4) | exact HI196.out)); (case side2 => repeat (first | (with_reducible first | exact HB.out | apply below_alloc | apply pw_below_drewN | apply below_drew1 | refine below_set ?_ (IsS84.ge HI189.out) | refine below_set ?_ (IsS84.ge HI196.out)) | exact HB.out)); rintro e w57 ⟨rfl, hi, hb, hk⟩; have n0_ := Aside0.mk (IsS84.other (show IsS84 w _ g189 x190000_2 x190001_2 x190002_2 x190003_2 x190004_2 from by repeat (first | (with_reducible first | exact HI189.out | apply IsS84.alloc | apply IsS84.drewN | apply IsS84.drew | apply IsS84.set_0 | apply IsS84.set_1 | apply IsS84.set_2 | apply IsS84.set_3 | apply IsS84.set_4) | exact HI189.out)) hk NS189_196.out); have n1_ := Aside0.mk (hb); have n2_ := Aside0.mk (hi); clear HI189; clear HB; clear HI196; have HI189 := n0_; have HB := n1_; have HI196 := n2_; clear n0_ n1_ n2_; (try clear hb); (try clear hb2); (try clear hge); (try clear hk); (try clear hi)))
                          go_ret
                          exact ⟨by first | rfl | (simp [errW_none, errW_some] <;> rfl) | (simp [*, errW_none, errW_some] <;> rfl), by repeat (first | (with_reducible first | exact HB.out | apply below_alloc | apply pw_below_drewN | apply below_drew1 | refine below_set ?_ (IsS84.ge HI189.out) | refine below_set ?_ (IsS84.ge HI196.out)) | exact HB.out)⟩
                        · rw [if_neg c53] at H
                          have c53b0 : (t204 == 0) = false := beq_eq_false_iff_ne.mpr c53
                          have c53b1 : (t204 != 0) = true := bne_iff_ne.mpr c53
                          obtain rfl := Option.some.inj H
                          go_wp2_with (first | ((with_reducible refine gate_callee (f := 19) rfl ?_); refine goesL_ (some 142) rfl rfl Try.func19 (by kernel_rfl) rfl #[] rfl (by (try simp only [List.map_toArray, List.map_cons, List.map_nil]); first | done | rfl | (simp only [List.length_drop, List.length_take]; rfl)) ?_; (with_reducible refine (monocoquelaw30_known.calls kj16  true _ A48.out).mono ?_); rintro e w58 ⟨rfl, hb⟩; refine ⟨_, rfl, ?_⟩; have n0_ := Aside0.mk (IsS84.below (by repeat (first | (with_reducible first | exact HI189.out | apply IsS84.alloc | apply IsS84.drewN | apply IsS84.drew | apply IsS84.set_0 | apply IsS84.set_1 | apply IsS84.set_2 | apply IsS84.set_3 | apply IsS84.set_4) | exact HI189.out)) hb); have n1_ := Aside0.mk (IsS84.below (by repeat (first | (with_reducible first | exact HI196.out | apply IsS84.alloc | apply IsS84.drewN | apply IsS84.drew | apply IsS84.set_0 | apply IsS84.set_1 | apply IsS84.set_2 | apply IsS84.set_3 | apply IsS84.set_4) | exact HI196.out)) hb); have n2_ := Aside0.mk (below_step (by repeat (first | (with_reducible first | exact HB.out | apply below_alloc | apply pw_below_drewN | apply below_drew1 | refine below_set ?_ (IsS84.ge HI189.out) | refine below_set ?_ (IsS84.ge HI196.out)) | exact HB.out)) hb); clear HI189; clear HI196; clear HB; have HI189 := n0_; have HI196 := n1_; have HB := n2_; clear n0_ n1_ n2_; (try clear hb); (try clear hb2); (try clear hge); (try clear hk); (try clear hi)) | (go_at_call 18; (with_reducible refine (budget_Server_Left.calls kj16 g196 x197000_2 x197001_2 x197002_2 x197003_2 x197004_2 (wrap64 ((wrap64 (Int.tmod a2 1073741824)) - 1)) t204 t205 t206 t207 t208 t209 w _ ?side1 ?side2 A52.out).mono ?_); (case side1 => repeat (first | (with_reducible first | exact HI196.out | apply IsS84.alloc | apply IsS84.drewN | apply IsS84.drew | apply IsS84.set_0 | apply IsS84.set_1 | apply IsS84.set_2 | apply IsS84.set_3 | apply IsS84.set_4) | exact HI196.out)); (case side2 => repeat (first | (with_reducible first | exact HB.out | apply below_alloc | apply pw_below_drewN | apply below_drew1 | refine below_set ?_ (IsS84.ge HI189.out) | refine below_set ?_ (IsS84.ge HI196.out)) | exact HB.out)); rintro e w59 ⟨rfl, hi, hb, hk⟩; have n0_ := Aside0.mk (IsS84.other (show IsS84 w _ g189 x190000_2 x190001_2 x190002_2 x190003_2 x190004_2 from by repeat (first | (with_reducible first | exact HI189.out | apply IsS84.alloc | apply IsS84.drewN | apply IsS84.drew | apply IsS84.set_0 | apply IsS84.set_1 | apply IsS84.set_2 | apply IsS84.set_3 | apply IsS84.set_4) | exact HI189.out)) hk NS189_196.out); have n1_ := Aside0.mk (hb); have n2_ := Aside0.mk (hi); clear HI189; clear HB; clear HI196; have HI189 := n0_; have HB := n1_; have HI196 := n2_; clear n0_ n1_ n2_; (try clear hb); (try clear hb2); (try clear hge); (try clear hk); (try clear hi)))
                          go_ret
                          exact ⟨by first | rfl | (simp [errW_none, errW_some] <;> rfl) | (simp [*, errW_none, errW_some] <;> rfl), by repeat (first | (with_reducible first | exact HB.out | apply below_alloc | apply pw_below_drewN | apply below_drew1 | refine below_set ?_ (IsS84.ge HI189.out) | refine below_set ?_ (IsS84.ge HI196.out)) | exact HB.out)⟩
                    · replace c49 := Bool.eq_false_iff.mpr c49
                      subst c49
                      have H1 : (some false) = some r := by rw [if_neg (show ¬ (false = true) by decide)] at H; exact H
                      clear H
                      have H := H1
                      clear H1
                      obtain rfl := Option.some.inj H
                      go_wp2_with (first | ((with_reducible refine gate_callee (f := 19) rfl ?_); refine goesL_ (some 142) rfl rfl Try.func19 (by kernel_rfl) rfl #[] rfl (by (try simp only [List.map_toArray, List.map_cons, List.map_nil]); first | done | rfl | (simp only [List.length_drop, List.length_take]; rfl)) ?_; (with_reducible refine (monocoquelaw30_known.calls kj16  false _ A48.out).mono ?_); rintro e w60 ⟨rfl, hb⟩; refine ⟨_, rfl, ?_⟩; have n0_ := Aside0.mk (IsS84.below (by repeat (first | (with_reducible first | exact HI189.out | apply IsS84.alloc | apply IsS84.drewN | apply IsS84.drew | apply IsS84.set_0 | apply IsS84.set_1 | apply IsS84.set_2 | apply IsS84.set_3 | apply IsS84.set_4) | exact HI189.out)) hb); have n1_ := Aside0.mk (IsS84.below (by repeat (first | (with_reducible first | exact HI196.out | apply IsS84.alloc | apply IsS84.drewN | apply IsS84.drew | apply IsS84.set_0 | apply IsS84.set_1 | apply IsS84.set_2 | apply IsS84.set_3 | apply IsS84.set_4) | exact HI196.out)) hb); have n2_ := Aside0.mk (below_step (by repeat (first | (with_reducible first | exact HB.out | apply below_alloc | apply pw_below_drewN | apply below_drew1 | refine below_set ?_ (IsS84.ge HI189.out) | refine below_set ?_ (IsS84.ge HI196.out)) | exact HB.out)) hb); clear HI189; clear HI196; clear HB; have HI189 := n0_; have HI196 := n1_; have HB := n2_; clear n0_ n1_ n2_; (try clear hb); (try clear hb2); (try clear hge); (try clear hk); (try clear hi)))
                      go_ret
                      exact ⟨by first | rfl | (simp [errW_none, errW_some] <;> rfl) | (simp [*, errW_none, errW_some] <;> rfl), by repeat (first | (with_reducible first | exact HB.out | apply below_alloc | apply pw_below_drewN | apply below_drew1 | refine below_set ?_ (IsS84.ge HI189.out) | refine below_set ?_ (IsS84.ge HI196.out)) | exact HB.out)⟩

/-- THE ONE PURE STATEMENT of monocoquelaw30_BudgetMoves: yours. -/
def monocoquelaw30_BudgetMoves.Pure : Prop := ∀ (a0 : Int) (a1 : Int) (a2 : Int) (l3 : List Int) (l4 : List Int), (Lit.int .i64 a0).wf = true → (Lit.int .i64 a1).wf = true → (Lit.int .u32 a2).wf = true → l3.length ≤ maxLen → l3.length * 2 ≤ 140737488351232 → (∀ x ∈ l3, (Lit.int .u16 x).wf = true) → l4.length ≤ maxLen → l4.length * 8 ≤ 140737488351232 → (∀ x ∈ l4, (Lit.int .i64 x).wf = true) → ∃ k, monocoquelaw30_BudgetMoves.f k a0 a1 a2 l3 l4 = some true
theorem monocoquelaw30_BudgetMoves.walk (P : monocoquelaw30_BudgetMoves.Pure) (a0 : Int) (a1 : Int) (a2 : Int) (a3 : Option Addr) (len3 cap3 : Nat) (z3 : List Int) (a4 : Option Addr) (len4 cap4 : Nat) (z4 : List Int) (w : World) (w0 : (Lit.int .i64 a0).wf = true) (w1 : (Lit.int .i64 a1).wf = true) (w2 : (Lit.int .u32 a2).wf = true) (w3 : (a3 = none ∧ len3 = 0 ∧ cap3 = 0 ∧ z3 = []) ∨ ∃ x, a3 = some x ∧ len3 ≤ cap3 ∧ cap3 ≤ maxLen ∧ z3.length = cap3 ∧ (∀ i, i < z3.length → w.cell? (x.add i) = some (.int .u16 (z3.getD i 0))) ∧ ∀ n ∈ z3, (Lit.int .u16 n).wf = true) (y3 : len3 * 2 ≤ 140737488351232) (w4 : (a4 = none ∧ len4 = 0 ∧ cap4 = 0 ∧ z4 = []) ∨ ∃ x, a4 = some x ∧ len4 ≤ cap4 ∧ cap4 ≤ maxLen ∧ z4.length = cap4 ∧ (∀ i, i < z4.length → w.cell? (x.add i) = some (.int .i64 (z4.getD i 0))) ∧ ∀ n ∈ z4, (Lit.int .i64 n).wf = true) (y4 : len4 * 8 ≤ 140737488351232) :
    Calls Try.prog 5 #[.int .i64 a0, .int .i64 a1, .int .u32 a2, .slice a3 len3 cap3, .slice a4 len4 cap4] w fun e w' => e = .returned (.bool true) ∧ Below w.heap.size w w' := by
  obtain ⟨l3, rfl, hr3, hm3, hw3, hc3⟩ := ReadsInt.ofRowC w3
  obtain ⟨l4, rfl, hr4, hm4, hw4, hc4⟩ := ReadsInt.ofRowC w4
  obtain ⟨k, h⟩ := P a0 a1 a2 l3 l4 w0 w1 w2 hm3 y3 hw3 hm4 y4 hw4
  refine (monocoquelaw30_BudgetMoves.calls k a0 a1 a2 _ _ l3 _ _ l4 true w (Kd.C_of_reads (d := (0 : Int)) (h1 := fun _ => rfl) hr3) hc3 (Kd.C_of_reads (d := (0 : Int)) (h1 := fun _ => rfl) hr4) hc4 h).mono ?_
  rintro e w' ⟨rfl, hd⟩
  exact ⟨rfl, hd⟩

end Go.Proofs.Ytpabbpcklgipnaa.PBudgetMoves
