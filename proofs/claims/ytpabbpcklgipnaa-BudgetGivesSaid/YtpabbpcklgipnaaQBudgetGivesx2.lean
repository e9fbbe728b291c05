/- The walks of functions that the law BudgetGives reaches. Written by this session's turn of the kit's printer, not by the kit's own. -/
import Derived.Test.YtpabbpcklgipnaaQBudgetGivesx0
import Derived.Test.YtpabbpcklgipnaaQBudgetGivesx1
namespace Go.Proofs.Ytpabbpcklgipnaa.PBudgetGives
open Go.RowKit Go.Proofs.YtpabbpcklgipnaaW.PrintWords Go.Proofs.YtpabbpcklgipnaaW.PrintLast Go.Proofs.YtpabbpcklgipnaaW.PrintMore
attribute [local go_sem] max2_int min2_int max_two min_two max_three min_three max_four min_four   -- for this text's walks alone
set_option linter.unusedVariables false
set_option linter.unusedSimpArgs false

/-! ### monocoquelaw30_BudgetGives: function 4 -/
mutual
def monocoquelaw30_BudgetGives.j0 : Nat → Int → Int → Int → List Int → Bool → Int → Int → Int → Int → Int → Option (Bool)
  | 0, _, _, _, _, _, _, _, _, _, _ => none
  | k + 1, x0, x1, x2, x3, x43, x190000, x190001, x190002, x190003, x190004 => if x43 = true then (some false) else ((budget_Server_Reset.f x190000 x190001 x190002 x190003 x190004 x2).bind fun bt191 => (monocoquelaw30_BudgetGives.l0 k x0 x1 x2 x3 0 bt191.1 bt191.2.1 bt191.2.2.1 bt191.2.2.2.1 bt191.2.2.2.2))
def monocoquelaw30_BudgetGives.l0 : Nat → Int → Int → Int → List Int → Int → Int → Int → Int → Int → Int → Option (Bool)
  | 0, _, _, _, _, _, _, _, _, _, _ => none
  | k + 1, x0, x1, x2, x3, x11, x190000, x190001, x190002, x190003, x190004 => if x11 < (x3.length : Int) then (monocoquelaw30_BudgetGives.j2 k x0 x1 x2 x3 x11 (decide (x11 < 40)) x190000 x190001 x190002 x190003 x190004) else (monocoquelaw30_BudgetGives.j2 k x0 x1 x2 x3 x11 false x190000 x190001 x190002 x190003 x190004)
def monocoquelaw30_BudgetGives.j2 : Nat → Int → Int → Int → List Int → Int → Bool → Int → Int → Int → Int → Int → Option (Bool)
  | 0, _, _, _, _, _, _, _, _, _, _, _ => none
  | k + 1, x0, x1, x2, x3, x11, x54, x190000, x190001, x190002, x190003, x190004 => if x54 = true then (if 0 ≤ x11 then (if x11 < (x3.length : Int) then (if (wrap64 (x0 + 1)) = 0 then (none) else ((budget_Server_Left.f k x190000 x190001 x190002 x190003 x190004 (wrap64 ((wrap64 (x2 + (wrap64 (x11 * x1)))) + (wrap64 (Int.tdiv (wrap64 (x1 - (Int.tmod (wrap64 (rd x3 x11)) (wrap64 (x0 + 1))))) 2))))).bind fun bt198 => (if bt198.1 < (Int.tmod (wrap64 (rd x3 x11)) (wrap64 (x0 + 1))) then (some false) else ((budget_Server_Charge.f k bt198.2.1 bt198.2.2.1 bt198.2.2.2.1 bt198.2.2.2.2.1 bt198.2.2.2.2.2 (wrap64 ((wrap64 (x2 + (wrap64 (x11 * x1)))) + (wrap64 (Int.tdiv (wrap64 (x1 - (Int.tmod (wrap64 (rd x3 x11)) (wrap64 (x0 + 1))))) 2)))) (Int.tmod (wrap64 (rd x3 x11)) (wrap64 (x0 + 1)))).bind fun bt204 => (if bt204.1 = (Int.tmod (wrap64 (rd x3 x11)) (wrap64 (x0 + 1))) then (if bt204.2.1 = true then (some false) else ((budget_Server_Left.f k bt204.2.2.1 bt204.2.2.2.1 bt204.2.2.2.2.1 bt204.2.2.2.2.2.1 bt204.2.2.2.2.2.2 (wrap64 ((wrap64 ((wrap64 (x2 + (wrap64 (x11 * x1)))) + x1)) - 1))).bind fun bt211 => (if bt211.1 > (wrap64 (x0 - (Int.tmod (wrap64 (rd x3 x11)) (wrap64 (x0 + 1))))) then (some false) else (monocoquelaw30_BudgetGives.l0 k x0 x1 x2 x3 (wrap64 (x11 + 1)) bt211.2.1 bt211.2.2.1 bt211.2.2.2.1 bt211.2.2.2.2.1 bt211.2.2.2.2.2)))) else (some false)))))) else (none)) else (none)) else ((monocoquelaw30_known.f k).bind fun t196 => (some t196))
end
def monocoquelaw30_BudgetGives.f (k : Nat) (a0 : Int) (a1 : Int) (a2 : Int) (l3 : List Int) : Option (Bool) := if (IntKind.u64.wrap (wrap64 (1 + (wrap64 (Int.tmod (IntKind.u64.wrap (a1)) 1000))))) = 0 then (none) else ((budget_New.f (wrap64 (1 + (wrap64 (Int.tmod (IntKind.u64.wrap (a0)) (IntKind.u64.wrap (wrap64 (1 + (wrap64 (Int.tmod (IntKind.u64.wrap (a1)) 1000))))))))) (wrap64 (1 + (wrap64 (Int.tmod (IntKind.u64.wrap (a1)) 1000))))).bind fun bt184 => (if bt184.2.2.2.2.2 = 0 then (monocoquelaw30_BudgetGives.j0 k (wrap64 (1 + (wrap64 (Int.tmod (IntKind.u64.wrap (a0)) (IntKind.u64.wrap (wrap64 (1 + (wrap64 (Int.tmod (IntKind.u64.wrap (a1)) 1000))))))))) (wrap64 (1 + (wrap64 (Int.tmod (IntKind.u64.wrap (a1)) 1000)))) (wrap64 (Int.tmod (IntKind.u64.wrap (a2)) 1000000)) l3 false bt184.1 bt184.2.1 bt184.2.2.1 bt184.2.2.2.1 bt184.2.2.2.2.1) else (monocoquelaw30_BudgetGives.j0 k (wrap64 (1 + (wrap64 (Int.tmod (IntKind.u64.wrap (a0)) (IntKind.u64.wrap (wrap64 (1 + (wrap64 (Int.tmod (IntKind.u64.wrap (a1)) 1000))))))))) (wrap64 (1 + (wrap64 (Int.tmod (IntKind.u64.wrap (a1)) 1000)))) (wrap64 (Int.tmod (IntKind.u64.wrap (a2)) 1000000)) l3 true bt184.1 bt184.2.1 bt184.2.2.1 bt184.2.2.2.1 bt184.2.2.2.2.1)))
theorem monocoquelaw30_BudgetGives.mono_l : ∀ k, (∀ y0 y1 y2 y3 y4 y5 y6 y7 y8 y9, LeO (monocoquelaw30_BudgetGives.j0 k y0 y1 y2 y3 y4 y5 y6 y7 y8 y9) (monocoquelaw30_BudgetGives.j0 (k + 1) y0 y1 y2 y3 y4 y5 y6 y7 y8 y9)) ∧ (∀ y0 y1 y2 y3 y4 y5 y6 y7 y8 y9, LeO (monocoquelaw30_BudgetGives.l0 k y0 y1 y2 y3 y4 y5 y6 y7 y8 y9) (monocoquelaw30_BudgetGives.l0 (k + 1) y0 y1 y2 y3 y4 y5 y6 y7 y8 y9)) ∧ (∀ y0 y1 y2 y3 y4 y5 y6 y7 y8 y9 y10, LeO (monocoquelaw30_BudgetGives.j2 k y0 y1 y2 y3 y4 y5 y6 y7 y8 y9 y10) (monocoquelaw30_BudgetGives.j2 (k + 1) y0 y1 y2 y3 y4 y5 y6 y7 y8 y9 y10))
  | 0 => ⟨fun _ _ _ _ _ _ _ _ _ _ r h => by simp [monocoquelaw30_BudgetGives.j0] at h, fun _ _ _ _ _ _ _ _ _ _ r h => by simp [monocoquelaw30_BudgetGives.l0] at h, fun _ _ _ _ _ _ _ _ _ _ _ r h => by simp [monocoquelaw30_BudgetGives.j2] at h⟩
  | k + 1 => by
    obtain ⟨ih0, ih1, ih2⟩ := monocoquelaw30_BudgetGives.mono_l k
    refine ⟨?_, ?_, ?_⟩
    · intro y0 y1 y2 y3 y4 y5 y6 y7 y8 y9
      unfold monocoquelaw30_BudgetGives.j0
      repeat' first
      | (with_reducible exact ih0 _ _ _ _ _ _ _ _ _ _)
      | (with_reducible exact ih1 _ _ _ _ _ _ _ _ _ _)
      | (with_reducible exact ih2 _ _ _ _ _ _ _ _ _ _ _)
      | (with_reducible exact budget_Server_Charge.mono _ _ _ _ _ _ _ _)
      | (with_reducible exact budget_Server_Left.mono _ _ _ _ _ _ _)
      | (with_reducible exact monocoquelaw30_known.mono _)
      | (with_reducible exact LeO.refl _)
      | (with_reducible exact LeO.none _)
      | (with_reducible refine LeO.ite ?_ ?_)
      | (with_reducible refine LeO.bind ?_ (fun _ => ?_))
      | exact ih0 _ _ _ _ _ _ _ _ _ _
      | exact ih1 _ _ _ _ _ _ _ _ _ _
      | exact ih2 _ _ _ _ _ _ _ _ _ _ _
      | exact budget_Server_Charge.mono _ _ _ _ _ _ _ _
      | exact budget_Server_Left.mono _ _ _ _ _ _ _
      | exact monocoquelaw30_known.mono _
      | exact LeO.none _
      | refine LeO.ite ?_ ?_
      | refine LeO.bind ?_ (fun _ => ?_)
    · intro y0 y1 y2 y3 y4 y5 y6 y7 y8 y9
      unfold monocoquelaw30_BudgetGives.l0
      repeat' first
      | (with_reducible exact ih0 _ _ _ _ _ _ _ _ _ _)
      | (with_reducible exact ih1 _ _ _ _ _ _ _ _ _ _)
      | (with_reducible exact ih2 _ _ _ _ _ _ _ _ _ _ _)
      | (with_reducible exact budget_Server_Charge.mono _ _ _ _ _ _ _ _)
      | (with_reducible exact budget_Server_Left.mono _ _ _ _ _ _ _)
      | (with_reducible exact monocoquelaw30_known.mono _)
      | (with_reducible exact LeO.refl _)
      | (with_reducible exact LeO.none _)
      | (with_reducible refine LeO.ite ?_ ?_)
      | (with_reducible refine LeO.bind ?_ (fun _ => ?_))
      | exact ih0 _ _ _ _ _ _ _ _ _ _
      | exact ih1 _ _ _ _ _ _ _ _ _ _
      | exact ih2 _ _ _ _ _ _ _ _ _ _ _
      | exact budget_Server_Charge.mono _ _ _ _ _ _ _ _
      | exact budget_Server_Left.mono _ _ _ _ _ _ _
      | exact monocoquelaw30_known.mono _
      | exact LeO.none _
      | refine LeO.ite ?_ ?_
      | refine LeO.bind ?_ (fun _ => ?_)
    · intro y0 y1 y2 y3 y4 y5 y6 y7 y8 y9 y10
      unfold monocoquelaw30_BudgetGives.j2
      repeat' first
      | (with_reducible exact ih0 _ _ _ _ _ _ _ _ _ _)
      | (with_reducible exact ih1 _ _ _ _ _ _ _ _ _ _)
      | (with_reducible exact ih2 _ _ _ _ _ _ _ _ _ _ _)
      | (with_reducible exact budget_Server_Charge.mono _ _ _ _ _ _ _ _)
      | (with_reducible exact budget_Server_Left.mono _ _ _ _ _ _ _)
      | (with_reducible exact monocoquelaw30_known.mono _)
      | (with_reducible exact LeO.refl _)
      | (with_reducible exact LeO.none _)
      | (with_reducible refine LeO.ite ?_ ?_)
      | (with_reducible refine LeO.bind ?_ (fun _ => ?_))
      | exact ih0 _ _ _ _ _ _ _ _ _ _
      | exact ih1 _ _ _ _ _ _ _ _ _ _
      | exact ih2 _ _ _ _ _ _ _ _ _ _ _
      | exact budget_Server_Charge.mono _ _ _ _ _ _ _ _
      | exact budget_Server_Left.mono _ _ _ _ _ _ _
      | exact monocoquelaw30_known.mono _
      | exact LeO.none _
      | refine LeO.ite ?_ ?_
      | refine LeO.bind ?_ (fun _ => ?_)
theorem monocoquelaw30_BudgetGives.mono : ∀ a0 a1 a2 a3 k, LeO (monocoquelaw30_BudgetGives.f k a0 a1 a2 a3) (monocoquelaw30_BudgetGives.f (k + 1) a0 a1 a2 a3) := by
  intro a0 a1 a2 a3 k
  obtain ⟨ih0, ih1, ih2⟩ := monocoquelaw30_BudgetGives.mono_l k
  unfold monocoquelaw30_BudgetGives.f
  repeat' first
      | (with_reducible exact ih0 _ _ _ _ _ _ _ _ _ _)
      | (with_reducible exact ih1 _ _ _ _ _ _ _ _ _ _)
      | (with_reducible exact ih2 _ _ _ _ _ _ _ _ _ _ _)
      | (with_reducible exact budget_Server_Charge.mono _ _ _ _ _ _ _ _)
      | (with_reducible exact budget_Server_Left.mono _ _ _ _ _ _ _)
      | (with_reducible exact monocoquelaw30_known.mono _)
      | (with_reducible exact LeO.refl _)
      | (with_reducible exact LeO.none _)
      | (with_reducible refine LeO.ite ?_ ?_)
      | (with_reducible refine LeO.bind ?_ (fun _ => ?_))
      | exact ih0 _ _ _ _ _ _ _ _ _ _
      | exact ih1 _ _ _ _ _ _ _ _ _ _
      | exact ih2 _ _ _ _ _ _ _ _ _ _ _
      | exact budget_Server_Charge.mono _ _ _ _ _ _ _ _
      | exact budget_Server_Left.mono _ _ _ _ _ _ _
      | exact monocoquelaw30_known.mono _
      | exact LeO.none _
      | refine LeO.ite ?_ ?_
      | refine LeO.bind ?_ (fun _ => ?_)
set_option maxHeartbeats 8000000 in
set_option maxRecDepth 100000 in
theorem monocoquelaw30_BudgetGives.calls (k : Nat) (a0 : Int) (a1 : Int) (a2 : Int) (A3 : Option Addr) (c3 : Nat) (l3 : List Int) (r : Bool) (w : World) (hr3 : Kd.C (Kd.int .u16) w A3 l3.length l3) (hc3 : l3.length ≤ c3) (h : monocoquelaw30_BudgetGives.f k a0 a1 a2 l3 = some r) :
    Calls Try.prog 4 #[.int .i64 a0, .int .i64 a1, .int .i64 a2, .slice A3 l3.length c3] w fun e w' => e = .returned (.bool r) ∧ Below w.heap.size w w' := by
  have hu25 := Try.underlying25
  have HR3 := Aside0.mk hr3
  have HC3 := Aside0.mk hc3
  clear hr3 hc3
  have HB := Aside0.mk (Below.refl w.heap.size w)
  have H : (if (IntKind.u64.wrap (wrap64 (1 + (wrap64 (Int.tmod (IntKind.u64.wrap (a1)) 1000))))) = 0 then (none) else ((budget_New.f (wrap64 (1 + (wrap64 (Int.tmod (IntKind.u64.wrap (a0)) (IntKind.u64.wrap (wrap64 (1 + (wrap64 (Int.tmod (IntKind.u64.wrap (a1)) 1000))))))))) (wrap64 (1 + (wrap64 (Int.tmod (IntKind.u64.wrap (a1)) 1000))))).bind fun bt184 => (if bt184.2.2.2.2.2 = 0 then (monocoquelaw30_BudgetGives.j0 k (wrap64 (1 + (wrap64 (Int.tmod (IntKind.u64.wrap (a0)) (IntKind.u64.wrap (wrap64 (1 + (wrap64 (Int.tmod (IntKind.u64.wrap (a1)) 1000))))))))) (wrap64 (1 + (wrap64 (Int.tmod (IntKind.u64.wrap (a1)) 1000)))) (wrap64 (Int.tmod (IntKind.u64.wrap (a2)) 1000000)) l3 false bt184.1 bt184.2.1 bt184.2.2.1 bt184.2.2.2.1 bt184.2.2.2.2.1) else (monocoquelaw30_BudgetGives.j0 k (wrap64 (1 + (wrap64 (Int.tmod (IntKind.u64.wrap (a0)) (IntKind.u64.wrap (wrap64 (1 + (wrap64 (Int.tmod (IntKind.u64.wrap (a1)) 1000))))))))) (wrap64 (1 + (wrap64 (Int.tmod (IntKind.u64.wrap (a1)) 1000)))) (wrap64 (Int.tmod (IntKind.u64.wrap (a2)) 1000000)) l3 true bt184.1 bt184.2.1 bt184.2.2.1 bt184.2.2.2.1 bt184.2.2.2.2.1)))) = some r := h
  clear h
  by_cases c5 : (IntKind.u64.wrap (wrap64 (1 + (wrap64 (Int.tmod (IntKind.u64.wrap (a1)) 1000))))) = 0
  · rw [if_pos c5] at H
    exact absurd H (by simp)
  · rw [if_neg c5] at H
    have c5b0 : ((IntKind.u64.wrap (wrap64 (1 + (wrap64 (Int.tmod (IntKind.u64.wrap (a1)) 1000))))) == 0) = false := beq_eq_false_iff_ne.mpr c5
    have c5b1 : ((IntKind.u64.wrap (wrap64 (1 + (wrap64 (Int.tmod (IntKind.u64.wrap (a1)) 1000))))) != 0) = true := bne_iff_ne.mpr c5
    replace H := Option.bind_eq_some_iff.mp H
    obtain ⟨⟨t184, t185, t186, t187, t188, t190⟩, A60, H⟩ := H
    replace H : (if t190 = 0 then (monocoquelaw30_BudgetGives.j0 k (wrap64 (1 + (wrap64 (Int.tmod (IntKind.u64.wrap (a0)) (IntKind.u64.wrap (wrap64 (1 + (wrap64 (Int.tmod (IntKind.u64.wrap (a1)) 1000))))))))) (wrap64 (1 + (wrap64 (Int.tmod (IntKind.u64.wrap (a1)) 1000)))) (wrap64 (Int.tmod (IntKind.u64.wrap (a2)) 1000000)) l3 false t184 t185 t186 t187 t188) else (monocoquelaw30_BudgetGives.j0 k (wrap64 (1 + (wrap64 (Int.tmod (IntKind.u64.wrap (a0)) (IntKind.u64.wrap (wrap64 (1 + (wrap64 (Int.tmod (IntKind.u64.wrap (a1)) 1000))))))))) (wrap64 (1 + (wrap64 (Int.tmod (IntKind.u64.wrap (a1)) 1000)))) (wrap64 (Int.tmod (IntKind.u64.wrap (a2)) 1000000)) l3 true t184 t185 t186 t187 t188)) = some r := H
    have A6 := Aside0.mk A60
    clear A60
    have HC7 := Aside0.mk H
    clear H
    go_enter Try.func4, Try.ntmps4
    go_upto_region 5 with (first | ((with_reducible refine gate_callee (f := 15) rfl ?_); refine goesL_ (some 35) rfl rfl Try.func15 (by kernel_rfl) rfl #[.int .i64 (wrap64 (1 + (wrap64 (Int.tmod (IntKind.u64.wrap (a0)) (IntKind.u64.wrap (wrap64 (1 + (wrap64 (Int.tmod (IntKind.u64.wrap (a1)) 1000))))))))), .int .i64 (wrap64 (1 + (wrap64 (Int.tmod (IntKind.u64.wrap (a1)) 1000))))] rfl (by (try simp only [List.map_toArray, List.map_cons, List.map_nil]); first | done | rfl | (simp only [List.length_drop, List.length_take]; rfl)) ?_; (with_reducible refine (budget_New.calls (wrap64 (1 + (wrap64 (Int.tmod (IntKind.u64.wrap (a0)) (IntKind.u64.wrap (wrap64 (1 + (wrap64 (Int.tmod (IntKind.u64.wrap (a1)) 1000))))))))) (wrap64 (1 + (wrap64 (Int.tmod (IntKind.u64.wrap (a1)) 1000)))) t184 t185 t186 t187 t188 t190 w _ ?side1 A6.out).mono ?_); (case side1 => repeat (first | (with_reducible first | exact HB.out | apply below_alloc | apply pw_below_drewN | apply below_drew1) | exact HB.out)); rintro e w8 ⟨g189, rfl, hi, hb, hb2⟩; refine ⟨_, rfl, ?_⟩; have n0_ := Aside0.mk (hb); have n1_ := Aside0.mk (hi); clear HB; have HB := n0_; have HI189 := n1_; clear n0_ n1_; (try clear hb); (try clear hb2); (try clear hk); (try clear hi)))
    (try simp only [Act.put, List.setIfInBounds_toArray, List.set_cons_zero, List.set_cons_succ])
    go_cut [43] (fun v43 wc => ∃ (kq : Nat) (x43_6 : Bool), v43 = .bool x43_6 ∧ Aside0 (monocoquelaw30_BudgetGives.j0 kq (wrap64 (1 + (wrap64 (Int.tmod (IntKind.u64.wrap (a0)) (IntKind.u64.wrap (wrap64 (1 + (wrap64 (Int.tmod (IntKind.u64.wrap (a1)) 1000))))))))) (wrap64 (1 + (wrap64 (Int.tmod (IntKind.u64.wrap (a1)) 1000)))) (wrap64 (Int.tmod (IntKind.u64.wrap (a2)) 1000000)) l3 x43_6 t184 t185 t186 t187 t188 = some r) ∧ Aside0 (kq ≤ k) ∧ Aside0 (IsS84 w wc g189 t184 t185 t186 t187 t188) ∧ Aside0 (Below w.heap.size w wc))
    case first =>
      have H := HC7.out
      clear HC7
      by_cases c9 : t190 = 0
      · rw [if_pos c9] at H
        have c9b0 : (t190 == 0) = true := beq_iff_eq.mpr c9
        have c9b1 : (t190 != 0) = false := bne_eq_false_iff_eq.mpr c9
        clear c9
        (first | rw [c9b0] | (simp only [i64_w, i32_w]; rw [c9b0]) | skip)
        have H' := Aside0.mk H
        clear H
        go_wp2
        go_meet
        case rel => exact ⟨_, (false), (by first | rfl | (simp; done) | (simp [*]; done)), H', ⟨by first | omega | exact Nat.le_refl _⟩, ⟨by repeat (first | (with_reducible first | exact HI189.out | apply IsS84.alloc | apply IsS84.drewN | apply IsS84.drew | apply IsS84.set_0 | apply IsS84.set_1 | apply IsS84.set_2 | apply IsS84.set_3 | apply IsS84.set_4) | exact HI189.out)⟩, ⟨by repeat (first | (with_reducible first | exact HB.out | apply below_alloc | apply pw_below_drewN | apply below_drew1 | refine below_set ?_ (IsS84.ge HI189.out)) | exact HB.out)⟩⟩
      · rw [if_neg c9] at H
        have c9b0 : (t190 == 0) = false := beq_eq_false_iff_ne.mpr c9
        have c9b1 : (t190 != 0) = true := bne_iff_ne.mpr c9
        (first | rw [c9b0] | (simp only [i64_w, i32_w]; rw [c9b0]) | skip)
        have H' := Aside0.mk H
        clear H
        go_wp2
        go_meet
        case rel => exact ⟨_, (true), (by first | rfl | (simp; done) | (simp [*]; done)), H', ⟨by first | omega | exact Nat.le_refl _⟩, ⟨by repeat (first | (with_reducible first | exact HI189.out | apply IsS84.alloc | apply IsS84.drewN | apply IsS84.drew | apply IsS84.set_0 | apply IsS84.set_1 | apply IsS84.set_2 | apply IsS84.set_3 | apply IsS84.set_4) | exact HI189.out)⟩, ⟨by repeat (first | (with_reducible first | exact HB.out | apply below_alloc | apply pw_below_drewN | apply below_drew1 | refine below_set ?_ (IsS84.ge HI189.out)) | exact HB.out)⟩⟩
    case rest =>
      clear HC7
      try clear c1
      try clear p2
      try clear c3
      try clear c4
      try clear c5
      try clear c5b0
      try clear c5b1
      try clear p6
      try clear c9
      try clear c9b0
      try clear c9b1
      obtain ⟨kq, x43_6, rfl, HA, HJ6, HI189, HB⟩ := hcut
      cases kq with
      | zero => exact absurd HA.out (by simp [monocoquelaw30_BudgetGives.j0])
      | succ kj6 =>
        have H := HA.out
        clear HA
        simp only [monocoquelaw30_BudgetGives.j0] at H
        by_cases c10 : x43_6 = true
        · subst c10
          have H1 : (some false) = some r := by rw [if_pos rfl] at H; exact H
          clear H
          have H := H1
          clear H1
          obtain rfl := Option.some.inj H
          go_wp2
          go_ret
          exact ⟨by first | rfl | (simp [errW_none, errW_some] <;> rfl) | (simp [*, errW_none, errW_some] <;> rfl), by repeat (first | (with_reducible first | exact HB.out | apply below_alloc | apply pw_below_drewN | apply below_drew1 | refine below_set ?_ (IsS84.ge HI189.out)) | exact HB.out)⟩
        · replace c10 := Bool.eq_false_iff.mpr c10
          subst c10
          have H1 : ((budget_Server_Reset.f t184 t185 t186 t187 t188 (wrap64 (Int.tmod (IntKind.u64.wrap (a2)) 1000000))).bind fun bt191 => (monocoquelaw30_BudgetGives.l0 kj6 (wrap64 (1 + (wrap64 (Int.tmod (IntKind.u64.wrap (a0)) (IntKind.u64.wrap (wrap64 (1 + (wrap64 (Int.tmod (IntKind.u64.wrap (a1)) 1000))))))))) (wrap64 (1 + (wrap64 (Int.tmod (IntKind.u64.wrap (a1)) 1000)))) (wrap64 (Int.tmod (IntKind.u64.wrap (a2)) 1000000)) l3 0 bt191.1 bt191.2.1 bt191.2.2.1 bt191.2.2.2.1 bt191.2.2.2.2)) = some r := by rw [if_neg (show ¬ (false = true) by decide)] at H; exact H
          clear H
          have H := H1
          clear H1
          replace H := Option.bind_eq_some_iff.mp H
          obtain ⟨⟨t191, t192, t193, t194, t195⟩, A110, H⟩ := H
          replace H : (monocoquelaw30_BudgetGives.l0 kj6 (wrap64 (1 + (wrap64 (Int.tmod (IntKind.u64.wrap (a0)) (IntKind.u64.wrap (wrap64 (1 + (wrap64 (Int.tmod (IntKind.u64.wrap (a1)) 1000))))))))) (wrap64 (1 + (wrap64 (Int.tmod (IntKind.u64.wrap (a1)) 1000)))) (wrap64 (Int.tmod (IntKind.u64.wrap (a2)) 1000000)) l3 0 t191 t192 t193 t194 t195) = some r := H
          have A11 := Aside0.mk A110
          clear A110
          have H' := Aside0.mk H
          clear H
          go_wp2_with (first | ((with_reducible refine gate_callee (f := 20) rfl ?_); refine goesL_ (some 46) rfl rfl Try.func20 (by kernel_rfl) rfl #[.pointer (some ⟨g189, 0, none⟩), .int .i64 (wrap64 (Int.tmod (IntKind.u64.wrap (a2)) 1000000))] rfl (by (try simp only [List.map_toArray, List.map_cons, List.map_nil]); first | done | rfl | (simp only [List.length_drop, List.length_take]; rfl)) ?_; (with_reducible refine (budget_Server_Reset.calls g189 t184 t185 t186 t187 t188 (wrap64 (Int.tmod (IntKind.u64.wrap (a2)) 1000000)) t191 t192 t193 t194 t195 w _ ?side1 ?side2 A11.out).mono ?_); (case side1 => repeat (first | (with_reducible first | exact HI189.out | apply IsS84.alloc | apply IsS84.drewN | apply IsS84.drew | apply IsS84.set_0 | apply IsS84.set_1 | apply IsS84.set_2 | apply IsS84.set_3 | apply IsS84.set_4) | exact HI189.out)); (case side2 => repeat (first | (with_reducible first | exact HB.out | apply below_alloc | apply pw_below_drewN | apply below_drew1 | refine below_set ?_ (IsS84.ge HI189.out)) | exact HB.out)); rintro e w12 ⟨rfl, hi, hb, hk⟩; refine ⟨_, rfl, ?_⟩; have n0_ := Aside0.mk (hb); have n1_ := Aside0.mk (hi); clear HB; clear HI189; have HB := n0_; have HI189 := n1_; clear n0_ n1_; (try clear hb); (try clear hb2); (try clear hk); (try clear hi)))
          go_loopg [11] kj6 (fun kq v11 w' => ∃ (x11_2 : Int) (x190000_2 : Int) (x190001_2 : Int) (x190002_2 : Int) (x190003_2 : Int) (x190004_2 : Int), v11 = .int .i64 x11_2 ∧ Aside0 (monocoquelaw30_BudgetGives.l0 kq (wrap64 (1 + (wrap64 (Int.tmod (IntKind.u64.wrap (a0)) (IntKind.u64.wrap (wrap64 (1 + (wrap64 (Int.tmod (IntKind.u64.wrap (a1)) 1000))))))))) (wrap64 (1 + (wrap64 (Int.tmod (IntKind.u64.wrap (a1)) 1000)))) (wrap64 (Int.tmod (IntKind.u64.wrap (a2)) 1000000)) l3 x11_2 x190000_2 x190001_2 x190002_2 x190003_2 x190004_2 = some r) ∧ Aside0 (kq ≤ kj6) ∧ Aside0 (IsS84 w w' g189 x190000_2 x190001_2 x190002_2 x190003_2 x190004_2) ∧ Aside0 (Below w.heap.size w w'))
          case atStart => exact ⟨(0), (t191), (t192), (t193), (t194), (t195), (by first | rfl | (simp; done) | (simp [*]; done)), H', ⟨Nat.le_refl _⟩, ⟨by repeat (first | (with_reducible first | exact HI189.out | apply IsS84.alloc | apply IsS84.drewN | apply IsS84.drew | apply IsS84.set_0 | apply IsS84.set_1 | apply IsS84.set_2 | apply IsS84.set_3 | apply IsS84.set_4) | exact HI189.out)⟩, ⟨by repeat (first | (with_reducible first | exact HB.out | apply below_alloc | apply pw_below_drewN | apply below_drew1 | refine below_set ?_ (IsS84.ge HI189.out)) | exact HB.out)⟩⟩
          case round =>
            clear H'
            try clear c1
            try clear c2
            try clear p2
            try clear c3
            try clear c4
            try clear c5
            try clear c5b0
            try clear c5b1
            try clear p6
            try clear c9
            try clear c9b0
            try clear c9b1
            try clear c10
            try clear p2
            try clear p6
            obtain ⟨x11_2, x190000_2, x190001_2, x190002_2, x190003_2, x190004_2, rfl, HA, HK2, HI189, HB⟩ := hrel
            cases gk with
            | zero => exact absurd HA.out (by simp [monocoquelaw30_BudgetGives.l0])
            | succ k2 =>
              have H := HA.out
              clear HA
              simp only [monocoquelaw30_BudgetGives.l0] at H
              have HC13 := Aside0.mk H
              clear H
              go_upto_region 9 with (fail)
              go_cut [54] (fun v54 wc => ∃ (kq : Nat) (x54_12 : Bool), v54 = .bool x54_12 ∧ Aside0 (monocoquelaw30_BudgetGives.j2 kq (wrap64 (1 + (wrap64 (Int.tmod (IntKind.u64.wrap (a0)) (IntKind.u64.wrap (wrap64 (1 + (wrap64 (Int.tmod (IntKind.u64.wrap (a1)) 1000))))))))) (wrap64 (1 + (wrap64 (Int.tmod (IntKind.u64.wrap (a1)) 1000)))) (wrap64 (Int.tmod (IntKind.u64.wrap (a2)) 1000000)) l3 x11_2 x54_12 x190000_2 x190001_2 x190002_2 x190003_2 x190004_2 = some r) ∧ Aside0 (kq ≤ k2) ∧ Aside0 (IsS84 w wc g189 x190000_2 x190001_2 x190002_2 x190003_2 x190004_2) ∧ Aside0 (Below w.heap.size w wc))
              case first =>
                have H := HC13.out
                clear HC13
                by_cases c14 : x11_2 < (l3.length : Int)
                · rw [if_pos c14] at H
                  have c14b0 : decide (x11_2 < (l3.length : Int)) = true := decide_eq_true c14
                  clear c14
                  (first | rw [c14b0] | (simp only [i64_w, i32_w]; rw [c14b0]) | skip)
                  have H' := Aside0.mk H
                  clear H
                  go_wp2
                  go_meet
                  case rel => exact ⟨_, (decide (x11_2 < 40)), (by first | rfl | (simp; done) | (simp [*]; done)), H', ⟨by have := HJ6.out; have := HK2.out; first | omega | exact Nat.le_refl _⟩, ⟨by repeat (first | (with_reducible first | exact HI189.out | apply IsS84.alloc | apply IsS84.drewN | apply IsS84.drew | apply IsS84.set_0 | apply IsS84.set_1 | apply IsS84.set_2 | apply IsS84.set_3 | apply IsS84.set_4) | exact HI189.out)⟩, ⟨by repeat (first | (with_reducible first | exact HB.out | apply below_alloc | apply pw_below_drewN | apply below_drew1 | refine below_set ?_ (IsS84.ge HI189.out)) | exact HB.out)⟩⟩
                · rw [if_neg c14] at H
                  have c14b0 : decide (x11_2 < (l3.length : Int)) = false := decide_eq_false c14
                  clear c14
                  (first | rw [c14b0] | (simp only [i64_w, i32_w]; rw [c14b0]) | skip)
                  have H' := Aside0.mk H
                  clear H
                  go_wp2
                  go_meet
                  case rel => exact ⟨_, (false), (by first | rfl | (simp; done) | (simp [*]; done)), H', ⟨by have := HJ6.out; have := HK2.out; first | omega | exact Nat.le_refl _⟩, ⟨by repeat (first | (with_reducible first | exact HI189.out | apply IsS84.alloc | apply IsS84.drewN | apply IsS84.drew | apply IsS84.set_0 | apply IsS84.set_1 | apply IsS84.set_2 | apply IsS84.set_3 | apply IsS84.set_4) | exact HI189.out)⟩, ⟨by repeat (first | (with_reducible first | exact HB.out | apply below_alloc | apply pw_below_drewN | apply below_drew1 | refine below_set ?_ (IsS84.ge HI189.out)) | exact HB.out)⟩⟩
              case rest =>
                clear HC13
                try clear c1
                try clear c2
                try clear p2
                try clear c3
                try clear c4
                try clear c5
                try clear c5b0
                try clear c5b1
                try clear p6
                try clear c9
                try clear c9b0
                try clear c9b1
                try clear c10
                try clear c14
                try clear c14b0
                try clear p2
                try clear p6
                obtain ⟨kq, x54_12, rfl, HA, HJ12, HI189, HB⟩ := hcut
                cases kq with
                | zero => exact absurd HA.out (by simp [monocoquelaw30_BudgetGives.j2])
                | succ kj12 =>
                  have H := HA.out
                  clear HA
                  simp only [monocoquelaw30_BudgetGives.j2] at H
                  by_cases c15 : x54_12 = true
                  · subst c15
                    have H1 : (if 0 ≤ x11_2 then (if x11_2 < (l3.length : Int) then (if (wrap64 ((wrap64 (1 + (wrap64 (Int.tmod (IntKind.u64.wrap (a0)) (IntKind.u64.wrap (wrap64 (1 + (wrap64 (Int.tmod (IntKind.u64.wrap (a1)) 1000))))))))) + 1)) = 0 then (none) else ((budget_Server_Left.f kj12 x190000_2 x190001_2 x190002_2 x190003_2 x190004_2 (wrap64 ((wrap64 ((wrap64 (Int.tmod (IntKind.u64.wrap (a2)) 1000000)) + (wrap64 (x11_2 * (wrap64 (1 + (wrap64 (Int.tmod (IntKind.u64.wrap (a1)) 1000)))))))) + (wrap64 (Int.tdiv (wrap64 ((wrap64 (1 + (wrap64 (Int.tmod (IntKind.u64.wrap (a1)) 1000)))) - (Int.tmod (wrap64 (rd l3 x11_2)) (wrap64 ((wrap64 (1 + (wrap64 (Int.tmod (IntKind.u64.wrap (a0)) (IntKind.u64.wrap (wrap64 (1 + (wrap64 (Int.tmod (IntKind.u64.wrap (a1)) 1000))))))))) + 1))))) 2))))).bind fun bt198 => (if bt198.1 < (Int.tmod (wrap64 (rd l3 x11_2)) (wrap64 ((wrap64 (1 + (wrap64 (Int.tmod (IntKind.u64.wrap (a0)) (IntKind.u64.wrap (wrap64 (1 + (wrap64 (Int.tmod (IntKind.u64.wrap (a1)) 1000))))))))) + 1))) then (some false) else ((budget_Server_Charge.f kj12 bt198.2.1 bt198.2.2.1 bt198.2.2.2.1 bt198.2.2.2.2.1 bt198.2.2.2.2.2 (wrap64 ((wrap64 ((wrap64 (Int.tmod (IntKind.u64.wrap (a2)) 1000000)) + (wrap64 (x11_2 * (wrap64 (1 + (wrap64 (Int.tmod (IntKind.u64.wrap (a1)) 1000)))))))) + (wrap64 (Int.tdiv (wrap64 ((wrap64 (1 + (wrap64 (Int.tmod (IntKind.u64.wrap (a1)) 1000)))) - (Int.tmod (wrap64 (rd l3 x11_2)) (wrap64 ((wrap64 (1 + (wrap64 (Int.tmod (IntKind.u64.wrap (a0)) (IntKind.u64.wrap (wrap64 (1 + (wrap64 (Int.tmod (IntKind.u64.wrap (a1)) 1000))))))))) + 1))))) 2)))) (Int.tmod (wrap64 (rd l3 x11_2)) (wrap64 ((wrap64 (1 + (wrap64 (Int.tmod (IntKind.u64.wrap (a0)) (IntKind.u64.wrap (wrap64 (1 + (wrap64 (Int.tmod (IntKind.u64.wrap (a1)) 1000))))))))) + 1)))).bind fun bt204 => (if bt204.1 = (Int.tmod (wrap64 (rd l3 x11_2)) (wrap64 ((wrap64 (1 + (wrap64 (Int.tmod (IntKind.u64.wrap (a0)) (IntKind.u64.wrap (wrap64 (1 + (wrap64 (Int.tmod (IntKind.u64.wrap (a1)) 1000))))))))) + 1))) then (if bt204.2.1 = true then (some false) else ((budget_Server_Left.f kj12 bt204.2.2.1 bt204.2.2.2.1 bt204.2.2.2.2.1 bt204.2.2.2.2.2.1 bt204.2.2.2.2.2.2 (wrap64 ((wrap64 ((wrap64 ((wrap64 (Int.tmod (IntKind.u64.wrap (a2)) 1000000)) + (wrap64 (x11_2 * (wrap64 (1 + (wrap64 (Int.tmod (IntKind.u64.wrap (a1)) 1000)))))))) + (wrap64 (1 + (wrap64 (Int.tmod (IntKind.u64.wrap (a1)) 1000)))))) - 1))).bind fun bt211 => (if bt211.1 > (wrap64 ((wrap64 (1 + (wrap64 (Int.tmod (IntKind.u64.wrap (a0)) (IntKind.u64.wrap (wrap64 (1 + (wrap64 (Int.tmod (IntKind.u64.wrap (a1)) 1000))))))))) - (Int.tmod (wrap64 (rd l3 x11_2)) (wrap64 ((wrap64 (1 + (wrap64 (Int.tmod (IntKind.u64.wrap (a0)) (IntKind.u64.wrap (wrap64 (1 + (wrap64 (Int.tmod (IntKind.u64.wrap (a1)) 1000))))))))) + 1))))) then (some false) else (monocoquelaw30_BudgetGives.l0 kj12 (wrap64 (1 + (wrap64 (Int.tmod (IntKind.u64.wrap (a0)) (IntKind.u64.wrap (wrap64 (1 + (wrap64 (Int.tmod (IntKind.u64.wrap (a1)) 1000))))))))) (wrap64 (1 + (wrap64 (Int.tmod (IntKind.u64.wrap (a1)) 1000)))) (wrap64 (Int.tmod (IntKind.u64.wrap (a2)) 1000000)) l3 (wrap64 (x11_2 + 1)) bt211.2.1 bt211.2.2.1 bt211.2.2.2.1 bt211.2.2.2.2.1 bt211.2.2.2.2.2)))) else (some false)))))) else (none)) else (none)) = some r := by rw [if_pos rfl] at H; exact H
                    clear H
                    have H := H1
                    clear H1
                    by_cases c16 : 0 ≤ x11_2
                    · rw [if_pos c16] at H
                      have c16b0 : decide (0 ≤ x11_2) = true := decide_eq_true c16
                      clear c16
                      by_cases c17 : x11_2 < (l3.length : Int)
                      · rw [if_pos c17] at H
                        have c17b0 : decide (x11_2 < (l3.length : Int)) = true := decide_eq_true c17
                        clear c17
                        by_cases c18 : (wrap64 ((wrap64 (1 + (wrap64 (Int.tmod (IntKind.u64.wrap (a0)) (IntKind.u64.wrap (wrap64 (1 + (wrap64 (Int.tmod (IntKind.u64.wrap (a1)) 1000))))))))) + 1)) = 0
                        · rw [if_pos c18] at H
                          exact absurd H (by simp)
                        · rw [if_neg c18] at H
                          have c18b0 : ((wrap64 ((wrap64 (1 + (wrap64 (Int.tmod (IntKind.u64.wrap (a0)) (IntKind.u64.wrap (wrap64 (1 + (wrap64 (Int.tmod (IntKind.u64.wrap (a1)) 1000))))))))) + 1)) == 0) = false := beq_eq_false_iff_ne.mpr c18
                          have c18b1 : ((wrap64 ((wrap64 (1 + (wrap64 (Int.tmod (IntKind.u64.wrap (a0)) (IntKind.u64.wrap (wrap64 (1 + (wrap64 (Int.tmod (IntKind.u64.wrap (a1)) 1000))))))))) + 1)) != 0) = true := bne_iff_ne.mpr c18
                          replace H := Option.bind_eq_some_iff.mp H
                          obtain ⟨⟨t198, t199, t200, t201, t202, t203⟩, A190, H⟩ := H
                          replace H : (if t198 < (Int.tmod (wrap64 (rd l3 x11_2)) (wrap64 ((wrap64 (1 + (wrap64 (Int.tmod (IntKind.u64.wrap (a0)) (IntKind.u64.wrap (wrap64 (1 + (wrap64 (Int.tmod (IntKind.u64.wrap (a1)) 1000))))))))) + 1))) then (some false) else ((budget_Server_Charge.f kj12 t199 t200 t201 t202 t203 (wrap64 ((wrap64 ((wrap64 (Int.tmod (IntKind.u64.wrap (a2)) 1000000)) + (wrap64 (x11_2 * (wrap64 (1 + (wrap64 (Int.tmod (IntKind.u64.wrap (a1)) 1000)))))))) + (wrap64 (Int.tdiv (wrap64 ((wrap64 (1 + (wrap64 (Int.tmod (IntKind.u64.wrap (a1)) 1000)))) - (Int.tmod (wrap64 (rd l3 x11_2)) (wrap64 ((wrap64 (1 + (wrap64 (Int.tmod (IntKind.u64.wrap (a0)) (IntKind.u64.wrap (wrap64 (1 + (wrap64 (Int.tmod (IntKind.u64.wrap (a1)) 1000))))))))) + 1))))) 2)))) (Int.tmod (wrap64 (rd l3 x11_2)) (wrap64 ((wrap64 (1 + (wrap64 (Int.tmod (IntKind.u64.wrap (a0)) (IntKind.u64.wrap (wrap64 (1 + (wrap64 (Int.tmod (IntKind.u64.wrap (a1)) 1000))))))))) + 1)))).bind fun bt204 => (if bt204.1 = (Int.tmod (wrap64 (rd l3 x11_2)) (wrap64 ((wrap64 (1 + (wrap64 (Int.tmod (IntKind.u64.wrap (a0)) (IntKind.u64.wrap (wrap64 (1 + (wrap64 (Int.tmod (IntKind.u64.wrap (a1)) 1000))))))))) + 1))) then (if bt204.2.1 = true then (some false) else ((budget_Server_Left.f kj12 bt204.2.2.1 bt204.2.2.2.1 bt204.2.2.2.2.1 bt204.2.2.2.2.2.1 bt204.2.2.2.2.2.2 (wrap64 ((wrap64 ((wrap64 ((wrap64 (Int.tmod (IntKind.u64.wrap (a2)) 1000000)) + (wrap64 (x11_2 * (wrap64 (1 + (wrap64 (Int.tmod (IntKind.u64.wrap (a1)) 1000)))))))) + (wrap64 (1 + (wrap64 (Int.tmod (IntKind.u64.wrap (a1)) 1000)))))) - 1))).bind fun bt211 => (if bt211.1 > (wrap64 ((wrap64 (1 + (wrap64 (Int.tmod (IntKind.u64.wrap (a0)) (IntKind.u64.wrap (wrap64 (1 + (wrap64 (Int.tmod (IntKind.u64.wrap (a1)) 1000))))))))) - (Int.tmod (wrap64 (rd l3 x11_2)) (wrap64 ((wrap64 (1 + (wrap64 (Int.tmod (IntKind.u64.wrap (a0)) (IntKind.u64.wrap (wrap64 (1 + (wrap64 (Int.tmod (IntKind.u64.wrap (a1)) 1000))))))))) + 1))))) then (some false) else (monocoquelaw30_BudgetGives.l0 kj12 (wrap64 (1 + (wrap64 (Int.tmod (IntKind.u64.wrap (a0)) (IntKind.u64.wrap (wrap64 (1 + (wrap64 (Int.tmod (IntKind.u64.wrap (a1)) 1000))))))))) (wrap64 (1 + (wrap64 (Int.tmod (IntKind.u64.wrap (a1)) 1000)))) (wrap64 (Int.tmod (IntKind.u64.wrap (a2)) 1000000)) l3 (wrap64 (x11_2 + 1)) bt211.2.1 bt211.2.2.1 bt211.2.2.2.1 bt211.2.2.2.2.1 bt211.2.2.2.2.2)))) else (some false)))) = some r := H
                          have A19 := Aside0.mk A190
                          clear A190
                          by_cases c20 : t198 < (Int.tmod (wrap64 (rd l3 x11_2)) (wrap64 ((wrap64 (1 + (wrap64 (Int.tmod (IntKind.u64.wrap (a0)) (IntKind.u64.wrap (wrap64 (1 + (wrap64 (Int.tmod (IntKind.u64.wrap (a1)) 1000))))))))) + 1)))
                          · rw [if_pos c20] at H
                            have c20b0 : decide (t198 < (Int.tmod (wrap64 (rd l3 x11_2)) (wrap64 ((wrap64 (1 + (wrap64 (Int.tmod (IntKind.u64.wrap (a0)) (IntKind.u64.wrap (wrap64 (1 + (wrap64 (Int.tmod (IntKind.u64.wrap (a1)) 1000))))))))) + 1)))) = true := decide_eq_true c20
                            clear c20
                            obtain rfl := Option.some.inj H
                            have p197 : 0 ≤ (x11_2 : Int) := of_decide_eq_true (by first | (with_reducible assumption) | assumption)
                            have q197 : x11_2 < (l3.length : Int) := of_decide_eq_true (by first | (with_reducible assumption) | assumption)
                            obtain ⟨ad197, e197, hx197_0⟩ := Kd.at_int HR3.out x11_2 p197 q197
                            cases e197
                            replace hx197_0 := (HB.out.cell (World.block_lt_of_cell? w _ hx197_0)).trans hx197_0
                            replace p197 := eq_true p197
                            replace q197 := eq_true q197
                            go_wp2_with (first | ((with_reducible refine gate_callee (f := 18) rfl ?_); refine goesL_ (some 77) rfl rfl Try.func18 (by kernel_rfl) rfl #[.pointer (some ⟨g189, 0, none⟩), .int .i64 (wrap64 ((wrap64 ((wrap64 (Int.tmod (IntKind.u64.wrap (a2)) 1000000)) + (wrap64 (x11_2 * (wrap64 (1 + (wrap64 (Int.tmod (IntKind.u64.wrap (a1)) 1000)))))))) + (wrap64 (Int.tdiv (wrap64 ((wrap64 (1 + (wrap64 (Int.tmod (IntKind.u64.wrap (a1)) 1000)))) - (Int.tmod (wrap64 (rd l3 x11_2)) (wrap64 ((wrap64 (1 + (wrap64 (Int.tmod (IntKind.u64.wrap (a0)) (IntKind.u64.wrap (wrap64 (1 + (wrap64 (Int.tmod (IntKind.u64.wrap (a1)) 1000))))))))) + 1))))) 2))))] rfl (by (try simp only [List.map_toArray, List.map_cons, List.map_nil]); first | done | rfl | (simp only [List.length_drop, List.length_take]; rfl)) ?_; (with_reducible refine (budget_Server_Left.calls kj12 g189 x190000_2 x190001_2 x190002_2 x190003_2 x190004_2 (wrap64 ((wrap64 ((wrap64 (Int.tmod (IntKind.u64.wrap (a2)) 1000000)) + (wrap64 (x11_2 * (wrap64 (1 + (wrap64 (Int.tmod (IntKind.u64.wrap (a1)) 1000)))))))) + (wrap64 (Int.tdiv (wrap64 ((wrap64 (1 + (wrap64 (Int.tmod (IntKind.u64.wrap (a1)) 1000)))) - (Int.tmod (wrap64 (rd l3 x11_2)) (wrap64 ((wrap64 (1 + (wrap64 (Int.tmod (IntKind.u64.wrap (a0)) (IntKind.u64.wrap (wrap64 (1 + (wrap64 (Int.tmod (IntKind.u64.wrap (a1)) 1000))))))))) + 1))))) 2)))) t198 t199 t200 t201 t202 t203 w _ ?side1 ?side2 A19.out).mono ?_); (case side1 => repeat (first | (with_reducible first | exact HI189.out | apply IsS84.alloc | apply IsS84.drewN | apply IsS84.drew | apply IsS84.set_0 | apply IsS84.set_1 | apply IsS84.set_2 | apply IsS84.set_3 | apply IsS84.set_4) | exact HI189.out)); (case side2 => repeat (first | (with_reducible first | exact HB.out | apply below_alloc | apply pw_below_drewN | apply below_drew1 | refine below_set ?_ (IsS84.ge HI189.out)) | exact HB.out)); rintro e w21 ⟨rfl, hi, hb, hk⟩; refine ⟨_, rfl, ?_⟩; have n0_ := Aside0.mk (hb); have n1_ := Aside0.mk (hi); clear HB; clear HI189; have HB := n0_; have HI189 := n1_; clear n0_ n1_; (try clear hb); (try clear hb2); (try clear hk); (try clear hi)))
                            go_ret
                            exact ⟨by first | rfl | (simp [errW_none, errW_some] <;> rfl) | (simp [*, errW_none, errW_some] <;> rfl), by repeat (first | (with_reducible first | exact HB.out | apply below_alloc | apply pw_below_drewN | apply below_drew1 | refine below_set ?_ (IsS84.ge HI189.out)) | exact HB.out)⟩
                          · rw [if_neg c20] at H
                            have c20b0 : decide (t198 < (Int.tmod (wrap64 (rd l3 x11_2)) (wrap64 ((wrap64 (1 + (wrap64 (Int.tmod (IntKind.u64.wrap (a0)) (IntKind.u64.wrap (wrap64 (1 + (wrap64 (Int.tmod (IntKind.u64.wrap (a1)) 1000))))))))) + 1)))) = false := decide_eq_false c20
                            clear c20
                            replace H := Option.bind_eq_some_iff.mp H
                            obtain ⟨⟨t204, t205, t206, t207, t208, t209, t210⟩, A220, H⟩ := H
                            replace H : (if t204 = (Int.tmod (wrap64 (rd l3 x11_2)) (wrap64 ((wrap64 (1 + (wrap64 (Int.tmod (IntKind.u64.wrap (a0)) (IntKind.u64.wrap (wrap64 (1 + (wrap64 (Int.tmod (IntKind.u64.wrap (a1)) 1000))))))))) + 1))) then (if t205 = true then (some false) else ((budget_Server_Left.f kj12 t206 t207 t208 t209 t210 (wrap64 ((wrap64 ((wrap64 ((wrap64 (Int.tmod (IntKind.u64.wrap (a2)) 1000000)) + (wrap64 (x11_2 * (wrap64 (1 + (wrap64 (Int.tmod (IntKind.u64.wrap (a1)) 1000)))))))) + (wrap64 (1 + (wrap64 (Int.tmod (IntKind.u64.wrap (a1)) 1000)))))) - 1))).bind fun bt211 => (if bt211.1 > (wrap64 ((wrap64 (1 + (wrap64 (Int.tmod (IntKind.u64.wrap (a0)) (IntKind.u64.wrap (wrap64 (1 + (wrap64 (Int.tmod (IntKind.u64.wrap (a1)) 1000))))))))) - (Int.tmod (wrap64 (rd l3 x11_2)) (wrap64 ((wrap64 (1 + (wrap64 (Int.tmod (IntKind.u64.wrap (a0)) (IntKind.u64.wrap (wrap64 (1 + (wrap64 (Int.tmod (IntKind.u64.wrap (a1)) 1000))))))))) + 1))))) then (some false) else (monocoquelaw30_BudgetGives.l0 kj12 (wrap64 (1 + (wrap64 (Int.tmod (IntKind.u64.wrap (a0)) (IntKind.u64.wrap (wrap64 (1 + (wrap64 (Int.tmod (IntKind.u64.wrap (a1)) 1000))))))))) (wrap64 (1 + (wrap64 (Int.tmod (IntKind.u64.wrap (a1)) 1000)))) (wrap64 (Int.tmod (IntKind.u64.wrap (a2)) 1000000)) l3 (wrap64 (x11_2 + 1)) bt211.2.1 bt211.2.2.1 bt211.2.2.2.1 bt211.2.2.2.2.1 bt211.2.2.2.2.2)))) else (some false)) = some r := H
                            have A22 := Aside0.mk A220
                            clear A220
                            by_cases c23 : t204 = (Int.tmod (wrap64 (rd l3 x11_2)) (wrap64 ((wrap64 (1 + (wrap64 (Int.tmod (IntKind.u64.wrap (a0)) (IntKind.u64.wrap (wrap64 (1 + (wrap64 (Int.tmod (IntKind.u64.wrap (a1)) 1000))))))))) + 1)))
                            · rw [if_pos c23] at H
                              have c23b0 : (t204 == (Int.tmod (wrap64 (rd l3 x11_2)) (wrap64 ((wrap64 (1 + (wrap64 (Int.tmod (IntKind.u64.wrap (a0)) (IntKind.u64.wrap (wrap64 (1 + (wrap64 (Int.tmod (IntKind.u64.wrap (a1)) 1000))))))))) + 1)))) = true := beq_iff_eq.mpr c23
                              have c23b1 : (t204 != (Int.tmod (wrap64 (rd l3 x11_2)) (wrap64 ((wrap64 (1 + (wrap64 (Int.tmod (IntKind.u64.wrap (a0)) (IntKind.u64.wrap (wrap64 (1 + (wrap64 (Int.tmod (IntKind.u64.wrap (a1)) 1000))))))))) + 1)))) = false := bne_eq_false_iff_eq.mpr c23
                              clear c23
                              by_cases c24 : t205 = true
                              · subst c24
                                have H1 : (some false) = some r := by rw [if_pos rfl] at H; exact H
                                clear H
                                have H := H1
                                clear H1
                                obtain rfl := Option.some.inj H
                                have p197 : 0 ≤ (x11_2 : Int) := of_decide_eq_true (by first | (with_reducible assumption) | assumption)
                                have q197 : x11_2 < (l3.length : Int) := of_decide_eq_true (by first | (with_reducible assumption) | assumption)
                                obtain ⟨ad197, e197, hx197_0⟩ := Kd.at_int HR3.out x11_2 p197 q197
                                cases e197
                                replace hx197_0 := (HB.out.cell (World.block_lt_of_cell? w _ hx197_0)).trans hx197_0
                                replace p197 := eq_true p197
                                replace q197 := eq_true q197
                                go_wp2_with (first | ((with_reducible refine gate_callee (f := 18) rfl ?_); refine goesL_ (some 77) rfl rfl Try.func18 (by kernel_rfl) rfl #[.pointer (some ⟨g189, 0, none⟩), .int .i64 (wrap64 ((wrap64 ((wrap64 (Int.tmod (IntKind.u64.wrap (a2)) 1000000)) + (wrap64 (x11_2 * (wrap64 (1 + (wrap64 (Int.tmod (IntKind.u64.wrap (a1)) 1000)))))))) + (wrap64 (Int.tdiv (wrap64 ((wrap64 (1 + (wrap64 (Int.tmod (IntKind.u64.wrap (a1)) 1000)))) - (Int.tmod (wrap64 (rd l3 x11_2)) (wrap64 ((wrap64 (1 + (wrap64 (Int.tmod (IntKind.u64.wrap (a0)) (IntKind.u64.wrap (wrap64 (1 + (wrap64 (Int.tmod (IntKind.u64.wrap (a1)) 1000))))))))) + 1))))) 2))))] rfl (by (try simp only [List.map_toArray, List.map_cons, List.map_nil]); first | done | rfl | (simp only [List.length_drop, List.length_take]; rfl)) ?_; (with_reducible refine (budget_Server_Left.calls kj12 g189 x190000_2 x190001_2 x190002_2 x190003_2 x190004_2 (wrap64 ((wrap64 ((wrap64 (Int.tmod (IntKind.u64.wrap (a2)) 1000000)) + (wrap64 (x11_2 * (wrap64 (1 + (wrap64 (Int.tmod (IntKind.u64.wrap (a1)) 1000)))))))) + (wrap64 (Int.tdiv (wrap64 ((wrap64 (1 + (wrap64 (Int.tmod (IntKind.u64.wrap (a1)) 1000)))) - (Int.tmod (wrap64 (rd l3 x11_2)) (wrap64 ((wrap64 (1 + (wrap64 (Int.tmod (IntKind.u64.wrap (a0)) (IntKind.u64.wrap (wrap64 (1 + (wrap64 (Int.tmod (IntKind.u64.wrap (a1)) 1000))))))))) + 1))))) 2)))) t198 t199 t200 t201 t202 t203 w _ ?side1 ?side2 A19.out).mono ?_); (case side1 => repeat (first | (with_reducible first | exact HI189.out | apply IsS84.alloc | apply IsS84.drewN | apply IsS84.drew | apply IsS84.set_0 | apply IsS84.set_1 | apply IsS84.set_2 | apply IsS84.set_3 | apply IsS84.set_4) | exact HI189.out)); (case side2 => repeat (first | (with_reducible first | exact HB.out | apply below_alloc | apply pw_below_drewN | apply below_drew1 | refine below_set ?_ (IsS84.ge HI189.out)) | exact HB.out)); rintro e w25 ⟨rfl, hi, hb, hk⟩; refine ⟨_, rfl, ?_⟩; have n0_ := Aside0.mk (hb); have n1_ := Aside0.mk (hi); clear HB; clear HI189; have HB := n0_; have HI189 := n1_; clear n0_ n1_; (try clear hb); (try clear hb2); (try clear hk); (try clear hi)) | ((with_reducible refine gate_callee (f := 16) rfl ?_); refine goesL_ (some 84) rfl rfl Try.func16 (by kernel_rfl) rfl #[.pointer (some ⟨g189, 0, none⟩), .int .i64 (wrap64 ((wrap64 ((wrap64 (Int.tmod (IntKind.u64.wrap (a2)) 1000000)) + (wrap64 (x11_2 * (wrap64 (1 + (wrap64 (Int.tmod (IntKind.u64.wrap (a1)) 1000)))))))) + (wrap64 (Int.tdiv (wrap64 ((wrap64 (1 + (wrap64 (Int.tmod (IntKind.u64.wrap (a1)) 1000)))) - (Int.tmod (wrap64 (rd l3 x11_2)) (wrap64 ((wrap64 (1 + (wrap64 (Int.tmod (IntKind.u64.wrap (a0)) (IntKind.u64.wrap (wrap64 (1 + (wrap64 (Int.tmod (IntKind.u64.wrap (a1)) 1000))))))))) + 1))))) 2)))), .int .i64 (Int.tmod (wrap64 (rd l3 x11_2)) (wrap64 ((wrap64 (1 + (wrap64 (Int.tmod (IntKind.u64.wrap (a0)) (IntKind.u64.wrap (wrap64 (1 + (wrap64 (Int.tmod (IntKind.u64.wrap (a1)) 1000))))))))) + 1)))] rfl (by (try simp only [List.map_toArray, List.map_cons, List.map_nil]); first | done | rfl | (simp only [List.length_drop, List.length_take]; rfl)) ?_; (with_reducible refine (budget_Server_Charge.calls kj12 g189 t199 t200 t201 t202 t203 (wrap64 ((wrap64 ((wrap64 (Int.tmod (IntKind.u64.wrap (a2)) 1000000)) + (wrap64 (x11_2 * (wrap64 (1 + (wrap64 (Int.tmod (IntKind.u64.wrap (a1)) 1000)))))))) + (wrap64 (Int.tdiv (wrap64 ((wrap64 (1 + (wrap64 (Int.tmod (IntKind.u64.wrap (a1)) 1000)))) - (Int.tmod (wrap64 (rd l3 x11_2)) (wrap64 ((wrap64 (1 + (wrap64 (Int.tmod (IntKind.u64.wrap (a0)) (IntKind.u64.wrap (wrap64 (1 + (wrap64 (Int.tmod (IntKind.u64.wrap (a1)) 1000))))))))) + 1))))) 2)))) (Int.tmod (wrap64 (rd l3 x11_2)) (wrap64 ((wrap64 (1 + (wrap64 (Int.tmod (IntKind.u64.wrap (a0)) (IntKind.u64.wrap (wrap64 (1 + (wrap64 (Int.tmod (IntKind.u64.wrap (a1)) 1000))))))))) + 1))) t204 true t206 t207 t208 t209 t210 w _ ?side1 ?side2 A22.out).mono ?_); (case side1 => repeat (first | (with_reducible first | exact HI189.out | apply IsS84.alloc | apply IsS84.drewN | apply IsS84.drew | apply IsS84.set_0 | apply IsS84.set_1 | apply IsS84.set_2 | apply IsS84.set_3 | apply IsS84.set_4) | exact HI189.out)); (case side2 => repeat (first | (with_reducible first | exact HB.out | apply below_alloc | apply pw_below_drewN | apply below_drew1 | refine below_set ?_ (IsS84.ge HI189.out)) | exact HB.out)); rintro e w26 ⟨rfl, hi, hb, hk⟩; refine ⟨_, rfl, ?_⟩; have n0_ := Aside0.mk (hb); have n1_ := Aside0.mk (hi); clear HB; clear HI189; have HB := n0_; have HI189 := n1_; clear n0_ n1_; (try clear hb); (try clear hb2); (try clear hk); (try clear hi)))
                                go_ret
                                exact ⟨by first | rfl | (simp [errW_none, errW_some] <;> rfl) | (simp [*, errW_none, errW_some] <;> rfl), by repeat (first | (with_reducible first | exact HB.out | apply below_alloc | apply pw_below_drewN | apply below_drew1 | refine below_set ?_ (IsS84.ge HI189.out)) | exact HB.out)⟩
                              · replace c24 := Bool.eq_false_iff.mpr c24
                                subst c24
                                have H1 : ((budget_Server_Left.f kj12 t206 t207 t208 t209 t210 (wrap64 ((wrap64 ((wrap64 ((wrap64 (Int.tmod (IntKind.u64.wrap (a2)) 1000000)) + (wrap64 (x11_2 * (wrap64 (1 + (wrap64 (Int.tmod (IntKind.u64.wrap (a1)) 1000)))))))) + (wrap64 (1 + (wrap64 (Int.tmod (IntKind.u64.wrap (a1)) 1000)))))) - 1))).bind fun bt211 => (if bt211.1 > (wrap64 ((wrap64 (1 + (wrap64 (Int.tmod (IntKind.u64.wrap (a0)) (IntKind.u64.wrap (wrap64 (1 + (wrap64 (Int.tmod (IntKind.u64.wrap (a1)) 1000))))))))) - (Int.tmod (wrap64 (rd l3 x11_2)) (wrap64 ((wrap64 (1 + (wrap64 (Int.tmod (IntKind.u64.wrap (a0)) (IntKind.u64.wrap (wrap64 (1 + (wrap64 (Int.tmod (IntKind.u64.wrap (a1)) 1000))))))))) + 1))))) then (some false) else (monocoquelaw30_BudgetGives.l0 kj12 (wrap64 (1 + (wrap64 (Int.tmod (IntKind.u64.wrap (a0)) (IntKind.u64.wrap (wrap64 (1 + (wrap64 (Int.tmod (IntKind.u64.wrap (a1)) 1000))))))))) (wrap64 (1 + (wrap64 (Int.tmod (IntKind.u64.wrap (a1)) 1000)))) (wrap64 (Int.tmod (IntKind.u64.wrap (a2)) 1000000)) l3 (wrap64 (x11_2 + 1)) bt211.2.1 bt211.2.2.1 bt211.2.2.2.1 bt211.2.2.2.2.1 bt211.2.2.2.2.2))) = some r := by rw [if_neg (show ¬ (false = true) by decide)] at H; exact H
                                clear H
                                have H := H1
                                clear H1
                                replace H := Option.bind_eq_some_iff.mp H
                                obtain ⟨⟨t211, t212, t213, t214, t215, t216⟩, A270, H⟩ := H
                                replace H : (if t211 > (wrap64 ((wrap64 (1 + (wrap64 (Int.tmod (IntKind.u64.wrap (a0)) (IntKind.u64.wrap (wrap64 (1 + (wrap64 (Int.tmod (IntKind.u64.wrap (a1)) 1000))))))))) - (Int.tmod (wrap64 (rd l3 x11_2)) (wrap64 ((wrap64 (1 + (wrap64 (Int.tmod (IntKind.u64.wrap (a0)) (IntKind.u64.wrap (wrap64 (1 + (wrap64 (Int.tmod (IntKind.u64.wrap (a1)) 1000))))))))) + 1))))) then (some false) else (monocoquelaw30_BudgetGives.l0 kj12 (wrap64 (1 + (wrap64 (Int.tmod (IntKind.u64.wrap (a0)) (IntKind.u64.wrap (wrap64 (1 + (wrap64 (Int.tmod (IntKind.u64.wrap (a1)) 1000))))))))) (wrap64 (1 + (wrap64 (Int.tmod (IntKind.u64.wrap (a1)) 1000)))) (wrap64 (Int.tmod (IntKind.u64.wrap (a2)) 1000000)) l3 (wrap64 (x11_2 + 1)) t212 t213 t214 t215 t216)) = some r := H
                                have A27 := Aside0.mk A270
                                clear A270
                                by_cases c28 : t211 > (wrap64 ((wrap64 (1 + (wrap64 (Int.tmod (IntKind.u64.wrap (a0)) (IntKind.u64.wrap (wrap64 (1 + (wrap64 (Int.tmod (IntKind.u64.wrap (a1)) 1000))))))))) - (Int.tmod (wrap64 (rd l3 x11_2)) (wrap64 ((wrap64 (1 + (wrap64 (Int.tmod (IntKind.u64.wrap (a0)) (IntKind.u64.wrap (wrap64 (1 + (wrap64 (Int.tmod (IntKind.u64.wrap (a1)) 1000))))))))) + 1)))))
                                · rw [if_pos c28] at H
                                  have c28b0 : decide ((wrap64 ((wrap64 (1 + (wrap64 (Int.tmod (IntKind.u64.wrap (a0)) (IntKind.u64.wrap (wrap64 (1 + (wrap64 (Int.tmod (IntKind.u64.wrap (a1)) 1000))))))))) - (Int.tmod (wrap64 (rd l3 x11_2)) (wrap64 ((wrap64 (1 + (wrap64 (Int.tmod (IntKind.u64.wrap (a0)) (IntKind.u64.wrap (wrap64 (1 + (wrap64 (Int.tmod (IntKind.u64.wrap (a1)) 1000))))))))) + 1))))) < t211) = true := decide_eq_true c28
                                  clear c28
                                  obtain rfl := Option.some.inj H
                                  have p197 : 0 ≤ (x11_2 : Int) := of_decide_eq_true (by first | (with_reducible assumption) | assumption)
                                  have q197 : x11_2 < (l3.length : Int) := of_decide_eq_true (by first | (with_reducible assumption) | assumption)
                                  obtain ⟨ad197, e197, hx197_0⟩ := Kd.at_int HR3.out x11_2 p197 q197
                                  cases e197
                                  replace hx197_0 := (HB.out.cell (World.block_lt_of_cell? w _ hx197_0)).trans hx197_0
                                  replace p197 := eq_true p197
                                  replace q197 := eq_true q197
                                  go_wp2_with (first | ((with_reducible refine gate_callee (f := 18) rfl ?_); refine goesL_ (some 77) rfl rfl Try.func18 (by kernel_rfl) rfl #[.pointer (some ⟨g189, 0, none⟩), .int .i64 (wrap64 ((wrap64 ((wrap64 (Int.tmod (IntKind.u64.wrap (a2)) 1000000)) + (wrap64 (x11_2 * (wrap64 (1 + (wrap64 (Int.tmod (IntKind.u64.wrap (a1)) 1000)))))))) + (wrap64 (Int.tdiv (wrap64 ((wrap64 (1 + (wrap64 (Int.tmod (IntKind.u64.wrap (a1)) 1000)))) - (Int.tmod (wrap64 (rd l3 x11_2)) (wrap64 ((wrap64 (1 + (wrap64 (Int.tmod (IntKind.u64.wrap (a0)) (IntKind.u64.wrap (wrap64 (1 + (wrap64 (Int.tmod (IntKind.u64.wrap (a1)) 1000))))))))) + 1))))) 2))))] rfl (by (try simp only [List.map_toArray, List.map_cons, List.map_nil]); first | done | rfl | (simp only [List.length_drop, List.length_take]; rfl)) ?_; (with_reducible refine (budget_Server_Left.calls kj12 g189 x190000_2 x190001_2 x190002_2 x190003_2 x190004_2 (wrap64 ((wrap64 ((wrap64 (Int.tmod (IntKind.u64.wrap (a2)) 1000000)) + (wrap64 (x11_2 * (wrap64 (1 + (wrap64 (Int.tmod (IntKind.u64.wrap (a1)) 1000)))))))) + (wrap64 (Int.tdiv (wrap64 ((wrap64 (1 + (wrap64 (Int.tmod (IntKind.u64.wrap (a1)) 1000)))) - (Int.tmod (wrap64 (rd l3 x11_2)) (wrap64 ((wrap64 (1 + (wrap64 (Int.tmod (IntKind.u64.wrap (a0)) (IntKind.u64.wrap (wrap64 (1 + (wrap64 (Int.tmod (IntKind.u64.wrap (a1)) 1000))))))))) + 1))))) 2)))) t198 t199 t200 t201 t202 t203 w _ ?side1 ?side2 A19.out).mono ?_); (case side1 => repeat (first | (with_reducible first | exact HI189.out | apply IsS84.alloc | apply IsS84.drewN | apply IsS84.drew | apply IsS84.set_0 | apply IsS84.set_1 | apply IsS84.set_2 | apply IsS84.set_3 | apply IsS84.set_4) | exact HI189.out)); (case side2 => repeat (first | (with_reducible first | exact HB.out | apply below_alloc | apply pw_below_drewN | apply below_drew1 | refine below_set ?_ (IsS84.ge HI189.out)) | exact HB.out)); rintro e w29 ⟨rfl, hi, hb, hk⟩; refine ⟨_, rfl, ?_⟩; have n0_ := Aside0.mk (hb); have n1_ := Aside0.mk (hi); clear HB; clear HI189; have HB := n0_; have HI189 := n1_; clear n0_ n1_; (try clear hb); (try clear hb2); (try clear hk); (try clear hi)) | ((with_reducible refine gate_callee (f := 16) rfl ?_); refine goesL_ (some 84) rfl rfl Try.func16 (by kernel_rfl) rfl #[.pointer (some ⟨g189, 0, none⟩), .int .i64 (wrap64 ((wrap64 ((wrap64 (Int.tmod (IntKind.u64.wrap (a2)) 1000000)) + (wrap64 (x11_2 * (wrap64 (1 + (wrap64 (Int.tmod (IntKind.u64.wrap (a1)) 1000)))))))) + (wrap64 (Int.tdiv (wrap64 ((wrap64 (1 + (wrap64 (Int.tmod (IntKind.u64.wrap (a1)) 1000)))) - (Int.tmod (wrap64 (rd l3 x11_2)) (wrap64 ((wrap64 (1 + (wrap64 (Int.tmod (IntKind.u64.wrap (a0)) (IntKind.u64.wrap (wrap64 (1 + (wrap64 (Int.tmod (IntKind.u64.wrap (a1)) 1000))))))))) + 1))))) 2)))), .int .i64 (Int.tmod (wrap64 (rd l3 x11_2)) (wrap64 ((wrap64 (1 + (wrap64 (Int.tmod (IntKind.u64.wrap (a0)) (IntKind.u64.wrap (wrap64 (1 + (wrap64 (Int.tmod (IntKind.u64.wrap (a1)) 1000))))))))) + 1)))] rfl (by (try simp only [List.map_toArray, List.map_cons, List.map_nil]); first | done | rfl | (simp only [List.length_drop, List.length_take]; rfl)) ?_; (with_reducible refine (budget_Server_Charge.calls kj12 g189 t199 t200 t201 t202 t203 (wrap64 ((wrap64 ((wrap64 (Int.tmod (IntKind.u64.wrap (a2)) 1000000)) + (wrap64 (x11_2 * (wrap64 (1 + (wrap64 (Int.tmod (IntKind.u64.wrap (a1)) 1000)))))))) + (wrap64 (Int.tdiv (wrap64 ((wrap64 (1 + (wrap64 (Int.tmod (IntKind.u64.wrap (a1)) 1000)))) - (Int.tmod (wrap64 (rd l3 x11_2)) (wrap64 ((wrap64 (1 + (wrap64 (Int.tmod (IntKind.u64.wrap (a0)) (IntKind.u64.wrap (wrap64 (1 + (wrap64 (Int.tmod (IntKind.u64.wrap (a1)) 1000))))))))) + 1))))) 2)))) (Int.tmod (wrap64 (rd l3 x11_2)) (wrap64 ((wrap64 (1 + (wrap64 (Int.tmod (IntKind.u64.wrap (a0)) (IntKind.u64.wrap (wrap64 (1 + (wrap64 (Int.tmod (IntKind.u64.wrap (a1)) 1000))))))))) + 1))) t204 false t206 t207 t208 t209 t210 w _ ?side1 ?side2 A22.out).mono ?_); (case side1 => repeat (first | (with_reducible first | exact HI189.out | apply IsS84.alloc | apply IsS84.drewN | apply IsS84.drew | apply IsS84.set_0 | apply IsS84.set_1 | apply IsS84.set_2 | apply IsS84.set_3 | apply IsS84.set_4) | exact HI189.out)); (case side2 => repeat (first | (with_reducible first | exact HB.out | apply below_alloc | apply pw_below_drewN | apply below_drew1 | refine below_set ?_ (IsS84.ge HI189.out)) | exact HB.out)); rintro e w30 ⟨rfl, hi, hb, hk⟩; refine ⟨_, rfl, ?_⟩; have n0_ := Aside0.mk (hb); have n1_ := Aside0.mk (hi); clear HB; clear HI189; have HB := n0_; have HI189 := n1_; clear n0_ n1_; (try clear hb); (try clear hb2); (try clear hk); (try clear hi)) | (go_at_call 18; (with_reducible refine (budget_Server_Left.calls kj12 g189 t206 t207 t208 t209 t210 (wrap64 ((wrap64 ((wrap64 ((wrap64 (Int.tmod (IntKind.u64.wrap (a2)) 1000000)) + (wrap64 (x11_2 * (wrap64 (1 + (wrap64 (Int.tmod (IntKind.u64.wrap (a1)) 1000)))))))) + (wrap64 (1 + (wrap64 (Int.tmod (IntKind.u64.wrap (a1)) 1000)))))) - 1)) t211 t212 t213 t214 t215 t216 w _ ?side1 ?side2 A27.out).mono ?_); (case side1 => repeat (first | (with_reducible first | exact HI189.out | apply IsS84.alloc | apply IsS84.drewN | apply IsS84.drew | apply IsS84.set_0 | apply IsS84.set_1 | apply IsS84.set_2 | apply IsS84.set_3 | apply IsS84.set_4) | exact HI189.out)); (case side2 => repeat (first | (with_reducible first | exact HB.out | apply below_alloc | apply pw_below_drewN | apply below_drew1 | refine below_set ?_ (IsS84.ge HI189.out)) | exact HB.out)); rintro e w31 ⟨rfl, hi, hb, hk⟩; have n0_ := Aside0.mk (hb); have n1_ := Aside0.mk (hi); clear HB; clear HI189; have HB := n0_; have HI189 := n1_; clear n0_ n1_; (try clear hb); (try clear hb2); (try clear hk); (try clear hi)))
                                  go_ret
                                  exact ⟨by first | rfl | (simp [errW_none, errW_some] <;> rfl) | (simp [*, errW_none, errW_some] <;> rfl), by repeat (first | (with_reducible first | exact HB.out | apply below_alloc | apply pw_below_drewN | apply below_drew1 | refine below_set ?_ (IsS84.ge HI189.out)) | exact HB.out)⟩
                                · rw [if_neg c28] at H
                                  have c28b0 : decide ((wrap64 ((wrap64 (1 + (wrap64 (Int.tmod (IntKind.u64.wrap (a0)) (IntKind.u64.wrap (wrap64 (1 + (wrap64 (Int.tmod (IntKind.u64.wrap (a1)) 1000))))))))) - (Int.tmod (wrap64 (rd l3 x11_2)) (wrap64 ((wrap64 (1 + (wrap64 (Int.tmod (IntKind.u64.wrap (a0)) (IntKind.u64.wrap (wrap64 (1 + (wrap64 (Int.tmod (IntKind.u64.wrap (a1)) 1000))))))))) + 1))))) < t211) = false := decide_eq_false c28
                                  clear c28
                                  have H' := Aside0.mk H
                                  clear H
                                  have p197 : 0 ≤ (x11_2 : Int) := of_decide_eq_true (by first | (with_reducible assumption) | assumption)
                                  have q197 : x11_2 < (l3.length : Int) := of_decide_eq_true (by first | (with_reducible assumption) | assumption)
                                  obtain ⟨ad197, e197, hx197_0⟩ := Kd.at_int HR3.out x11_2 p197 q197
                                  cases e197
                                  replace hx197_0 := (HB.out.cell (World.block_lt_of_cell? w _ hx197_0)).trans hx197_0
                                  replace p197 := eq_true p197
                                  replace q197 := eq_true q197
                                  go_wp2_with (first | ((with_reducible refine gate_callee (f := 18) rfl ?_); refine goesL_ (some 77) rfl rfl Try.func18 (by kernel_rfl) rfl #[.pointer (some ⟨g189, 0, none⟩), .int .i64 (wrap64 ((wrap64 ((wrap64 (Int.tmod (IntKind.u64.wrap (a2)) 1000000)) + (wrap64 (x11_2 * (wrap64 (1 + (wrap64 (Int.tmod (IntKind.u64.wrap (a1)) 1000)))))))) + (wrap64 (Int.tdiv (wrap64 ((wrap64 (1 + (wrap64 (Int.tmod (IntKind.u64.wrap (a1)) 1000)))) - (Int.tmod (wrap64 (rd l3 x11_2)) (wrap64 ((wrap64 (1 + (wrap64 (Int.tmod (IntKind.u64.wrap (a0)) (IntKind.u64.wrap (wrap64 (1 + (wrap64 (Int.tmod (IntKind.u64.wrap (a1)) 1000))))))))) + 1))))) 2))))] rfl (by (try simp only [List.map_toArray, List.map_cons, List.map_nil]); first | done | rfl | (simp only [List.length_drop, List.length_take]; rfl)) ?_; (with_reducible refine (budget_Server_Left.calls kj12 g189 x190000_2 x190001_2 x190002_2 x190003_2 x190004_2 (wrap64 ((wrap64 ((wrap64 (Int.tmod (IntKind.u64.wrap (a2)) 1000000)) + (wrap64 (x11_2 * (wrap64 (1 + (wrap64 (Int.tmod (IntKind.u64.wrap (a1)) 1000)))))))) + (wrap64 (Int.tdiv (wrap64 ((wrap64 (1 + (wrap64 (Int.tmod (IntKind.u64.wrap (a1)) 1000)))) - (Int.tmod (wrap64 (rd l3 x11_2)) (wrap64 ((wrap64 (1 + (wrap64 (Int.tmod (IntKind.u64.wrap (a0)) (IntKind.u64.wrap (wrap64 (1 + (wrap64 (Int.tmod (IntKind.u64.wrap (a1)) 1000))))))))) + 1))))) 2)))) t198 t199 t200 t201 t202 t203 w _ ?side1 ?side2 A19.out).mono ?_); (case side1 => repeat (first | (with_reducible first | exact HI189.out | apply IsS84.alloc | apply IsS84.drewN | apply IsS84.drew | apply IsS84.set_0 | apply IsS84.set_1 | apply IsS84.set_2 | apply IsS84.set_3 | apply IsS84.set_4) | exact HI189.out)); (case side2 => repeat (first | (with_reducible first | exact HB.out | apply below_alloc | apply pw_below_drewN | apply below_drew1 | refine below_set ?_ (IsS84.ge HI189.out)) | exact HB.out)); rintro e w32 ⟨rfl, hi, hb, hk⟩; refine ⟨_, rfl, ?_⟩; have n0_ := Aside0.mk (hb); have n1_ := Aside0.mk (hi); clear HB; clear HI189; have HB := n0_; have HI189 := n1_; clear n0_ n1_; (try clear hb); (try clear hb2); (try clear hk); (try clear hi)) | ((with_reducible refine gate_callee (f := 16) rfl ?_); refine goesL_ (some 84) rfl rfl Try.func16 (by kernel_rfl) rfl #[.pointer (some ⟨g189, 0, none⟩), .int .i64 (wrap64 ((wrap64 ((wrap64 (Int.tmod (IntKind.u64.wrap (a2)) 1000000)) + (wrap64 (x11_2 * (wrap64 (1 + (wrap64 (Int.tmod (IntKind.u64.wrap (a1)) 1000)))))))) + (wrap64 (Int.tdiv (wrap64 ((wrap64 (1 + (wrap64 (Int.tmod (IntKind.u64.wrap (a1)) 1000)))) - (Int.tmod (wrap64 (rd l3 x11_2)) (wrap64 ((wrap64 (1 + (wrap64 (Int.tmod (IntKind.u64.wrap (a0)) (IntKind.u64.wrap (wrap64 (1 + (wrap64 (Int.tmod (IntKind.u64.wrap (a1)) 1000))))))))) + 1))))) 2)))), .int .i64 (Int.tmod (wrap64 (rd l3 x11_2)) (wrap64 ((wrap64 (1 + (wrap64 (Int.tmod (IntKind.u64.wrap (a0)) (IntKind.u64.wrap (wrap64 (1 + (wrap64 (Int.tmod (IntKind.u64.wrap (a1)) 1000))))))))) + 1)))] rfl (by (try simp only [List.map_toArray, List.map_cons, List.map_nil]); first | done | rfl | (simp only [List.length_drop, List.length_take]; rfl)) ?_; (with_reducible refine (budget_Server_Charge.calls kj12 g189 t199 t200 t201 t202 t203 (wrap64 ((wrap64 ((wrap64 (Int.tmod (IntKind.u64.wrap (a2)) 1000000)) + (wrap64 (x11_2 * (wrap64 (1 + (wrap64 (Int.tmod (IntKind.u64.wrap (a1)) 1000)))))))) + (wrap64 (Int.tdiv (wrap64 ((wrap64 (1 + (wrap64 (Int.tmod (IntKind.u64.wrap (a1)) 1000)))) - (Int.tmod (wrap64 (rd l3 x11_2)) (wrap64 ((wrap64 (1 + (wrap64 (Int.tmod (IntKind.u64.wrap (a0)) (IntKind.u64.wrap (wrap64 (1 + (wrap64 (Int.tmod (IntKind.u64.wrap (a1)) 1000))))))))) + 1))))) 2)))) (Int.tmod (wrap64 (rd l3 x11_2)) (wrap64 ((wrap64 (1 + (wrap64 (Int.tmod (IntKind.u64.wrap (a0)) (IntKind.u64.wrap (wrap64 (1 + (wrap64 (Int.tmod (IntKind.u64.wrap (a1)) 1000))))))))) + 1))) t204 false t206 t207 t208 t209 t210 w _ ?side1 ?side2 A22.out).mono ?_); (case side1 => repeat (first | (with_reducible first | exact HI189.out | apply IsS84.alloc | apply IsS84.drewN | apply IsS84.drew | apply IsS84.set_0 | apply IsS84.set_1 | apply IsS84.set_2 | apply IsS84.set_3 | apply IsS84.set_4) | exact HI189.out)); (case side2 => repeat (first | (with_reducible first | exact HB.out | apply below_alloc | apply pw_below_drewN | apply below_drew1 | refine below_set ?_ (IsS84.ge HI189.out)) | exact HB.out)); rintro e w33 ⟨rfl, hi, hb, hk⟩; refine ⟨_, rfl, ?_⟩; have n0_ := Aside0.mk (hb); have n1_ := Aside0.mk (hi); clear HB; clear HI189; have HB := n0_; have HI189 := n1_; clear n0_ n1_; (try clear hb); (try clear hb2); (try clear hk); (try clear hi)) | (go_at_call 18; (with_reducible refine (budget_Server_Left.calls kj12 g189 t206 t207 t208 t209 t210 (wrap64 ((wrap64 ((wrap64 ((wrap64 (Int.tmod (IntKind.u64.wrap (a2)) 1000000)) + (wrap64 (x11_2 * (wrap64 (1 + (wrap64 (Int.tmod (IntKind.u64.wrap (a1)) 1000)))))))) + (wrap64 (1 + (wrap64 (Int.tmod (IntKind.u64.wrap (a1)) 1000)))))) - 1)) t211 t212 t213 t214 t215 t216 w _ ?side1 ?side2 A27.out).mono ?_); (case side1 => repeat (first | (with_reducible first | exact HI189.out | apply IsS84.alloc | apply IsS84.drewN | apply IsS84.drew | apply IsS84.set_0 | apply IsS84.set_1 | apply IsS84.set_2 | apply IsS84.set_3 | apply IsS84.set_4) | exact HI189.out)); (case side2 => repeat (first | (with_reducible first | exact HB.out | apply below_alloc | apply pw_below_drewN | apply below_drew1 | refine below_set ?_ (IsS84.ge HI189.out)) | exact HB.out)); rintro e w34 ⟨rfl, hi, hb, hk⟩; have n0_ := Aside0.mk (hb); have n1_ := Aside0.mk (hi); clear HB; clear HI189; have HB := n0_; have HI189 := n1_; clear n0_ n1_; (try clear hb); (try clear hb2); (try clear hk); (try clear hi)))
                                  go_roundg kj12
                                  case measure => have := HJ6.out; have := HK2.out; have := HJ12.out; omega
                                  case rel => exact ⟨(wrap64 (x11_2 + 1)), (t212), (t213), (t214), (t215), (t216), (by first | rfl | (simp; done) | (simp [*]; done)), H', ⟨by have := HJ6.out; have := HK2.out; have := HJ12.out; omega⟩, ⟨by repeat (first | (with_reducible first | exact HI189.out | apply IsS84.alloc | apply IsS84.drewN | apply IsS84.drew | apply IsS84.set_0 | apply IsS84.set_1 | apply IsS84.set_2 | apply IsS84.set_3 | apply IsS84.set_4) | exact HI189.out)⟩, ⟨by repeat (first | (with_reducible first | exact HB.out | apply below_alloc | apply pw_below_drewN | apply below_drew1 | refine below_set ?_ (IsS84.ge HI189.out)) | exact HB.out)⟩⟩
                            · rw [if_neg c23] at H
                              have c23b0 : (t204 == (Int.tmod (wrap64 (rd l3 x11_2)) (wrap64 ((wrap64 (1 + (wrap64 (Int.tmod (IntKind.u64.wrap (a0)) (IntKind.u64.wrap (wrap64 (1 + (wrap64 (Int.tmod (IntKind.u64.wrap (a1)) 1000))))))))) + 1)))) = false := beq_eq_false_iff_ne.mpr c23
                              have c23b1 : (t204 != (Int.tmod (wrap64 (rd l3 x11_2)) (wrap64 ((wrap64 (1 + (wrap64 (Int.tmod (IntKind.u64.wrap (a0)) (IntKind.u64.wrap (wrap64 (1 + (wrap64 (Int.tmod (IntKind.u64.wrap (a1)) 1000))))))))) + 1)))) = true := bne_iff_ne.mpr c23
                              obtain rfl := Option.some.inj H
                              have p197 : 0 ≤ (x11_2 : Int) := of_decide_eq_true (by first | (with_reducible assumption) | assumption)
                              have q197 : x11_2 < (l3.length : Int) := of_decide_eq_true (by first | (with_reducible assumption) | assumption)
                              obtain ⟨ad197, e197, hx197_0⟩ := Kd.at_int HR3.out x11_2 p197 q197
                              cases e197
                              replace hx197_0 := (HB.out.cell (World.block_lt_of_cell? w _ hx197_0)).trans hx197_0
                              replace p197 := eq_true p197
                              replace q197 := eq_true q197
                              go_wp2_with (first | ((with_reducible refine gate_callee (f := 18) rfl ?_); refine goesL_ (some 77) rfl rfl Try.func18 (by kernel_rfl) rfl #[.pointer (some ⟨g189, 0, none⟩), .int .i64 (wrap64 ((wrap64 ((wrap64 (Int.tmod (IntKind.u64.wrap (a2)) 1000000)) + (wrap64 (x11_2 * (wrap64 (1 + (wrap64 (Int.tmod (IntKind.u64.wrap (a1)) 1000)))))))) + (wrap64 (Int.tdiv (wrap64 ((wrap64 (1 + (wrap64 (Int.tmod (IntKind.u64.wrap (a1)) 1000)))) - (Int.tmod (wrap64 (rd l3 x11_2)) (wrap64 ((wrap64 (1 + (wrap64 (Int.tmod (IntKind.u64.wrap (a0)) (IntKind.u64.wrap (wrap64 (1 + (wrap64 (Int.tmod (IntKind.u64.wrap (a1)) 1000))))))))) + 1))))) 2))))] rfl (by (try simp only [List.map_toArray, List.map_cons, List.map_nil]); first | done | rfl | (simp only [List.length_drop, List.length_take]; rfl)) ?_; (with_reducible refine (budget_Server_Left.calls kj12 g189 x190000_2 x190001_2 x190002_2 x190003_2 x190004_2 (wrap64 ((wrap64 ((wrap64 (Int.tmod (IntKind.u64.wrap (a2)) 1000000)) + (wrap64 (x11_2 * (wrap64 (1 + (wrap64 (Int.tmod (IntKind.u64.wrap (a1)) 1000)))))))) + (wrap64 (Int.tdiv (wrap64 ((wrap64 (1 + (wrap64 (Int.tmod (IntKind.u64.wrap (a1)) 1000)))) - (Int.tmod (wrap64 (rd l3 x11_2)) (wrap64 ((wrap64 (1 + (wrap64 (Int.tmod (IntKind.u64.wrap (a0)) (IntKind.u64.wrap (wrap64 (1 + (wrap64 (Int.tmod (IntKind.u64.wrap (a1)) 1000))))))))) + 1))))) 2)))) t198 t199 t200 t201 t202 t203 w _ ?side1 ?side2 A19.out).mono ?_); (case side1 => repeat (first | (with_reducible first | exact HI189.out | apply IsS84.alloc | apply IsS84.drewN | apply IsS84.drew | apply IsS84.set_0 | apply IsS84.set_1 | apply IsS84.set_2 | apply IsS84.set_3 | apply IsS84.set_4) | exact HI189.out)); (case side2 => repeat (first | (with_reducible first | exact HB.out | apply below_alloc | apply pw_below_drewN | apply below_drew1 | refine below_set ?_ (IsS84.ge HI189.out)) | exact HB.out)); rintro e w35 ⟨rfl, hi, hb, hk⟩; refine ⟨_, rfl, ?_⟩; have n0_ := Aside0.mk (hb); have n1_ := Aside0.mk (hi); clear HB; clear HI189; have HB := n0_; have HI189 := n1_; clear n0_ n1_; (try clear hb); (try clear hb2); (try clear hk); (try clear hi)) | ((with_reducible refine gate_callee (f := 16) rfl ?_); refine goesL_ (some 84) rfl rfl Try.func16 (by kernel_rfl) rfl #[.pointer (some ⟨g189, 0, none⟩), .int .i64 (wrap64 ((wrap64 ((wrap64 (Int.tmod (IntKind.u64.wrap (a2)) 1000000)) + (wrap64 (x11_2 * (wrap64 (1 + (wrap64 (Int.tmod (IntKind.u64.wrap (a1)) 1000)))))))) + (wrap64 (Int.tdiv (wrap64 ((wrap64 (1 + (wrap64 (Int.tmod (IntKind.u64.wrap (a1)) 1000)))) - (Int.tmod (wrap64 (rd l3 x11_2)) (wrap64 ((wrap64 (1 + (wrap64 (Int.tmod (IntKind.u64.wrap (a0)) (IntKind.u64.wrap (wrap64 (1 + (wrap64 (Int.tmod (IntKind.u64.wrap (a1)) 1000))))))))) + 1))))) 2)))), .int .i64 (Int.tmod (wrap64 (rd l3 x11_2)) (wrap64 ((wrap64 (1 + (wrap64 (Int.tmod (IntKind.u64.wrap (a0)) (IntKind.u64.wrap (wrap64 (1 + (wrap64 (Int.tmod (IntKind.u64.wrap (a1)) 1000))))))))) + 1)))] rfl (by (try simp only [List.map_toArray, List.map_cons, List.map_nil]); first | done | rfl | (simp only [List.length_drop, List.length_take]; rfl)) ?_; (with_reducible refine (budget_Server_Charge.calls kj12 g189 t199 t200 t201 t202 t203 (wrap64 ((wrap64 ((wrap64 (Int.tmod (IntKind.u64.wrap (a2)) 1000000)) + (wrap64 (x11_2 * (wrap64 (1 + (wrap64 (Int.tmod (IntKind.u64.wrap (a1)) 1000)))))))) + (wrap64 (Int.tdiv (wrap64 ((wrap64 (1 + (wrap64 (Int.tmod (IntKind.u64.wrap (a1)) 1000)))) - (Int.tmod (wrap64 (rd l3 x11_2)) (wrap64 ((wrap64 (1 + (wrap64 (Int.tmod (IntKind.u64.wrap (a0)) (IntKind.u64.wrap (wrap64 (1 + (wrap64 (Int.tmod (IntKind.u64.wrap (a1)) 1000))))))))) + 1))))) 2)))) (Int.tmod (wrap64 (rd l3 x11_2)) (wrap64 ((wrap64 (1 + (wrap64 (Int.tmod (IntKind.u64.wrap (a0)) (IntKind.u64.wrap (wrap64 (1 + (wrap64 (Int.tmod (IntKind.u64.wrap (a1)) 1000))))))))) + 1))) t204 t205 t206 t207 t208 t209 t210 w _ ?side1 ?side2 A22.out).mono ?_); (case side1 => repeat (first | (with_reducible first | exact HI189.out | apply IsS84.alloc | apply IsS84.drewN | apply IsS84.drew | apply IsS84.set_0 | apply IsS84.set_1 | apply IsS84.set_2 | apply IsS84.set_3 | apply IsS84.set_4) | exact HI189.out)); (case side2 => repeat (first | (with_reducible first | exact HB.out | apply below_alloc | apply pw_below_drewN | apply below_drew1 | refine below_set ?_ (IsS84.ge HI189.out)) | exact HB.out)); rintro e w36 ⟨rfl, hi, hb, hk⟩; refine ⟨_, rfl, ?_⟩; have n0_ := Aside0.mk (hb); have n1_ := Aside0.mk (hi); clear HB; clear HI189; have HB := n0_; have HI189 := n1_; clear n0_ n1_; (try clear hb); (try clear hb2); (try clear hk); (try clear hi)))
                              go_ret
                              exact ⟨by first | rfl | (simp [errW_none, errW_some] <;> rfl) | (simp [*, errW_none, errW_some] <;> rfl), by repeat (first | (with_reducible first | exact HB.out | apply below_alloc | apply pw_below_drewN | apply below_drew1 | refine below_set ?_ (IsS84.ge HI189.out)) | exact HB.out)⟩
                      · rw [if_neg c17] at H
                        exact absurd H (by simp)
                    · rw [if_neg c16] at H
                      exact absurd H (by simp)
                  · replace c15 := Bool.eq_false_iff.mpr c15
                    subst c15
                    have H1 : ((monocoquelaw30_known.f kj12).bind fun t196 => (some t196)) = some r := by rw [if_neg (show ¬ (false = true) by decide)] at H; exact H
                    clear H
                    have H := H1
                    clear H1
                    replace H := Option.bind_eq_some_iff.mp H
                    obtain ⟨t196, A370, H⟩ := H
                    replace H : (some t196) = some r := H
                    have A37 := Aside0.mk A370
                    clear A370
                    obtain rfl := Option.some.inj H
                    go_wp2_with (first | ((with_reducible refine gate_callee (f := 19) rfl ?_); refine goesL_ (some 109) rfl rfl Try.func19 (by kernel_rfl) rfl #[] rfl (by (try simp only [List.map_toArray, List.map_cons, List.map_nil]); first | done | rfl | (simp only [List.length_drop, List.length_take]; rfl)) ?_; (with_reducible refine (monocoquelaw30_known.calls kj12  t196 _ A37.out).mono ?_); rintro e w38 ⟨rfl, hb⟩; refine ⟨_, rfl, ?_⟩; have n0_ := Aside0.mk (IsS84.below (by repeat (first | (with_reducible first | exact HI189.out | apply IsS84.alloc | apply IsS84.drewN | apply IsS84.drew | apply IsS84.set_0 | apply IsS84.set_1 | apply IsS84.set_2 | apply IsS84.set_3 | apply IsS84.set_4) | exact HI189.out)) hb); have n1_ := Aside0.mk (below_step (by repeat (first | (with_reducible first | exact HB.out | apply below_alloc | apply pw_below_drewN | apply below_drew1 | refine below_set ?_ (IsS84.ge HI189.out)) | exact HB.out)) hb); clear HI189; clear HB; have HI189 := n0_; have HB := n1_; clear n0_ n1_; (try clear hb); (try clear hb2); (try clear hk); (try clear hi)))
                    go_ret
                    exact ⟨by first | rfl | (simp [errW_none, errW_some] <;> rfl) | (simp [*, errW_none, errW_some] <;> rfl), by repeat (first | (with_reducible first | exact HB.out | apply below_alloc | apply pw_below_drewN | apply below_drew1 | refine below_set ?_ (IsS84.ge HI189.out)) | exact HB.out)⟩

/-- THE ONE PURE STATEMENT of monocoquelaw30_BudgetGives: yours. -/
def monocoquelaw30_BudgetGives.Pure : Prop := ∀ (a0 : Int) (a1 : Int) (a2 : Int) (l3 : List Int), (Lit.int .i64 a0).wf = true → (Lit.int .i64 a1).wf = true → (Lit.int .i64 a2).wf = true → l3.length ≤ maxLen → l3.length * 2 ≤ 140737488351232 → (∀ x ∈ l3, (Lit.int .u16 x).wf = true) → ∃ k, monocoquelaw30_BudgetGives.f k a0 a1 a2 l3 = some true
theorem monocoquelaw30_BudgetGives.walk (P : monocoquelaw30_BudgetGives.Pure) (a0 : Int) (a1 : Int) (a2 : Int) (a3 : Option Addr) (len3 cap3 : Nat) (z3 : List Int) (w : World) (w0 : (Lit.int .i64 a0).wf = true) (w1 : (Lit.int .i64 a1).wf = true) (w2 : (Lit.int .i64 a2).wf = true) (w3 : (a3 = none ∧ len3 = 0 ∧ cap3 = 0 ∧ z3 = []) ∨ ∃ x, a3 = some x ∧ len3 ≤ cap3 ∧ cap3 ≤ maxLen ∧ z3.length = cap3 ∧ (∀ i, i < z3.length → w.cell? (x.add i) = some (.int .u16 (z3.getD i 0))) ∧ ∀ n ∈ z3, (Lit.int .u16 n).wf = true) (y3 : len3 * 2 ≤ 140737488351232) :
    Calls Try.prog 4 #[.int .i64 a0, .int .i64 a1, .int .i64 a2, .slice a3 len3 cap3] w fun e w' => e = .returned (.bool true) ∧ Below w.heap.size w w' := by
  obtain ⟨l3, rfl, hr3, hm3, hw3, hc3⟩ := ReadsInt.ofRowC w3
  obtain ⟨k, h⟩ := P a0 a1 a2 l3 w0 w1 w2 hm3 y3 hw3
  refine (monocoquelaw30_BudgetGives.calls k a0 a1 a2 _ _ l3 true w (Kd.C_of_reads (d := (0 : Int)) (h1 := fun _ => rfl) hr3) hc3 h).mono ?_
  rintro e w' ⟨rfl, hd⟩
  exact ⟨rfl, hd⟩

end Go.Proofs.Ytpabbpcklgipnaa.PBudgetGives
