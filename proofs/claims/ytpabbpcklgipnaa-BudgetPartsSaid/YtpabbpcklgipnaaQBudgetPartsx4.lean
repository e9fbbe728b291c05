/- The walks of functions that the law BudgetParts reaches. Written by this session's turn of the kit's printer, not by the kit's own. -/
import Derived.Test.YtpabbpcklgipnaaQBudgetPartsx0
import Derived.Test.YtpabbpcklgipnaaQBudgetPartsx1
import Derived.Test.YtpabbpcklgipnaaQBudgetPartsx2
import Derived.Test.YtpabbpcklgipnaaQBudgetPartsx3
namespace Go.Proofs.Ytpabbpcklgipnaa.PBudgetParts
open Go.RowKit Go.Proofs.YtpabbpcklgipnaaW.PrintWords Go.Proofs.YtpabbpcklgipnaaW.PrintLast Go.Proofs.YtpabbpcklgipnaaW.PrintMore
attribute [local go_sem] max2_int min2_int max_two min_two max_three min_three max_four min_four   -- for this text's walks alone
set_option linter.unusedVariables false
set_option linter.unusedSimpArgs false

attribute [local go_sem high] eqA80 eqA82
/-! ### budget_Server_Same: function 21 -/
def budget_Server_Same.f (s0_0 : Int) (s0_1 : Int) (s0_2 : Int) (s0_3 : Int) (s0_4 : Int) (s1_0 : Int) (s1_1 : Int) (s1_2 : Int) (s1_3 : Int) (s1_4 : Int) : Option (Bool) := if (s0_0 == s1_0 && (s0_1 == s1_1)) = true then (if (s0_2 == s1_2 && (s0_3 == s1_3)) = true then (some (s0_4 == s1_4)) else (some false)) else (some false)
set_option maxHeartbeats 8000000 in
set_option maxRecDepth 100000 in
theorem budget_Server_Same.calls (g : Nat) (s0_0 : Int) (s0_1 : Int) (s0_2 : Int) (s0_3 : Int) (s0_4 : Int) (h1_ : Nat) (s1_0 : Int) (s1_1 : Int) (s1_2 : Int) (s1_3 : Int) (s1_4 : Int) (r : Bool) (w0 w : World) (hI0 : IsS84 w0 w g s0_0 s0_1 s0_2 s0_3 s0_4) (hI1 : IsS84 w0 w h1_ s1_0 s1_1 s1_2 s1_3 s1_4) (hB : Below w0.heap.size w0 w) (h : budget_Server_Same.f s0_0 s0_1 s0_2 s0_3 s0_4 s1_0 s1_1 s1_2 s1_3 s1_4 = some r) :
    Calls Try.prog 21 #[.pointer (some ⟨g, 0, none⟩), .pointer (some ⟨h1_, 0, none⟩)] w fun e w' => e = .returned (.bool r) ∧ Drawn0 w w' := by
  have hu25 := Try.underlying25
  have hu80 := Try.underlying80
  have hu82 := Try.underlying82
  have HI0 := Aside0.mk hI0
  clear hI0
  have HI1 := Aside0.mk hI1
  clear hI1
  have HW0 := Aside0.mk hB.size
  have HB := Aside0.mk hB
  clear hB
  have H : (if (s0_0 == s1_0 && (s0_1 == s1_1)) = true then (if (s0_2 == s1_2 && (s0_3 == s1_3)) = true then (some (s0_4 == s1_4)) else (some false)) else (some false)) = some r := h
  clear h
  by_cases c3 : (s0_0 == s1_0 && (s0_1 == s1_1)) = true
  · rw [if_pos c3] at H
    have c3b0 : (s0_0 == s1_0 && (s0_1 == s1_1)) = true := c3
    (try (have c3b1 : decide (s0_0 = s1_0 && (s0_1 == s1_1)) = true := by simpa using c3))
    (try (have c3b2 : (s0_0 == s1_0 && (s0_1 == s1_1)) = true := by simpa using c3))
    clear c3
    by_cases c4 : (s0_2 == s1_2 && (s0_3 == s1_3)) = true
    · rw [if_pos c4] at H
      have c4b0 : (s0_2 == s1_2 && (s0_3 == s1_3)) = true := c4
      (try (have c4b1 : decide (s0_2 = s1_2 && (s0_3 == s1_3)) = true := by simpa using c4))
      (try (have c4b2 : (s0_2 == s1_2 && (s0_3 == s1_3)) = true := by simpa using c4))
      clear c4
      obtain rfl := Option.some.inj H
      obtain ⟨HGz5, hgz5⟩ := HI0.out
      have hcz5_0 := cellS84_0 HGz5
      have hcz5_1 := cellS84_1 HGz5
      have hcz5_2 := cellS84_2 HGz5
      have hcz5_3 := cellS84_3 HGz5
      have hcz5_4 := cellS84_4 HGz5
      have hfz5_0 := blk_frozen HGz5 0
      have hfz5_1 := blk_frozen HGz5 1
      have hfz5_2 := blk_frozen HGz5 2
      have hfz5_3 := blk_frozen HGz5 3
      have hfz5_4 := blk_frozen HGz5 4
      clear HGz5 hgz5
      obtain ⟨HGz6, hgz6⟩ := HI1.out
      have hcz6_0 := cellS84_0 HGz6
      have hcz6_1 := cellS84_1 HGz6
      have hcz6_2 := cellS84_2 HGz6
      have hcz6_3 := cellS84_3 HGz6
      have hcz6_4 := cellS84_4 HGz6
      have hfz6_0 := blk_frozen HGz6 0
      have hfz6_1 := blk_frozen HGz6 1
      have hfz6_2 := blk_frozen HGz6 2
      have hfz6_3 := blk_frozen HGz6 3
      have hfz6_4 := blk_frozen HGz6 4
      clear HGz6 hgz6
      go_enter Try.func21, Try.ntmps21
      go_wp2
      repeat (go_quiet (fail); try go_wp2)
      go_ret
      exact ⟨by first | rfl | (simp; done) | (simp [*]; done), by repeat (first | exact Drawn0.refl _ | apply Drawn0.step)⟩
    · rw [if_neg c4] at H
      have c4b0 : (s0_2 == s1_2 && (s0_3 == s1_3)) = false := by simpa using c4
      (try (have c4b1 : decide (s0_2 = s1_2 && (s0_3 == s1_3)) = false := by simpa using c4))
      (try (have c4b2 : (s0_2 == s1_2 && (s0_3 == s1_3)) = false := by simpa using c4))
      (try (have c4b3 : ¬ (s0_2 = s1_2 && (s0_3 == s1_3)) := by simpa using c4))
      clear c4
      obtain rfl := Option.some.inj H
      obtain ⟨HGz7, hgz7⟩ := HI0.out
      have hcz7_0 := cellS84_0 HGz7
      have hcz7_1 := cellS84_1 HGz7
      have hcz7_2 := cellS84_2 HGz7
      have hcz7_3 := cellS84_3 HGz7
      have hcz7_4 := cellS84_4 HGz7
      have hfz7_0 := blk_frozen HGz7 0
      have hfz7_1 := blk_frozen HGz7 1
      have hfz7_2 := blk_frozen HGz7 2
      have hfz7_3 := blk_frozen HGz7 3
      have hfz7_4 := blk_frozen HGz7 4
      clear HGz7 hgz7
      obtain ⟨HGz8, hgz8⟩ := HI1.out
      have hcz8_0 := cellS84_0 HGz8
      have hcz8_1 := cellS84_1 HGz8
      have hcz8_2 := cellS84_2 HGz8
      have hcz8_3 := cellS84_3 HGz8
      have hcz8_4 := cellS84_4 HGz8
      have hfz8_0 := blk_frozen HGz8 0
      have hfz8_1 := blk_frozen HGz8 1
      have hfz8_2 := blk_frozen HGz8 2
      have hfz8_3 := blk_frozen HGz8 3
      have hfz8_4 := blk_frozen HGz8 4
      clear HGz8 hgz8
      go_enter Try.func21, Try.ntmps21
      go_wp2
      repeat (go_quiet (fail); try go_wp2)
      go_ret
      exact ⟨by first | rfl | (simp; done) | (simp [*]; done), by repeat (first | exact Drawn0.refl _ | apply Drawn0.step)⟩
  · rw [if_neg c3] at H
    have c3b0 : (s0_0 == s1_0 && (s0_1 == s1_1)) = false := by simpa using c3
    (try (have c3b1 : decide (s0_0 = s1_0 && (s0_1 == s1_1)) = false := by simpa using c3))
    (try (have c3b2 : (s0_0 == s1_0 && (s0_1 == s1_1)) = false := by simpa using c3))
    (try (have c3b3 : ¬ (s0_0 = s1_0 && (s0_1 == s1_1)) := by simpa using c3))
    clear c3
    obtain rfl := Option.some.inj H
    obtain ⟨HGz9, hgz9⟩ := HI0.out
    have hcz9_0 := cellS84_0 HGz9
    have hcz9_1 := cellS84_1 HGz9
    have hcz9_2 := cellS84_2 HGz9
    have hcz9_3 := cellS84_3 HGz9
    have hcz9_4 := cellS84_4 HGz9
    have hfz9_0 := blk_frozen HGz9 0
    have hfz9_1 := blk_frozen HGz9 1
    have hfz9_2 := blk_frozen HGz9 2
    have hfz9_3 := blk_frozen HGz9 3
    have hfz9_4 := blk_frozen HGz9 4
    clear HGz9 hgz9
    obtain ⟨HGz10, hgz10⟩ := HI1.out
    have hcz10_0 := cellS84_0 HGz10
    have hcz10_1 := cellS84_1 HGz10
    have hcz10_2 := cellS84_2 HGz10
    have hcz10_3 := cellS84_3 HGz10
    have hcz10_4 := cellS84_4 HGz10
    have hfz10_0 := blk_frozen HGz10 0
    have hfz10_1 := blk_frozen HGz10 1
    have hfz10_2 := blk_frozen HGz10 2
    have hfz10_3 := blk_frozen HGz10 3
    have hfz10_4 := blk_frozen HGz10 4
    clear HGz10 hgz10
    go_enter Try.func21, Try.ntmps21
    go_wp2
    repeat (go_quiet (fail); try go_wp2)
    go_ret
    exact ⟨by first | rfl | (simp; done) | (simp [*]; done), by repeat (first | exact Drawn0.refl _ | apply Drawn0.step)⟩

/-! ### monocoquelaw30_BudgetParts: function 6 -/
mutual
def monocoquelaw30_BudgetParts.j0 : Nat → Int → Int → List Int → Int → Bool → Int → Int → Int → Int → Int → Int → Int → Int → Int → Int → Option (Bool)
  | 0, _, _, _, _, _, _, _, _, _, _, _, _, _, _, _ => none
  | k + 1, x0, x1, x3, x9, x65, x190000, x190001, x190002, x190003, x190004, x197000, x197001, x197002, x197003, x197004 => if x65 = true then (some false) else ((budget_Server_Next.f x190000 x190001 x190002 x190003 x190004 x9).bind fun bt198 => (monocoquelaw30_BudgetParts.l0 k x0 x1 x3 x9 bt198.1 0 0 x9 0 bt198.2.1 bt198.2.2.1 bt198.2.2.2.1 bt198.2.2.2.2.1 bt198.2.2.2.2.2 x197000 x197001 x197002 x197003 x197004))
def monocoquelaw30_BudgetParts.j3 : Nat → Int → Int → Int → Int → Int → Int → Int → Int → Int → Int → Int → Int → Int → Int → Int → Int → Option (Bool)
  | 0, _, _, _, _, _, _, _, _, _, _, _, _, _, _, _, _ => none
  | k + 1, x0, x1, x9, x14, x15, x16, x190000, x190001, x190002, x190003, x190004, x197000, x197001, x197002, x197003, x197004 => (budget_Server_Charge.f k x197000 x197001 x197002 x197003 x197004 x9 x15).bind fun bt212 => ((monocoquelaw30_known.f k).bind fun t219 => (if t219 = true then (if bt212.1 = x16 then (if (bt212.2.1 == (decide (x16 < x15))) = true then ((budget_Server_Left.f k x190000 x190001 x190002 x190003 x190004 (wrap64 (x14 - 1))).bind fun bt220 => ((budget_Server_Left.f k bt212.2.2.1 bt212.2.2.2.1 bt212.2.2.2.2.1 bt212.2.2.2.2.2.1 bt212.2.2.2.2.2.2 (wrap64 (x14 - 1))).bind fun bt226 => (if bt220.1 = bt226.1 then ((budget_Server_Left.f k bt220.2.1 bt220.2.2.1 bt220.2.2.2.1 bt220.2.2.2.2.1 bt220.2.2.2.2.2 x14).bind fun bt232 => (if bt232.1 = (mn x0 x1) then ((budget_Server_Same.f bt232.2.1 bt232.2.2.1 bt232.2.2.2.1 bt232.2.2.2.2.1 bt232.2.2.2.2.2 bt226.2.1 bt226.2.2.1 bt226.2.2.2.1 bt226.2.2.2.2.1 bt226.2.2.2.2.2).bind fun t238 => (if t238 = true then (some true) else (some (x16 == 0)))) else (some false))) else (some false)))) else (some false)) else (some false)) else (some false)))
def monocoquelaw30_BudgetParts.l0 : Nat → Int → Int → List Int → Int → Int → Int → Int → Int → Int → Int → Int → Int → Int → Int → Int → Int → Int → Int → Int → Option (Bool)
  | 0, _, _, _, _, _, _, _, _, _, _, _, _, _, _, _, _, _, _, _ => none
  | k + 1, x0, x1, x3, x9, x14, x15, x16, x17, x18, x190000, x190001, x190002, x190003, x190004, x197000, x197001, x197002, x197003, x197004 => if x18 < (x3.length : Int) then (monocoquelaw30_BudgetParts.j2 k x0 x1 x3 x9 x14 x15 x16 x17 x18 (decide (x18 < 20)) x190000 x190001 x190002 x190003 x190004 x197000 x197001 x197002 x197003 x197004) else (monocoquelaw30_BudgetParts.j2 k x0 x1 x3 x9 x14 x15 x16 x17 x18 false x190000 x190001 x190002 x190003 x190004 x197000 x197001 x197002 x197003 x197004)
def monocoquelaw30_BudgetParts.j2 : Nat → Int → Int → List Int → Int → Int → Int → Int → Int → Int → Bool → Int → Int → Int → Int → Int → Int → Int → Int → Int → Int → Option (Bool)
  | 0, _, _, _, _, _, _, _, _, _, _, _, _, _, _, _, _, _, _, _, _ => none
  | k + 1, x0, x1, x3, x9, x14, x15, x16, x17, x18, x77, x190000, x190001, x190002, x190003, x190004, x197000, x197001, x197002, x197003, x197004 => if x77 = true then (if 0 ≤ x18 then (if x18 < (x3.length : Int) then (if (wrap64 (x17 + (wrap64 (Int.tmod (rd x3 x18) 50)))) ≥ x14 then (monocoquelaw30_BudgetParts.j3 k x0 x1 x9 x14 x15 x16 x190000 x190001 x190002 x190003 x190004 x197000 x197001 x197002 x197003 x197004) else ((budget_Server_Charge.f k x190000 x190001 x190002 x190003 x190004 x17 (wrap64 (Int.tmod (rd x3 x18) 50))).bind fun bt205 => (monocoquelaw30_BudgetParts.l0 k x0 x1 x3 x9 x14 (wrap64 (x15 + (wrap64 (Int.tmod (rd x3 x18) 50)))) (wrap64 (x16 + bt205.1)) (wrap64 (x17 + bt205.1)) (wrap64 (x18 + 1)) bt205.2.2.1 bt205.2.2.2.1 bt205.2.2.2.2.1 bt205.2.2.2.2.2.1 bt205.2.2.2.2.2.2 x197000 x197001 x197002 x197003 x197004))) else (none)) else (none)) else (monocoquelaw30_BudgetParts.j3 k x0 x1 x9 x14 x15 x16 x190000 x190001 x190002 x190003 x190004 x197000 x197001 x197002 x197003 x197004)
end
def monocoquelaw30_BudgetParts.f (k : Nat) (a0 : Int) (a1 : Int) (a2 : Int) (l3 : List Int) : Option (Bool) := if (IntKind.u64.wrap (wrap64 (1 + (wrap64 (Int.tmod (IntKind.u64.wrap (a1)) 1000))))) = 0 then (none) else ((budget_New.f (wrap64 (1 + (wrap64 (Int.tmod (IntKind.u64.wrap (a0)) (IntKind.u64.wrap (wrap64 (1 + (wrap64 (Int.tmod (IntKind.u64.wrap (a1)) 1000))))))))) (wrap64 (1 + (wrap64 (Int.tmod (IntKind.u64.wrap (a1)) 1000))))).bind fun bt184 => ((budget_New.f (wrap64 (1 + (wrap64 (Int.tmod (IntKind.u64.wrap (a0)) (IntKind.u64.wrap (wrap64 (1 + (wrap64 (Int.tmod (IntKind.u64.wrap (a1)) 1000))))))))) (wrap64 (1 + (wrap64 (Int.tmod (IntKind.u64.wrap (a1)) 1000))))).bind fun bt191 => (if bt184.2.2.2.2.2 = 0 then (if bt191.2.2.2.2.2 = 0 then (monocoquelaw30_BudgetParts.j0 k (wrap64 (1 + (wrap64 (Int.tmod (IntKind.u64.wrap (a0)) (IntKind.u64.wrap (wrap64 (1 + (wrap64 (Int.tmod (IntKind.u64.wrap (a1)) 1000))))))))) (wrap64 (1 + (wrap64 (Int.tmod (IntKind.u64.wrap (a1)) 1000)))) l3 (wrap64 (Int.tmod (IntKind.u64.wrap (a2)) 100000)) false bt184.1 bt184.2.1 bt184.2.2.1 bt184.2.2.2.1 bt184.2.2.2.2.1 bt191.1 bt191.2.1 bt191.2.2.1 bt191.2.2.2.1 bt191.2.2.2.2.1) else (monocoquelaw30_BudgetParts.j0 k (wrap64 (1 + (wrap64 (Int.tmod (IntKind.u64.wrap (a0)) (IntKind.u64.wrap (wrap64 (1 + (wrap64 (Int.tmod (IntKind.u64.wrap (a1)) 1000))))))))) (wrap64 (1 + (wrap64 (Int.tmod (IntKind.u64.wrap (a1)) 1000)))) l3 (wrap64 (Int.tmod (IntKind.u64.wrap (a2)) 100000)) true bt184.1 bt184.2.1 bt184.2.2.1 bt184.2.2.2.1 bt184.2.2.2.2.1 bt191.1 bt191.2.1 bt191.2.2.1 bt191.2.2.2.1 bt191.2.2.2.2.1)) else (monocoquelaw30_BudgetParts.j0 k (wrap64 (1 + (wrap64 (Int.tmod (IntKind.u64.wrap (a0)) (IntKind.u64.wrap (wrap64 (1 + (wrap64 (Int.tmod (IntKind.u64.wrap (a1)) 1000))))))))) (wrap64 (1 + (wrap64 (Int.tmod (IntKind.u64.wrap (a1)) 1000)))) l3 (wrap64 (Int.tmod (IntKind.u64.wrap (a2)) 100000)) true bt184.1 bt184.2.1 bt184.2.2.1 bt184.2.2.2.1 bt184.2.2.2.2.1 bt191.1 bt191.2.1 bt191.2.2.1 bt191.2.2.2.1 bt191.2.2.2.2.1))))
theorem monocoquelaw30_BudgetParts.mono_l : ∀ k, (∀ y0 y1 y2 y3 y4 y5 y6 y7 y8 y9 y10 y11 y12 y13 y14, LeO (monocoquelaw30_BudgetParts.j0 k y0 y1 y2 y3 y4 y5 y6 y7 y8 y9 y10 y11 y12 y13 y14) (monocoquelaw30_BudgetParts.j0 (k + 1) y0 y1 y2 y3 y4 y5 y6 y7 y8 y9 y10 y11 y12 y13 y14)) ∧ (∀ y0 y1 y2 y3 y4 y5 y6 y7 y8 y9 y10 y11 y12 y13 y14 y15, LeO (monocoquelaw30_BudgetParts.j3 k y0 y1 y2 y3 y4 y5 y6 y7 y8 y9 y10 y11 y12 y13 y14 y15) (monocoquelaw30_BudgetParts.j3 (k + 1) y0 y1 y2 y3 y4 y5 y6 y7 y8 y9 y10 y11 y12 y13 y14 y15)) ∧ (∀ y0 y1 y2 y3 y4 y5 y6 y7 y8 y9 y10 y11 y12 y13 y14 y15 y16 y17 y18, LeO (monocoquelaw30_BudgetParts.l0 k y0 y1 y2 y3 y4 y5 y6 y7 y8 y9 y10 y11 y12 y13 y14 y15 y16 y17 y18) (monocoquelaw30_BudgetParts.l0 (k + 1) y0 y1 y2 y3 y4 y5 y6 y7 y8 y9 y10 y11 y12 y13 y14 y15 y16 y17 y18)) ∧ (∀ y0 y1 y2 y3 y4 y5 y6 y7 y8 y9 y10 y11 y12 y13 y14 y15 y16 y17 y18 y19, LeO (monocoquelaw30_BudgetParts.j2 k y0 y1 y2 y3 y4 y5 y6 y7 y8 y9 y10 y11 y12 y13 y14 y15 y16 y17 y18 y19) (monocoquelaw30_BudgetParts.j2 (k + 1) y0 y1 y2 y3 y4 y5 y6 y7 y8 y9 y10 y11 y12 y13 y14 y15 y16 y17 y18 y19))
  | 0 => ⟨fun _ _ _ _ _ _ _ _ _ _ _ _ _ _ _ r h => by simp [monocoquelaw30_BudgetParts.j0] at h, fun _ _ _ _ _ _ _ _ _ _ _ _ _ _ _ _ r h => by simp [monocoquelaw30_BudgetParts.j3] at h, fun _ _ _ _ _ _ _ _ _ _ _ _ _ _ _ _ _ _ _ r h => by simp [monocoquelaw30_BudgetParts.l0] at h, fun _ _ _ _ _ _ _ _ _ _ _ _ _ _ _ _ _ _ _ _ r h => by simp [monocoquelaw30_BudgetParts.j2] at h⟩
  | k + 1 => by
    obtain ⟨ih0, ih1, ih2, ih3⟩ := monocoquelaw30_BudgetParts.mono_l k
    refine ⟨?_, ?_, ?_, ?_⟩
    · intro y0 y1 y2 y3 y4 y5 y6 y7 y8 y9 y10 y11 y12 y13 y14
      unfold monocoquelaw30_BudgetParts.j0
      repeat' first
      | (with_reducible exact ih0 _ _ _ _ _ _ _ _ _ _ _ _ _ _ _)
      | (with_reducible exact ih1 _ _ _ _ _ _ _ _ _ _ _ _ _ _ _ _)
      | (with_reducible exact ih2 _ _ _ _ _ _ _ _ _ _ _ _ _ _ _ _ _ _ _)
      | (with_reducible exact ih3 _ _ _ _ _ _ _ _ _ _ _ _ _ _ _ _ _ _ _ _)
      | (with_reducible exact budget_Server_Charge.mono _ _ _ _ _ _ _ _)
      | (with_reducible exact budget_Server_Left.mono _ _ _ _ _ _ _)
      | (with_reducible exact monocoquelaw30_known.mono _)
      | (with_reducible exact LeO.refl _)
      | (with_reducible exact LeO.none _)
      | (with_reducible refine LeO.ite ?_ ?_)
      | (with_reducible refine LeO.bind ?_ (fun _ => ?_))
      | exact ih0 _ _ _ _ _ _ _ _ _ _ _ _ _ _ _
      | exact ih1 _ _ _ _ _ _ _ _ _ _ _ _ _ _ _ _
      | exact ih2 _ _ _ _ _ _ _ _ _ _ _ _ _ _ _ _ _ _ _
      | exact ih3 _ _ _ _ _ _ _ _ _ _ _ _ _ _ _ _ _ _ _ _
      | exact budget_Server_Charge.mono _ _ _ _ _ _ _ _
      | exact budget_Server_Left.mono _ _ _ _ _ _ _
      | exact monocoquelaw30_known.mono _
      | exact LeO.none _
      | refine LeO.ite ?_ ?_
      | refine LeO.bind ?_ (fun _ => ?_)
    · intro y0 y1 y2 y3 y4 y5 y6 y7 y8 y9 y10 y11 y12 y13 y14 y15
      unfold monocoquelaw30_BudgetParts.j3
      repeat' first
      | (with_reducible exact ih0 _ _ _ _ _ _ _ _ _ _ _ _ _ _ _)
      | (with_reducible exact ih1 _ _ _ _ _ _ _ _ _ _ _ _ _ _ _ _)
      | (with_reducible exact ih2 _ _ _ _ _ _ _ _ _ _ _ _ _ _ _ _ _ _ _)
      | (with_reducible exact ih3 _ _ _ _ _ _ _ _ _ _ _ _ _ _ _ _ _ _ _ _)
      | (with_reducible exact budget_Server_Charge.mono _ _ _ _ _ _ _ _)
      | (with_reducible exact budget_Server_Left.mono _ _ _ _ _ _ _)
      | (with_reducible exact monocoquelaw30_known.mono _)
      | (with_reducible exact LeO.refl _)
      | (with_reducible exact LeO.none _)
      | (with_reducible refine LeO.ite ?_ ?_)
      | (with_reducible refine LeO.bind ?_ (fun _ => ?_))
      | exact ih0 _ _ _ _ _ _ _ _ _ _ _ _ _ _ _
      | exact ih1 _ _ _ _ _ _ _ _ _ _ _ _ _ _ _ _
      | exact ih2 _ _ _ _ _ _ _ _ _ _ _ _ _ _ _ _ _ _ _
      | exact ih3 _ _ _ _ _ _ _ _ _ _ _ _ _ _ _ _ _ _ _ _
      | exact budget_Server_Charge.mono _ _ _ _ _ _ _ _
      | exact budget_Server_Left.mono _ _ _ _ _ _ _
      | exact monocoquelaw30_known.mono _
      | exact LeO.none _
      | refine LeO.ite ?_ ?_
      | refine LeO.bind ?_ (fun _ => ?_)
    · intro y0 y1 y2 y3 y4 y5 y6 y7 y8 y9 y10 y11 y12 y13 y14 y15 y16 y17 y18
      unfold monocoquelaw30_BudgetParts.l0
      repeat' first
      | (with_reducible exact ih0 _ _ _ _ _ _ _ _ _ _ _ _ _ _ _)
      | (with_reducible exact ih1 _ _ _ _ _ _ _ _ _ _ _ _ _ _ _ _)
      | (with_reducible exact ih2 _ _ _ _ _ _ _ _ _ _ _ _ _ _ _ _ _ _ _)
      | (with_reducible exact ih3 _ _ _ _ _ _ _ _ _ _ _ _ _ _ _ _ _ _ _ _)
      | (with_reducible exact budget_Server_Charge.mono _ _ _ _ _ _ _ _)
      | (with_reducible exact budget_Server_Left.mono _ _ _ _ _ _ _)
      | (with_reducible exact monocoquelaw30_known.mono _)
      | (with_reducible exact LeO.refl _)
      | (with_reducible exact LeO.none _)
      | (with_reducible refine LeO.ite ?_ ?_)
      | (with_reducible refine LeO.bind ?_ (fun _ => ?_))
      | exact ih0 _ _ _ _ _ _ _ _ _ _ _ _ _ _ _
      | exact ih1 _ _ _ _ _ _ _ _ _ _ _ _ _ _ _ _
      | exact ih2 _ _ _ _ _ _ _ _ _ _ _ _ _ _ _ _ _ _ _
      | exact ih3 _ _ _ _ _ _ _ _ _ _ _ _ _ _ _ _ _ _ _ _
      | exact budget_Server_Charge.mono _ _ _ _ _ _ _ _
      | exact budget_Server_Left.mono _ _ _ _ _ _ _
      | exact monocoquelaw30_known.mono _
      | exact LeO.none _
      | refine LeO.ite ?_ ?_
      | refine LeO.bind ?_ (fun _ => ?_)
    · intro y0 y1 y2 y3 y4 y5 y6 y7 y8 y9 y10 y11 y12 y13 y14 y15 y16 y17 y18 y19
      unfold monocoquelaw30_BudgetParts.j2
      repeat' first
      | (with_reducible exact ih0 _ _ _ _ _ _ _ _ _ _ _ _ _ _ _)
      | (with_reducible exact ih1 _ _ _ _ _ _ _ _ _ _ _ _ _ _ _ _)
      | (with_reducible exact ih2 _ _ _ _ _ _ _ _ _ _ _ _ _ _ _ _ _ _ _)
      | (with_reducible exact ih3 _ _ _ _ _ _ _ _ _ _ _ _ _ _ _ _ _ _ _ _)
      | (with_reducible exact budget_Server_Charge.mono _ _ _ _ _ _ _ _)
      | (with_reducible exact budget_Server_Left.mono _ _ _ _ _ _ _)
      | (with_reducible exact monocoquelaw30_known.mono _)
      | (with_reducible exact LeO.refl _)
      | (with_reducible exact LeO.none _)
      | (with_reducible refine LeO.ite ?_ ?_)
      | (with_reducible refine LeO.bind ?_ (fun _ => ?_))
      | exact ih0 _ _ _ _ _ _ _ _ _ _ _ _ _ _ _
      | exact ih1 _ _ _ _ _ _ _ _ _ _ _ _ _ _ _ _
      | exact ih2 _ _ _ _ _ _ _ _ _ _ _ _ _ _ _ _ _ _ _
      | exact ih3 _ _ _ _ _ _ _ _ _ _ _ _ _ _ _ _ _ _ _ _
      | exact budget_Server_Charge.mono _ _ _ _ _ _ _ _
      | exact budget_Server_Left.mono _ _ _ _ _ _ _
      | exact monocoquelaw30_known.mono _
      | exact LeO.none _
      | refine LeO.ite ?_ ?_
      | refine LeO.bind ?_ (fun _ => ?_)
theorem monocoquelaw30_BudgetParts.mono : ∀ a0 a1 a2 a3 k, LeO (monocoquelaw30_BudgetParts.f k a0 a1 a2 a3) (monocoquelaw30_BudgetParts.f (k + 1) a0 a1 a2 a3) := by
  intro a0 a1 a2 a3 k
  obtain ⟨ih0, ih1, ih2, ih3⟩ := monocoquelaw30_BudgetParts.mono_l k
  unfold monocoquelaw30_BudgetParts.f
  repeat' first
      | (with_reducible exact ih0 _ _ _ _ _ _ _ _ _ _ _ _ _ _ _)
      | (with_reducible exact ih1 _ _ _ _ _ _ _ _ _ _ _ _ _ _ _ _)
      | (with_reducible exact ih2 _ _ _ _ _ _ _ _ _ _ _ _ _ _ _ _ _ _ _)
      | (with_reducible exact ih3 _ _ _ _ _ _ _ _ _ _ _ _ _ _ _ _ _ _ _ _)
      | (with_reducible exact budget_Server_Charge.mono _ _ _ _ _ _ _ _)
      | (with_reducible exact budget_Server_Left.mono _ _ _ _ _ _ _)
      | (with_reducible exact monocoquelaw30_known.mono _)
      | (with_reducible exact LeO.refl _)
      | (with_reducible exact LeO.none _)
      | (with_reducible refine LeO.ite ?_ ?_)
      | (with_reducible refine LeO.bind ?_ (fun _ => ?_))
      | exact ih0 _ _ _ _ _ _ _ _ _ _ _ _ _ _ _
      | exact ih1 _ _ _ _ _ _ _ _ _ _ _ _ _ _ _ _
      | exact ih2 _ _ _ _ _ _ _ _ _ _ _ _ _ _ _ _ _ _ _
      | exact ih3 _ _ _ _ _ _ _ _ _ _ _ _ _ _ _ _ _ _ _ _
      | exact budget_Server_Charge.mono _ _ _ _ _ _ _ _
      | exact budget_Server_Left.mono _ _ _ _ _ _ _
      | exact monocoquelaw30_known.mono _
      | exact LeO.none _
      | refine LeO.ite ?_ ?_
      | refine LeO.bind ?_ (fun _ => ?_)
set_option maxHeartbeats 8000000 in
set_option maxRecDepth 100000 in
theorem monocoquelaw30_BudgetParts.calls (k : Nat) (a0 : Int) (a1 : Int) (a2 : Int) (A3 : Option Addr) (c3 : Nat) (l3 : List Int) (r : Bool) (w : World) (hr3 : Kd.C (Kd.int .u8) w A3 l3.length l3) (hc3 : l3.length ≤ c3) (h : monocoquelaw30_BudgetParts.f k a0 a1 a2 l3 = some r) :
    Calls Try.prog 6 #[.int .i64 a0, .int .i64 a1, .int .i64 a2, .slice A3 l3.length c3] w fun e w' => e = .returned (.bool r) ∧ Below w.heap.size w w' := by
  have hu25 := Try.underlying25
  have HR3 := Aside0.mk hr3
  have HC3 := Aside0.mk hc3
  clear hr3 hc3
  have HB := Aside0.mk (Below.refl w.heap.size w)
  have H : (if (IntKind.u64.wrap (wrap64 (1 + (wrap64 (Int.tmod (IntKind.u64.wrap (a1)) 1000))))) = 0 then (none) else ((budget_New.f (wrap64 (1 + (wrap64 (Int.tmod (IntKind.u64.wrap (a0)) (IntKind.u64.wrap (wrap64 (1 + (wrap64 (Int.tmod (IntKind.u64.wrap (a1)) 1000))))))))) (wrap64 (1 + (wrap64 (Int.tmod (IntKind.u64.wrap (a1)) 1000))))).bind fun bt184 => ((budget_New.f (wrap64 (1 + (wrap64 (Int.tmod (IntKind.u64.wrap (a0)) (IntKind.u64.wrap (wrap64 (1 + (wrap64 (Int.tmod (IntKind.u64.wrap (a1)) 1000))))))))) (wrap64 (1 + (wrap64 (Int.tmod (IntKind.u64.wrap (a1)) 1000))))).bind fun bt191 => (if bt184.2.2.2.2.2 = 0 then (if bt191.2.2.2.2.2 = 0 then (monocoquelaw30_BudgetParts.j0 k (wrap64 (1 + (wrap64 (Int.tmod (IntKind.u64.wrap (a0)) (IntKind.u64.wrap (wrap64 (1 + (wrap64 (Int.tmod (IntKind.u64.wrap (a1)) 1000))))))))) (wrap64 (1 + (wrap64 (Int.tmod (IntKind.u64.wrap (a1)) 1000)))) l3 (wrap64 (Int.tmod (IntKind.u64.wrap (a2)) 100000)) false bt184.1 bt184.2.1 bt184.2.2.1 bt184.2.2.2.1 bt184.2.2.2.2.1 bt191.1 bt191.2.1 bt191.2.2.1 bt191.2.2.2.1 bt191.2.2.2.2.1) else (monocoquelaw30_BudgetParts.j0 k (wrap64 (1 + (wrap64 (Int.tmod (IntKind.u64.wrap (a0)) (IntKind.u64.wrap (wrap64 (1 + (wrap64 (Int.tmod (IntKind.u64.wrap (a1)) 1000))))))))) (wrap64 (1 + (wrap64 (Int.tmod (IntKind.u64.wrap (a1)) 1000)))) l3 (wrap64 (Int.tmod (IntKind.u64.wrap (a2)) 100000)) true bt184.1 bt184.2.1 bt184.2.2.1 bt184.2.2.2.1 bt184.2.2.2.2.1 bt191.1 bt191.2.1 bt191.2.2.1 bt191.2.2.2.1 bt191.2.2.2.2.1)) else (monocoquelaw30_BudgetParts.j0 k (wrap64 (1 + (wrap64 (Int.tmod (IntKind.u64.wrap (a0)) (IntKind.u64.wrap (wrap64 (1 + (wrap64 (Int.tmod (IntKind.u64.wrap (a1)) 1000))))))))) (wrap64 (1 + (wrap64 (Int.tmod (IntKind.u64.wrap (a1)) 1000)))) l3 (wrap64 (Int.tmod (IntKind.u64.wrap (a2)) 100000)) true bt184.1 bt184.2.1 bt184.2.2.1 bt184.2.2.2.1 bt184.2.2.2.2.1 bt191.1 bt191.2.1 bt191.2.2.1 bt191.2.2.2.1 bt191.2.2.2.2.1))))) = some r := h
  clear h
  by_cases c5 : (IntKind.u64.wrap (wrap64 (1 + (wrap64 (Int.tmod (IntKind.u64.wrap (a1)) 1000))))) = 0
  · rw [if_pos c5] at H
    exact absurd H (by simp)
  · rw [if_neg c5] at H
    have c5b0 : ((IntKind.u64.wrap (wrap64 (1 + (wrap64 (Int.tmod (IntKind.u64.wrap (a1)) 1000))))) == 0) = false := beq_eq_false_iff_ne.mpr c5
    have c5b1 : ((IntKind.u64.wrap (wrap64 (1 + (wrap64 (Int.tmod (IntKind.u64.wrap (a1)) 1000))))) != 0) = true := bne_iff_ne.mpr c5
    replace H := Option.bind_eq_some_iff.mp H
    obtain ⟨⟨t184, t185, t186, t187, t188, t190⟩, A60, H⟩ := H
    replace H : ((budget_New.f (wrap64 (1 + (wrap64 (Int.tmod (IntKind.u64.wrap (a0)) (IntKind.u64.wrap (wrap64 (1 + (wrap64 (Int.tmod (IntKind.u64.wrap (a1)) 1000))))))))) (wrap64 (1 + (wrap64 (Int.tmod (IntKind.u64.wrap (a1)) 1000))))).bind fun bt191 => (if t190 = 0 then (if bt191.2.2.2.2.2 = 0 then (monocoquelaw30_BudgetParts.j0 k (wrap64 (1 + (wrap64 (Int.tmod (IntKind.u64.wrap (a0)) (IntKind.u64.wrap (wrap64 (1 + (wrap64 (Int.tmod (IntKind.u64.wrap (a1)) 1000))))))))) (wrap64 (1 + (wrap64 (Int.tmod (IntKind.u64.wrap (a1)) 1000)))) l3 (wrap64 (Int.tmod (IntKind.u64.wrap (a2)) 100000)) false t184 t185 t186 t187 t188 bt191.1 bt191.2.1 bt191.2.2.1 bt191.2.2.2.1 bt191.2.2.2.2.1) else (monocoquelaw30_BudgetParts.j0 k (wrap64 (1 + (wrap64 (Int.tmod (IntKind.u64.wrap (a0)) (IntKind.u64.wrap (wrap64 (1 + (wrap64 (Int.tmod (IntKind.u64.wrap (a1)) 1000))))))))) (wrap64 (1 + (wrap64 (Int.tmod (IntKind.u64.wrap (a1)) 1000)))) l3 (wrap64 (Int.tmod (IntKind.u64.wrap (a2)) 100000)) true t184 t185 t186 t187 t188 bt191.1 bt191.2.1 bt191.2.2.1 bt191.2.2.2.1 bt191.2.2.2.2.1)) else (monocoquelaw30_BudgetParts.j0 k (wrap64 (1 + (wrap64 (Int.tmod (IntKind.u64.wrap (a0)) (IntKind.u64.wrap (wrap64 (1 + (wrap64 (Int.tmod (IntKind.u64.wrap (a1)) 1000))))))))) (wrap64 (1 + (wrap64 (Int.tmod (IntKind.u64.wrap (a1)) 1000)))) l3 (wrap64 (Int.tmod (IntKind.u64.wrap (a2)) 100000)) true t184 t185 t186 t187 t188 bt191.1 bt191.2.1 bt191.2.2.1 bt191.2.2.2.1 bt191.2.2.2.2.1))) = some r := H
    have A6 := Aside0.mk A60
    clear A60
    replace H := Option.bind_eq_some_iff.mp H
    obtain ⟨⟨t191, t192, t193, t194, t195, t197⟩, A70, H⟩ := H
    replace H : (if t190 = 0 then (if t197 = 0 then (monocoquelaw30_BudgetParts.j0 k (wrap64 (1 + (wrap64 (Int.tmod (IntKind.u64.wrap (a0)) (IntKind.u64.wrap (wrap64 (1 + (wrap64 (Int.tmod (IntKind.u64.wrap (a1)) 1000))))))))) (wrap64 (1 + (wrap64 (Int.tmod (IntKind.u64.wrap (a1)) 1000)))) l3 (wrap64 (Int.tmod (IntKind.u64.wrap (a2)) 100000)) false t184 t185 t186 t187 t188 t191 t192 t193 t194 t195) else (monocoquelaw30_BudgetParts.j0 k (wrap64 (1 + (wrap64 (Int.tmod (IntKind.u64.wrap (a0)) (IntKind.u64.wrap (wrap64 (1 + (wrap64 (Int.tmod (IntKind.u64.wrap (a1)) 1000))))))))) (wrap64 (1 + (wrap64 (Int.tmod (IntKind.u64.wrap (a1)) 1000)))) l3 (wrap64 (Int.tmod (IntKind.u64.wrap (a2)) 100000)) true t184 t185 t186 t187 t188 t191 t192 t193 t194 t195)) else (monocoquelaw30_BudgetParts.j0 k (wrap64 (1 + (wrap64 (Int.tmod (IntKind.u64.wrap (a0)) (IntKind.u64.wrap (wrap64 (1 + (wrap64 (Int.tmod (IntKind.u64.wrap (a1)) 1000))))))))) (wrap64 (1 + (wrap64 (Int.tmod (IntKind.u64.wrap (a1)) 1000)))) l3 (wrap64 (Int.tmod (IntKind.u64.wrap (a2)) 100000)) true t184 t185 t186 t187 t188 t191 t192 t193 t194 t195)) = some r := H
    have A7 := Aside0.mk A70
    clear A70
    have HC8 := Aside0.mk H
    clear H
    go_enter Try.func6, Try.ntmps6
    go_upto_region 6 with (first | ((with_reducible refine gate_callee (f := 15) rfl ?_); refine goesL_ (some 43) rfl rfl Try.func15 (by kernel_rfl) rfl #[.int .i64 (wrap64 (1 + (wrap64 (Int.tmod (IntKind.u64.wrap (a0)) (IntKind.u64.wrap (wrap64 (1 + (wrap64 (Int.tmod (IntKind.u64.wrap (a1)) 1000))))))))), .int .i64 (wrap64 (1 + (wrap64 (Int.tmod (IntKind.u64.wrap (a1)) 1000))))] rfl (by (try simp only [List.map_toArray, List.map_cons, List.map_nil]); first | done | rfl | (simp only [List.length_drop, List.length_take]; rfl)) ?_; (with_reducible refine (budget_New.calls (wrap64 (1 + (wrap64 (Int.tmod (IntKind.u64.wrap (a0)) (IntKind.u64.wrap (wrap64 (1 + (wrap64 (Int.tmod (IntKind.u64.wrap (a1)) 1000))))))))) (wrap64 (1 + (wrap64 (Int.tmod (IntKind.u64.wrap (a1)) 1000)))) t184 t185 t186 t187 t188 t190 w _ ?side1 A6.out).mono ?_); (case side1 => repeat (first | (with_reducible first | exact HB.out | apply below_alloc | apply pw_below_drewN | apply below_drew1) | exact HB.out)); rintro e w9 ⟨g189, rfl, hi, hb, hb2, hge⟩; refine ⟨_, rfl, ?_⟩; have n0_ := Aside0.mk (hb); have n1_ := Aside0.mk (hi); clear HB; have HB := n0_; have HI189 := n1_; clear n0_ n1_; (try clear hb); (try clear hb2); (try clear hge); (try clear hk); (try clear hi)) | ((with_reducible refine gate_callee (f := 15) rfl ?_); refine goesL_ (some 49) rfl rfl Try.func15 (by kernel_rfl) rfl #[.int .i64 (wrap64 (1 + (wrap64 (Int.tmod (IntKind.u64.wrap (a0)) (IntKind.u64.wrap (wrap64 (1 + (wrap64 (Int.tmod (IntKind.u64.wrap (a1)) 1000))))))))), .int .i64 (wrap64 (1 + (wrap64 (Int.tmod (IntKind.u64.wrap (a1)) 1000))))] rfl (by (try simp only [List.map_toArray, List.map_cons, List.map_nil]); first | done | rfl | (simp only [List.length_drop, List.length_take]; rfl)) ?_; (with_reducible refine (budget_New.calls (wrap64 (1 + (wrap64 (Int.tmod (IntKind.u64.wrap (a0)) (IntKind.u64.wrap (wrap64 (1 + (wrap64 (Int.tmod (IntKind.u64.wrap (a1)) 1000))))))))) (wrap64 (1 + (wrap64 (Int.tmod (IntKind.u64.wrap (a1)) 1000)))) t191 t192 t193 t194 t195 t197 w _ ?side1 A7.out).mono ?_); (case side1 => repeat (first | (with_reducible first | exact HB.out | apply below_alloc | apply pw_below_drewN | apply below_drew1 | refine below_set ?_ (IsS84.ge HI189.out)) | exact HB.out)); rintro e w10 ⟨g196, rfl, hi, hb, hb2, hge⟩; refine ⟨_, rfl, ?_⟩; have n0_ := Aside0.mk (IsS84.below (by repeat (first | (with_reducible first | exact HI189.out | apply IsS84.alloc | apply IsS84.drewN | apply IsS84.drew | apply IsS84.set_0 | apply IsS84.set_1 | apply IsS84.set_2 | apply IsS84.set_3 | apply IsS84.set_4) | exact HI189.out)) hb2); have n1_ := Aside0.mk (hb); have n2_ := Aside0.mk (hi); have n3_ := Aside0.mk ((Nat.ne_of_gt (Nat.lt_of_lt_of_le (IsS84.lt (show IsS84 w _ g189 t184 t185 t186 t187 t188 from by repeat (first | (with_reducible first | exact HI189.out | apply IsS84.alloc | apply IsS84.drewN | apply IsS84.drew | apply IsS84.set_0 | apply IsS84.set_1 | apply IsS84.set_2 | apply IsS84.set_3 | apply IsS84.set_4) | exact HI189.out))) hge) : g196 ≠ g189)); have n4_ := Aside0.mk ((Ne.symm (Nat.ne_of_gt (Nat.lt_of_lt_of_le (IsS84.lt (show IsS84 w _ g189 t184 t185 t186 t187 t188 from by repeat (first | (with_reducible first | exact HI189.out | apply IsS84.alloc | apply IsS84.drewN | apply IsS84.drew | apply IsS84.set_0 | apply IsS84.set_1 | apply IsS84.set_2 | apply IsS84.set_3 | apply IsS84.set_4) | exact HI189.out))) hge) : g196 ≠ g189) : g189 ≠ g196)); clear HI189; clear HB; have HI189 := n0_; have HB := n1_; have HI196 := n2_; have NS196_189 := n3_; have NS189_196 := n4_; clear n0_ n1_ n2_ n3_ n4_; (try clear hb); (try clear hb2); (try clear hge); (try clear hk); (try clear hi)))
    (try simp only [Act.put, List.setIfInBounds_toArray, List.set_cons_zero, List.set_cons_succ])
    go_cut [65] (fun v65 wc => ∃ (kq : Nat) (x65_7 : Bool), v65 = .bool x65_7 ∧ Aside0 (monocoquelaw30_BudgetParts.j0 kq (wrap64 (1 + (wrap64 (Int.tmod (IntKind.u64.wrap (a0)) (IntKind.u64.wrap (wrap64 (1 + (wrap64 (Int.tmod (IntKind.u64.wrap (a1)) 1000))))))))) (wrap64 (1 + (wrap64 (Int.tmod (IntKind.u64.wrap (a1)) 1000)))) l3 (wrap64 (Int.tmod (IntKind.u64.wrap (a2)) 100000)) x65_7 t184 t185 t186 t187 t188 t191 t192 t193 t194 t195 = some r) ∧ Aside0 (kq ≤ k) ∧ Aside0 (IsS84 w wc g189 t184 t185 t186 t187 t188) ∧ Aside0 (IsS84 w wc g196 t191 t192 t193 t194 t195) ∧ Aside0 (Below w.heap.size w wc))
    case first =>
      have H := HC8.out
      clear HC8
      by_cases c11 : t190 = 0
      · rw [if_pos c11] at H
        have c11b0 : (t190 == 0) = true := beq_iff_eq.mpr c11
        have c11b1 : (t190 != 0) = false := bne_eq_false_iff_eq.mpr c11
        clear c11
        (first | rw [c11b0] | (simp only [i64_w, i32_w]; rw [c11b0]) | skip)
        by_cases c12 : t197 = 0
        · rw [if_pos c12] at H
          have c12b0 : (t197 == 0) = true := beq_iff_eq.mpr c12
          have c12b1 : (t197 != 0) = false := bne_eq_false_iff_eq.mpr c12
          clear c12
          have H' := Aside0.mk H
          clear H
          go_wp2
          go_meet
          case rel => exact ⟨_, (false), (by first | rfl | (simp; done) | (simp [*]; done)), H', ⟨by first | omega | exact Nat.le_refl _⟩, ⟨by repeat (first | (with_reducible first | exact HI189.out | apply IsS84.alloc | apply IsS84.drewN | apply IsS84.drew | apply IsS84.set_0 | apply IsS84.set_1 | apply IsS84.set_2 | apply IsS84.set_3 | apply IsS84.set_4) | exact HI189.out)⟩, ⟨by repeat (first | (with_reducible first | exact HI196.out | apply IsS84.alloc | apply IsS84.drewN | apply IsS84.drew | apply IsS84.set_0 | apply IsS84.set_1 | apply IsS84.set_2 | apply IsS84.set_3 | apply IsS84.set_4) | exact HI196.out)⟩, ⟨by repeat (first | (with_reducible first | exact HB.out | apply below_alloc | apply pw_below_drewN | apply below_drew1 | refine below_set ?_ (IsS84.ge HI189.out) | refine below_set ?_ (IsS84.ge HI196.out)) | exact HB.out)⟩⟩
        · rw [if_neg c12] at H
          have c12b0 : (t197 == 0) = false := beq_eq_false_iff_ne.mpr c12
          have c12b1 : (t197 != 0) = true := bne_iff_ne.mpr c12
          have H' := Aside0.mk H
          clear H
          go_wp2
          go_meet
          case rel => exact ⟨_, (true), (by first | rfl | (simp; done) | (simp [*]; done)), H', ⟨by first | omega | exact Nat.le_refl _⟩, ⟨by repeat (first | (with_reducible first | exact HI189.out | apply IsS84.alloc | apply IsS84.drewN | apply IsS84.drew | apply IsS84.set_0 | apply IsS84.set_1 | apply IsS84.set_2 | apply IsS84.set_3 | apply IsS84.set_4) | exact HI189.out)⟩, ⟨by repeat (first | (with_reducible first | exact HI196.out | apply IsS84.alloc | apply IsS84.drewN | apply IsS84.drew | apply IsS84.set_0 | apply IsS84.set_1 | apply IsS84.set_2 | apply IsS84.set_3 | apply IsS84.set_4) | exact HI196.out)⟩, ⟨by repeat (first | (with_reducible first | exact HB.out | apply below_alloc | apply pw_below_drewN | apply below_drew1 | refine below_set ?_ (IsS84.ge HI189.out) | refine below_set ?_ (IsS84.ge HI196.out)) | exact HB.out)⟩⟩
      · rw [if_neg c11] at H
        have c11b0 : (t190 == 0) = false := beq_eq_false_iff_ne.mpr c11
        have c11b1 : (t190 != 0) = true := bne_iff_ne.mpr c11
        (first | rw [c11b0] | (simp only [i64_w, i32_w]; rw [c11b0]) | skip)
        have H' := Aside0.mk H
        clear H
        go_wp2
        go_meet
        case rel => exact ⟨_, (true), (by first | rfl | (simp; done) | (simp [*]; done)), H', ⟨by first | omega | exact Nat.le_refl _⟩, ⟨by repeat (first | (with_reducible first | exact HI189.out | apply IsS84.alloc | apply IsS84.drewN | apply IsS84.drew | apply IsS84.set_0 | apply IsS84.set_1 | apply IsS84.set_2 | apply IsS84.set_3 | apply IsS84.set_4) | exact HI189.out)⟩, ⟨by repeat (first | (with_reducible first | exact HI196.out | apply IsS84.alloc | apply IsS84.drewN | apply IsS84.drew | apply IsS84.set_0 | apply IsS84.set_1 | apply IsS84.set_2 | apply IsS84.set_3 | apply IsS84.set_4) | exact HI196.out)⟩, ⟨by repeat (first | (with_reducible first | exact HB.out | apply below_alloc | apply pw_below_drewN | apply below_drew1 | refine below_set ?_ (IsS84.ge HI189.out) | refine below_set ?_ (IsS84.ge HI196.out)) | exact HB.out)⟩⟩
    case rest =>
      clear HC8
      try clear c1
      try clear p2
      try clear c3
      try clear c5
      try clear c5b0
      try clear c5b1
      try clear c6
      try clear p6
      try clear c11
      try clear c11b0
      try clear c11b1
      try clear c12
      try clear c12b0
      try clear c12b1
      obtain ⟨kq, x65_7, rfl, HA, HJ7, HI189, HI196, HB⟩ := hcut
      cases kq with
      | zero => exact absurd HA.out (by simp [monocoquelaw30_BudgetParts.j0])
      | succ kj7 =>
        have H := HA.out
        clear HA
        simp only [monocoquelaw30_BudgetParts.j0] at H
        by_cases c13 : x65_7 = true
        · subst c13
          have H1 : (some false) = some r := by rw [if_pos rfl] at H; exact H
          clear H
          have H := H1
          clear H1
          obtain rfl := Option.some.inj H
          go_wp2
          go_ret
          exact ⟨by first | rfl | (simp [errW_none, errW_some] <;> rfl) | (simp [*, errW_none, errW_some] <;> rfl), by repeat (first | (with_reducible first | exact HB.out | apply below_alloc | apply pw_below_drewN | apply below_drew1 | refine below_set ?_ (IsS84.ge HI189.out) | refine below_set ?_ (IsS84.ge HI196.out)) | exact HB.out)⟩
        · replace c13 := Bool.eq_false_iff.mpr c13
          subst c13
          have H1 : ((budget_Server_Next.f t184 t185 t186 t187 t188 (wrap64 (Int.tmod (IntKind.u64.wrap (a2)) 100000))).bind fun bt198 => (monocoquelaw30_BudgetParts.l0 kj7 (wrap64 (1 + (wrap64 (Int.tmod (IntKind.u64.wrap (a0)) (IntKind.u64.wrap (wrap64 (1 + (wrap64 (Int.tmod (IntKind.u64.wrap (a1)) 1000))))))))) (wrap64 (1 + (wrap64 (Int.tmod (IntKind.u64.wrap (a1)) 1000)))) l3 (wrap64 (Int.tmod (IntKind.u64.wrap (a2)) 100000)) bt198.1 0 0 (wrap64 (Int.tmod (IntKind.u64.wrap (a2)) 100000)) 0 bt198.2.1 bt198.2.2.1 bt198.2.2.2.1 bt198.2.2.2.2.1 bt198.2.2.2.2.2 t191 t192 t193 t194 t195)) = some r := by rw [if_neg (show ¬ (false = true) by decide)] at H; exact H
          clear H
          have H := H1
          clear H1
          replace H := Option.bind_eq_some_iff.mp H
          obtain ⟨⟨t198, t199, t200, t201, t202, t203⟩, A140, H⟩ := H
          replace H : (monocoquelaw30_BudgetParts.l0 kj7 (wrap64 (1 + (wrap64 (Int.tmod (IntKind.u64.wrap (a0)) (IntKind.u64.wrap (wrap64 (1 + (wrap64 (Int.tmod (IntKind.u64.wrap (a1)) 1000))))))))) (wrap64 (1 + (wrap64 (Int.tmod (IntKind.u64.wrap (a1)) 1000)))) l3 (wrap64 (Int.tmod (IntKind.u64.wrap (a2)) 100000)) t198 0 0 (wrap64 (Int.tmod (IntKind.u64.wrap (a2)) 100000)) 0 t199 t200 t201 t202 t203 t191 t192 t193 t194 t195) = some r := H
          have A14 := Aside0.mk A140
          clear A140
          have HC15 := Aside0.mk H
          clear H
          go_upto_block 0 with (first | ((with_reducible refine gate_callee (f := 17) rfl ?_); refine goesL_ (some 68) rfl rfl Try.func17 (by kernel_rfl) rfl #[.pointer (some ⟨g189, 0, none⟩), .int .i64 (wrap64 (Int.tmod (IntKind.u64.wrap (a2)) 100000))] rfl (by (try simp only [List.map_toArray, List.map_cons, List.map_nil]); first | done | rfl | (simp only [List.length_drop, List.length_take]; rfl)) ?_; (with_reducible refine (budget_Server_Next.calls g189 t184 t185 t186 t187 t188 (wrap64 (Int.tmod (IntKind.u64.wrap (a2)) 100000)) t198 t199 t200 t201 t202 t203 w _ ?side1 ?side2 A14.out).mono ?_); (case side1 => repeat (first | (with_reducible first | exact HI189.out | apply IsS84.alloc | apply IsS84.drewN | apply IsS84.drew | apply IsS84.set_0 | apply IsS84.set_1 | apply IsS84.set_2 | apply IsS84.set_3 | apply IsS84.set_4) | exact HI189.out)); (case side2 => repeat (first | (with_reducible first | exact HB.out | apply below_alloc | apply pw_below_drewN | apply below_drew1 | refine below_set ?_ (IsS84.ge HI189.out) | refine below_set ?_ (IsS84.ge HI196.out)) | exact HB.out)); rintro e w16 ⟨rfl, hi, hb, hk⟩; refine ⟨_, rfl, ?_⟩; have n0_ := Aside0.mk (IsS84.other (show IsS84 w _ g196 t191 t192 t193 t194 t195 from by repeat (first | (with_reducible first | exact HI196.out | apply IsS84.alloc | apply IsS84.drewN | apply IsS84.drew | apply IsS84.set_0 | apply IsS84.set_1 | apply IsS84.set_2 | apply IsS84.set_3 | apply IsS84.set_4) | exact HI196.out)) hk NS196_189.out); have n1_ := Aside0.mk (hb); have n2_ := Aside0.mk (hi); clear HI196; clear HB; clear HI189; have HI196 := n0_; have HB := n1_; have HI189 := n2_; clear n0_ n1_ n2_; (try clear hb); (try clear hb2); (try clear hge); (try clear hk); (try clear hi)))
          (try simp only [Act.put, List.setIfInBounds_toArray, List.set_cons_zero, List.set_cons_succ])
          go_cut [15, 16] (fun v15 v16 wc => ∃ (kq : Nat) (x15_14 : Int) (x16_14 : Int) (x190000_14 : Int) (x190001_14 : Int) (x190002_14 : Int) (x190003_14 : Int) (x190004_14 : Int), v15 = .int .i64 x15_14 ∧ v16 = .int .i64 x16_14 ∧ Aside0 (monocoquelaw30_BudgetParts.j3 kq (wrap64 (1 + (wrap64 (Int.tmod (IntKind.u64.wrap (a0)) (IntKind.u64.wrap (wrap64 (1 + (wrap64 (Int.tmod (IntKind.u64.wrap (a1)) 1000))))))))) (wrap64 (1 + (wrap64 (Int.tmod (IntKind.u64.wrap (a1)) 1000)))) (wrap64 (Int.tmod (IntKind.u64.wrap (a2)) 100000)) t198 x15_14 x16_14 x190000_14 x190001_14 x190002_14 x190003_14 x190004_14 t191 t192 t193 t194 t195 = some r) ∧ Aside0 (kq ≤ kj7) ∧ Aside0 (IsS84 w wc g189 x190000_14 x190001_14 x190002_14 x190003_14 x190004_14) ∧ Aside0 (IsS84 w wc g196 t191 t192 t193 t194 t195) ∧ Aside0 (Below w.heap.size w wc))
          case first =>
            have H := HC15.out
            clear HC15
            have H' := Aside0.mk H
            clear H
            go_wp2
            go_loopg [15, 16, 17, 18] kj7 (fun kq v15 v16 v17 v18 w' => ∃ (x15_2 : Int) (x16_2 : Int) (x17_2 : Int) (x18_2 : Int) (x190000_2 : Int) (x190001_2 : Int) (x190002_2 : Int) (x190003_2 : Int) (x190004_2 : Int), v15 = .int .i64 x15_2 ∧ v16 = .int .i64 x16_2 ∧ v17 = .int .i64 x17_2 ∧ v18 = .int .i64 x18_2 ∧ Aside0 (monocoquelaw30_BudgetParts.l0 kq (wrap64 (1 + (wrap64 (Int.tmod (IntKind.u64.wrap (a0)) (IntKind.u64.wrap (wrap64 (1 + (wrap64 (Int.tmod (IntKind.u64.wrap (a1)) 1000))))))))) (wrap64 (1 + (wrap64 (Int.tmod (IntKind.u64.wrap (a1)) 1000)))) l3 (wrap64 (Int.tmod (IntKind.u64.wrap (a2)) 100000)) t198 x15_2 x16_2 x17_2 x18_2 x190000_2 x190001_2 x190002_2 x190003_2 x190004_2 t191 t192 t193 t194 t195 = some r) ∧ Aside0 (kq ≤ kj7) ∧ Aside0 (IsS84 w w' g189 x190000_2 x190001_2 x190002_2 x190003_2 x190004_2) ∧ Aside0 (IsS84 w w' g196 t191 t192 t193 t194 t195) ∧ Aside0 (Below w.heap.size w w'))
            case atStart => exact ⟨(0), (0), ((wrap64 (Int.tmod (IntKind.u64.wrap (a2)) 100000))), (0), (t199), (t200), (t201), (t202), (t203), (by first | rfl | (simp; done) | (simp [*]; done)), (by first | rfl | (simp; done) | (simp [*]; done)), (by first | rfl | (simp; done) | (simp [*]; done)), (by first | rfl | (simp; done) | (simp [*]; done)), H', ⟨Nat.le_refl _⟩, ⟨by repeat (first | (with_reducible first | exact HI189.out | apply IsS84.alloc | apply IsS84.drewN | apply IsS84.drew | apply IsS84.set_0 | apply IsS84.set_1 | apply IsS84.set_2 | apply IsS84.set_3 | apply IsS84.set_4) | exact HI189.out)⟩, ⟨by repeat (first | (with_reducible first | exact HI196.out | apply IsS84.alloc | apply IsS84.drewN | apply IsS84.drew | apply IsS84.set_0 | apply IsS84.set_1 | apply IsS84.set_2 | apply IsS84.set_3 | apply IsS84.set_4) | exact HI196.out)⟩, ⟨by repeat (first | (with_reducible first | exact HB.out | apply below_alloc | apply pw_below_drewN | apply below_drew1 | refine below_set ?_ (IsS84.ge HI189.out) | refine below_set ?_ (IsS84.ge HI196.out)) | exact HB.out)⟩⟩
            case round =>
              clear H'
              try clear c1
              try clear p2
              try clear c3
              try clear c5
              try clear c5b0
              try clear c5b1
              try clear c6
              try clear p6
              try clear c11
              try clear c11b0
              try clear c11b1
              try clear c12
              try clear c12b0
              try clear c12b1
              try clear c13
              try clear c15
              try clear p2
              try clear p6
              obtain ⟨x15_2, x16_2, x17_2, x18_2, x190000_2, x190001_2, x190002_2, x190003_2, x190004_2, rfl, rfl, rfl, rfl, HA, HK2, HI189, HI196, HB⟩ := hrel
              cases gk with
              | zero => exact absurd HA.out (by simp [monocoquelaw30_BudgetParts.l0])
              | succ k2 =>
                have H := HA.out
                clear HA
                simp only [monocoquelaw30_BudgetParts.l0] at H
                have HC17 := Aside0.mk H
                clear H
                go_upto_region 11 with (fail)
                go_cut [77] (fun v77 wc => ∃ (kq : Nat) (x77_16 : Bool), v77 = .bool x77_16 ∧ Aside0 (monocoquelaw30_BudgetParts.j2 kq (wrap64 (1 + (wrap64 (Int.tmod (IntKind.u64.wrap (a0)) (IntKind.u64.wrap (wrap64 (1 + (wrap64 (Int.tmod (IntKind.u64.wrap (a1)) 1000))))))))) (wrap64 (1 + (wrap64 (Int.tmod (IntKind.u64.wrap (a1)) 1000)))) l3 (wrap64 (Int.tmod (IntKind.u64.wrap (a2)) 100000)) t198 x15_2 x16_2 x17_2 x18_2 x77_16 x190000_2 x190001_2 x190002_2 x190003_2 x190004_2 t191 t192 t193 t194 t195 = some r) ∧ Aside0 (kq ≤ k2) ∧ Aside0 (IsS84 w wc g189 x190000_2 x190001_2 x190002_2 x190003_2 x190004_2) ∧ Aside0 (IsS84 w wc g196 t191 t192 t193 t194 t195) ∧ Aside0 (Below w.heap.size w wc))
                case first =>
                  have H := HC17.out
                  clear HC17
                  by_cases c18 : x18_2 < (l3.length : Int)
                  · rw [if_pos c18] at H
                    have c18b0 : decide (x18_2 < (l3.length : Int)) = true := decide_eq_true c18
                    clear c18
                    (first | rw [c18b0] | (simp only [i64_w, i32_w]; rw [c18b0]) | skip)
                    have H' := Aside0.mk H
                    clear H
                    go_wp2
                    go_meet
                    case rel => exact ⟨_, (decide (x18_2 < 20)), (by first | rfl | (simp; done) | (simp [*]; done)), H', ⟨by have := HJ7.out; have := HK2.out; first | omega | exact Nat.le_refl _⟩, ⟨by repeat (first | (with_reducible first | exact HI189.out | apply IsS84.alloc | apply IsS84.drewN | apply IsS84.drew | apply IsS84.set_0 | apply IsS84.set_1 | apply IsS84.set_2 | apply IsS84.set_3 | apply IsS84.set_4) | exact HI189.out)⟩, ⟨by repeat (first | (with_reducible first | exact HI196.out | apply IsS84.alloc | apply IsS84.drewN | apply IsS84.drew | apply IsS84.set_0 | apply IsS84.set_1 | apply IsS84.set_2 | apply IsS84.set_3 | apply IsS84.set_4) | exact HI196.out)⟩, ⟨by repeat (first | (with_reducible first | exact HB.out | apply below_alloc | apply pw_below_drewN | apply below_drew1 | refine below_set ?_ (IsS84.ge HI189.out) | refine below_set ?_ (IsS84.ge HI196.out)) | exact HB.out)⟩⟩
                  · rw [if_neg c18] at H
                    have c18b0 : decide (x18_2 < (l3.length : Int)) = false := decide_eq_false c18
                    clear c18
                    (first | rw [c18b0] | (simp only [i64_w, i32_w]; rw [c18b0]) | skip)
                    have H' := Aside0.mk H
                    clear H
                    go_wp2
                    go_meet
                    case rel => exact ⟨_, (false), (by first | rfl | (simp; done) | (simp [*]; done)), H', ⟨by have := HJ7.out; have := HK2.out; first | omega | exact Nat.le_refl _⟩, ⟨by repeat (first | (with_reducible first | exact HI189.out | apply IsS84.alloc | apply IsS84.drewN | apply IsS84.drew | apply IsS84.set_0 | apply IsS84.set_1 | apply IsS84.set_2 | apply IsS84.set_3 | apply IsS84.set_4) | exact HI189.out)⟩, ⟨by repeat (first | (with_reducible first | exact HI196.out | apply IsS84.alloc | apply IsS84.drewN | apply IsS84.drew | apply IsS84.set_0 | apply IsS84.set_1 | apply IsS84.set_2 | apply IsS84.set_3 | apply IsS84.set_4) | exact HI196.out)⟩, ⟨by repeat (first | (with_reducible first | exact HB.out | apply below_alloc | apply pw_below_drewN | apply below_drew1 | refine below_set ?_ (IsS84.ge HI189.out) | refine below_set ?_ (IsS84.ge HI196.out)) | exact HB.out)⟩⟩
                case rest =>
                  clear HC17
                  try clear c1
                  try clear p2
                  try clear c3
                  try clear c5
                  try clear c5b0
                  try clear c5b1
                  try clear c6
                  try clear p6
                  try clear c11
                  try clear c11b0
                  try clear c11b1
                  try clear c12
                  try clear c12b0
                  try clear c12b1
                  try clear c13
                  try clear c15
                  try clear c17
                  try clear c18
                  try clear c18b0
                  try clear p2
                  try clear p6
                  obtain ⟨kq, x77_16, rfl, HA, HJ16, HI189, HI196, HB⟩ := hcut
                  cases kq with
                  | zero => exact absurd HA.out (by simp [monocoquelaw30_BudgetParts.j2])
                  | succ kj16 =>
                    have H := HA.out
                    clear HA
                    simp only [monocoquelaw30_BudgetParts.j2] at H
                    by_cases c19 : x77_16 = true
                    · subst c19
                      have H1 : (if 0 ≤ x18_2 then (if x18_2 < (l3.length : Int) then (if (wrap64 (x17_2 + (wrap64 (Int.tmod (rd l3 x18_2) 50)))) ≥ t198 then (monocoquelaw30_BudgetParts.j3 kj16 (wrap64 (1 + (wrap64 (Int.tmod (IntKind.u64.wrap (a0)) (IntKind.u64.wrap (wrap64 (1 + (wrap64 (Int.tmod (IntKind.u64.wrap (a1)) 1000))))))))) (wrap64 (1 + (wrap64 (Int.tmod (IntKind.u64.wrap (a1)) 1000)))) (wrap64 (Int.tmod (IntKind.u64.wrap (a2)) 100000)) t198 x15_2 x16_2 x190000_2 x190001_2 x190002_2 x190003_2 x190004_2 t191 t192 t193 t194 t195) else ((budget_Server_Charge.f kj16 x190000_2 x190001_2 x190002_2 x190003_2 x190004_2 x17_2 (wrap64 (Int.tmod (rd l3 x18_2) 50))).bind fun bt205 => (monocoquelaw30_BudgetParts.l0 kj16 (wrap64 (1 + (wrap64 (Int.tmod (IntKind.u64.wrap (a0)) (IntKind.u64.wrap (wrap64 (1 + (wrap64 (Int.tmod (IntKind.u64.wrap (a1)) 1000))))))))) (wrap64 (1 + (wrap64 (Int.tmod (IntKind.u64.wrap (a1)) 1000)))) l3 (wrap64 (Int.tmod (IntKind.u64.wrap (a2)) 100000)) t198 (wrap64 (x15_2 + (wrap64 (Int.tmod (rd l3 x18_2) 50)))) (wrap64 (x16_2 + bt205.1)) (wrap64 (x17_2 + bt205.1)) (wrap64 (x18_2 + 1)) bt205.2.2.1 bt205.2.2.2.1 bt205.2.2.2.2.1 bt205.2.2.2.2.2.1 bt205.2.2.2.2.2.2 t191 t192 t193 t194 t195))) else (none)) else (none)) = some r := by rw [if_pos rfl] at H; exact H
                      clear H
                      have H := H1
                      clear H1
                      by_cases c20 : 0 ≤ x18_2
                      · rw [if_pos c20] at H
                        have c20b0 : decide (0 ≤ x18_2) = true := decide_eq_true c20
                        clear c20
                        by_cases c21 : x18_2 < (l3.length : Int)
                        · rw [if_pos c21] at H
                          have c21b0 : decide (x18_2 < (l3.length : Int)) = true := decide_eq_true c21
                          clear c21
                          by_cases c22 : (wrap64 (x17_2 + (wrap64 (Int.tmod (rd l3 x18_2) 50)))) ≥ t198
                          · rw [if_pos c22] at H
                            have c22b0 : decide (t198 ≤ (wrap64 (x17_2 + (wrap64 (Int.tmod (rd l3 x18_2) 50))))) = true := decide_eq_true c22
                            clear c22
                            have H' := Aside0.mk H
                            clear H
                            have p204 : 0 ≤ (x18_2 : Int) := of_decide_eq_true (by first | (with_reducible assumption) | assumption)
                            have q204 : x18_2 < (l3.length : Int) := of_decide_eq_true (by first | (with_reducible assumption) | assumption)
                            obtain ⟨ad204, e204, hx204_0⟩ := Kd.at_int HR3.out x18_2 p204 q204
                            cases e204
                            replace hx204_0 := (HB.out.cell (World.block_lt_of_cell? w _ hx204_0)).trans hx204_0
                            replace p204 := eq_true p204
                            replace q204 := eq_true q204
                            go_wp2
                            go_meet
                            case rel => exact ⟨_, (x15_2), (x16_2), (x190000_2), (x190001_2), (x190002_2), (x190003_2), (x190004_2), (by first | rfl | (simp; done) | (simp [*]; done)), (by first | rfl | (simp; done) | (simp [*]; done)), H', ⟨by have := HJ7.out; have := HK2.out; have := HJ16.out; first | omega | exact Nat.le_refl _⟩, ⟨by repeat (first | (with_reducible first | exact HI189.out | apply IsS84.alloc | apply IsS84.drewN | apply IsS84.drew | apply IsS84.set_0 | apply IsS84.set_1 | apply IsS84.set_2 | apply IsS84.set_3 | apply IsS84.set_4) | exact HI189.out)⟩, ⟨by repeat (first | (with_reducible first | exact HI196.out | apply IsS84.alloc | apply IsS84.drewN | apply IsS84.drew | apply IsS84.set_0 | apply IsS84.set_1 | apply IsS84.set_2 | apply IsS84.set_3 | apply IsS84.set_4) | exact HI196.out)⟩, ⟨by repeat (first | (with_reducible first | exact HB.out | apply below_alloc | apply pw_below_drewN | apply below_drew1 | refine below_set ?_ (IsS84.ge HI189.out) | refine below_set ?_ (IsS84.ge HI196.out)) | exact HB.out)⟩⟩
                          · rw [if_neg c22] at H
                            have c22b0 : decide (t198 ≤ (wrap64 (x17_2 + (wrap64 (Int.tmod (rd l3 x18_2) 50))))) = false := decide_eq_false c22
                            clear c22
                            replace H := Option.bind_eq_some_iff.mp H
                            obtain ⟨⟨t205, t206, t207, t208, t209, t210, t211⟩, A230, H⟩ := H
                            replace H : (monocoquelaw30_BudgetParts.l0 kj16 (wrap64 (1 + (wrap64 (Int.tmod (IntKind.u64.wrap (a0)) (IntKind.u64.wrap (wrap64 (1 + (wrap64 (Int.tmod (IntKind.u64.wrap (a1)) 1000))))))))) (wrap64 (1 + (wrap64 (Int.tmod (IntKind.u64.wrap (a1)) 1000)))) l3 (wrap64 (Int.tmod (IntKind.u64.wrap (a2)) 100000)) t198 (wrap64 (x15_2 + (wrap64 (Int.tmod (rd l3 x18_2) 50)))) (wrap64 (x16_2 + t205)) (wrap64 (x17_2 + t205)) (wrap64 (x18_2 + 1)) t207 t208 t209 t210 t211 t191 t192 t193 t194 t195) = some r := H
                            have A23 := Aside0.mk A230
                            clear A230
                            have H' := Aside0.mk H
                            clear H
                            have p204 : 0 ≤ (x18_2 : Int) := of_decide_eq_true (by first | (with_reducible assumption) | assumption)
                            have q204 : x18_2 < (l3.length : Int) := of_decide_eq_true (by first | (with_reducible assumption) | assumption)
                            obtain ⟨ad204, e204, hx204_0⟩ := Kd.at_int HR3.out x18_2 p204 q204
                            cases e204
                            replace hx204_0 := (HB.out.cell (World.block_lt_of_cell? w _ hx204_0)).trans hx204_0
                            replace p204 := eq_true p204
                            replace q204 := eq_true q204
                            go_wp2_with (first | ((with_reducible refine gate_callee (f := 16) rfl ?_); refine goesL_ (some 95) rfl rfl Try.func16 (by kernel_rfl) rfl #[.pointer (some ⟨g189, 0, none⟩), .int .i64 x17_2, .int .i64 (wrap64 (Int.tmod (rd l3 x18_2) 50))] rfl (by (try simp only [List.map_toArray, List.map_cons, List.map_nil]); first | done | rfl | (simp only [List.length_drop, List.length_take]; rfl)) ?_; (with_reducible refine (budget_Server_Charge.calls kj16 g189 x190000_2 x190001_2 x190002_2 x190003_2 x190004_2 x17_2 (wrap64 (Int.tmod (rd l3 x18_2) 50)) t205 t206 t207 t208 t209 t210 t211 w _ ?side1 ?side2 A23.out).mono ?_); (case side1 => repeat (first | (with_reducible first | exact HI189.out | apply IsS84.alloc | apply IsS84.drewN | apply IsS84.drew | apply IsS84.set_0 | apply IsS84.set_1 | apply IsS84.set_2 | apply IsS84.set_3 | apply IsS84.set_4) | exact HI189.out)); (case side2 => repeat (first | (with_reducible first | exact HB.out | apply below_alloc | apply pw_below_drewN | apply below_drew1 | refine below_set ?_ (IsS84.ge HI189.out) | refine below_set ?_ (IsS84.ge HI196.out)) | exact HB.out)); rintro e w24 ⟨rfl, hi, hb, hk⟩; refine ⟨_, rfl, ?_⟩; have n0_ := Aside0.mk (IsS84.other (show IsS84 w _ g196 t191 t192 t193 t194 t195 from by repeat (first | (with_reducible first | exact HI196.out | apply IsS84.alloc | apply IsS84.drewN | apply IsS84.drew | apply IsS84.set_0 | apply IsS84.set_1 | apply IsS84.set_2 | apply IsS84.set_3 | apply IsS84.set_4) | exact HI196.out)) hk NS196_189.out); have n1_ := Aside0.mk (hb); have n2_ := Aside0.mk (hi); clear HI196; clear HB; clear HI189; have HI196 := n0_; have HB := n1_; have HI189 := n2_; clear n0_ n1_ n2_; (try clear hb); (try clear hb2); (try clear hge); (try clear hk); (try clear hi)))
                            go_roundg kj16
                            case measure => have := HJ7.out; have := HK2.out; have := HJ16.out; omega
                            case rel => exact ⟨(wrap64 (x15_2 + (wrap64 (Int.tmod (rd l3 x18_2) 50)))), (wrap64 (x16_2 + t205)), (wrap64 (x17_2 + t205)), (wrap64 (x18_2 + 1)), (t207), (t208), (t209), (t210), (t211), (by first | rfl | (simp; done) | (simp [*]; done)), (by first | rfl | (simp; done) | (simp [*]; done)), (by first | rfl | (simp; done) | (simp [*]; done)), (by first | rfl | (simp; done) | (simp [*]; done)), H', ⟨by have := HJ7.out; have := HK2.out; have := HJ16.out; omega⟩, ⟨by repeat (first | (with_reducible first | exact HI189.out | apply IsS84.alloc | apply IsS84.drewN | apply IsS84.drew | apply IsS84.set_0 | apply IsS84.set_1 | apply IsS84.set_2 | apply IsS84.set_3 | apply IsS84.set_4) | exact HI189.out)⟩, ⟨by repeat (first | (with_reducible first | exact HI196.out | apply IsS84.alloc | apply IsS84.drewN | apply IsS84.drew | apply IsS84.set_0 | apply IsS84.set_1 | apply IsS84.set_2 | apply IsS84.set_3 | apply IsS84.set_4) | exact HI196.out)⟩, ⟨by repeat (first | (with_reducible first | exact HB.out | apply below_alloc | apply pw_below_drewN | apply below_drew1 | refine below_set ?_ (IsS84.ge HI189.out) | refine below_set ?_ (IsS84.ge HI196.out)) | exact HB.out)⟩⟩
                        · rw [if_neg c21] at H
                          exact absurd H (by simp)
                      · rw [if_neg c20] at H
                        exact absurd H (by simp)
                    · replace c19 := Bool.eq_false_iff.mpr c19
                      subst c19
                      have H1 : (monocoquelaw30_BudgetParts.j3 kj16 (wrap64 (1 + (wrap64 (Int.tmod (IntKind.u64.wrap (a0)) (IntKind.u64.wrap (wrap64 (1 + (wrap64 (Int.tmod (IntKind.u64.wrap (a1)) 1000))))))))) (wrap64 (1 + (wrap64 (Int.tmod (IntKind.u64.wrap (a1)) 1000)))) (wrap64 (Int.tmod (IntKind.u64.wrap (a2)) 100000)) t198 x15_2 x16_2 x190000_2 x190001_2 x190002_2 x190003_2 x190004_2 t191 t192 t193 t194 t195) = some r := by rw [if_neg (show ¬ (false = true) by decide)] at H; exact H
                      clear H
                      have H := H1
                      clear H1
                      have H' := Aside0.mk H
                      clear H
                      go_wp2
                      go_meet
                      case rel => exact ⟨_, (x15_2), (x16_2), (x190000_2), (x190001_2), (x190002_2), (x190003_2), (x190004_2), (by first | rfl | (simp; done) | (simp [*]; done)), (by first | rfl | (simp; done) | (simp [*]; done)), H', ⟨by have := HJ7.out; have := HK2.out; have := HJ16.out; first | omega | exact Nat.le_refl _⟩, ⟨by repeat (first | (with_reducible first | exact HI189.out | apply IsS84.alloc | apply IsS84.drewN | apply IsS84.drew | apply IsS84.set_0 | apply IsS84.set_1 | apply IsS84.set_2 | apply IsS84.set_3 | apply IsS84.set_4) | exact HI189.out)⟩, ⟨by repeat (first | (with_reducible first | exact HI196.out | apply IsS84.alloc | apply IsS84.drewN | apply IsS84.drew | apply IsS84.set_0 | apply IsS84.set_1 | apply IsS84.set_2 | apply IsS84.set_3 | apply IsS84.set_4) | exact HI196.out)⟩, ⟨by repeat (first | (with_reducible first | exact HB.out | apply below_alloc | apply pw_below_drewN | apply below_drew1 | refine below_set ?_ (IsS84.ge HI189.out) | refine below_set ?_ (IsS84.ge HI196.out)) | exact HB.out)⟩⟩
          case rest =>
            clear HC15
            try clear c1
            try clear c2
            try clear p2
            try clear q2
            try clear hx2
            try clear c3
            try clear c5
            try clear c5b0
            try clear c5b1
            try clear c6
            try clear p6
            try clear c11
            try clear c11b0
            try clear c11b1
            try clear c12
            try clear c12b0
            try clear c12b1
            try clear c13
            try clear c15
            try clear c16
            try clear c17
            try clear c18
            try clear c18b0
            try clear c19
            try clear c20
            try clear c20b0
            try clear p20
            try clear q20
            try clear hx20
            try clear c21
            try clear c21b0
            try clear c22
            try clear c22b0
            try clear hx204_0
            try clear p2
            try clear p204
            try clear p6
            try clear q204
            obtain ⟨kq, x15_14, x16_14, x190000_14, x190001_14, x190002_14, x190003_14, x190004_14, rfl, rfl, HA, HJ14, HI189, HI196, HB⟩ := hcut
            cases kq with
            | zero => exact absurd HA.out (by simp [monocoquelaw30_BudgetParts.j3])
            | succ kj14 =>
              have H := HA.out
              clear HA
              simp only [monocoquelaw30_BudgetParts.j3] at H
              replace H := Option.bind_eq_some_iff.mp H
              obtain ⟨⟨t212, t213, t214, t215, t216, t217, t218⟩, A250, H⟩ := H
              replace H : ((monocoquelaw30_known.f kj14).bind fun t219 => (if t219 = true then (if t212 = x16_14 then (if (t213 == (decide (x16_14 < x15_14))) = true then ((budget_Server_Left.f kj14 x190000_14 x190001_14 x190002_14 x190003_14 x190004_14 (wrap64 (t198 - 1))).bind fun bt220 => ((budget_Server_Left.f kj14 t214 t215 t216 t217 t218 (wrap64 (t198 - 1))).bind fun bt226 => (if bt220.1 = bt226.1 then ((budget_Server_Left.f kj14 bt220.2.1 bt220.2.2.1 bt220.2.2.2.1 bt220.2.2.2.2.1 bt220.2.2.2.2.2 t198).bind fun bt232 => (if bt232.1 = (mn (wrap64 (1 + (wrap64 (Int.tmod (IntKind.u64.wrap (a0)) (IntKind.u64.wrap (wrap64 (1 + (wrap64 (Int.tmod (IntKind.u64.wrap (a1)) 1000))))))))) (wrap64 (1 + (wrap64 (Int.tmod (IntKind.u64.wrap (a1)) 1000))))) then ((budget_Server_Same.f bt232.2.1 bt232.2.2.1 bt232.2.2.2.1 bt232.2.2.2.2.1 bt232.2.2.2.2.2 bt226.2.1 bt226.2.2.1 bt226.2.2.2.1 bt226.2.2.2.2.1 bt226.2.2.2.2.2).bind fun t238 => (if t238 = true then (some true) else (some (x16_14 == 0)))) else (some false))) else (some false)))) else (some false)) else (some false)) else (some false))) = some r := H
              have A25 := Aside0.mk A250
              clear A250
              replace H := Option.bind_eq_some_iff.mp H
              obtain ⟨t219, A260, H⟩ := H
              replace H : (if t219 = true then (if t212 = x16_14 then (if (t213 == (decide (x16_14 < x15_14))) = true then ((budget_Server_Left.f kj14 x190000_14 x190001_14 x190002_14 x190003_14 x190004_14 (wrap64 (t198 - 1))).bind fun bt220 => ((budget_Server_Left.f kj14 t214 t215 t216 t217 t218 (wrap64 (t198 - 1))).bind fun bt226 => (if bt220.1 = bt226.1 then ((budget_Server_Left.f kj14 bt220.2.1 bt220.2.2.1 bt220.2.2.2.1 bt220.2.2.2.2.1 bt220.2.2.2.2.2 t198).bind fun bt232 => (if bt232.1 = (mn (wrap64 (1 + (wrap64 (Int.tmod (IntKind.u64.wrap (a0)) (IntKind.u64.wrap (wrap64 (1 + (wrap64 (Int.tmod (IntKind.u64.wrap (a1)) 1000))))))))) (wrap64 (1 + (wrap64 (Int.tmod (IntKind.u64.wrap (a1)) 1000))))) then ((budget_Server_Same.f bt232.2.1 bt232.2.2.1 bt232.2.2.2.1 bt232.2.2.2.2.1 bt232.2.2.2.2.2 bt226.2.1 bt226.2.2.1 bt226.2.2.2.1 bt226.2.2.2.2.1 bt226.2.2.2.2.2).bind fun t238 => (if t238 = true then (some true) else (some (x16_14 == 0)))) else (some false))) else (some false)))) else (some false)) else (some false)) else (some false)) = some r := H
              have A26 := Aside0.mk A260
              clear A260
              by_cases c27 : t219 = true
              · subst c27
                have H1 : (if t212 = x16_14 then (if (t213 == (decide (x16_14 < x15_14))) = true then ((budget_Server_Left.f kj14 x190000_14 x190001_14 x190002_14 x190003_14 x190004_14 (wrap64 (t198 - 1))).bind fun bt220 => ((budget_Server_Left.f kj14 t214 t215 t216 t217 t218 (wrap64 (t198 - 1))).bind fun bt226 => (if bt220.1 = bt226.1 then ((budget_Server_Left.f kj14 bt220.2.1 bt220.2.2.1 bt220.2.2.2.1 bt220.2.2.2.2.1 bt220.2.2.2.2.2 t198).bind fun bt232 => (if bt232.1 = (mn (wrap64 (1 + (wrap64 (Int.tmod (IntKind.u64.wrap (a0)) (IntKind.u64.wrap (wrap64 (1 + (wrap64 (Int.tmod (IntKind.u64.wrap (a1)) 1000))))))))) (wrap64 (1 + (wrap64 (Int.tmod (IntKind.u64.wrap (a1)) 1000))))) then ((budget_Server_Same.f bt232.2.1 bt232.2.2.1 bt232.2.2.2.1 bt232.2.2.2.2.1 bt232.2.2.2.2.2 bt226.2.1 bt226.2.2.1 bt226.2.2.2.1 bt226.2.2.2.2.1 bt226.2.2.2.2.2).bind fun t238 => (if t238 = true then (some true) else (some (x16_14 == 0)))) else (some false))) else (some false)))) else (some false)) else (some false)) = some r := by rw [if_pos rfl] at H; exact H
                clear H
                have H := H1
                clear H1
                by_cases c28 : t212 = x16_14
                · rw [if_pos c28] at H
                  have c28b0 : (t212 == x16_14) = true := beq_iff_eq.mpr c28
                  have c28b1 : (t212 != x16_14) = false := bne_eq_false_iff_eq.mpr c28
                  clear c28
                  by_cases c29 : (t213 == (decide (x16_14 < x15_14))) = true
                  · rw [if_pos c29] at H
                    have c29b0 : (t213 == (decide (x16_14 < x15_14))) = true := c29
                    (try (have c29b1 : decide (t213 = (decide (x16_14 < x15_14))) = true := by simpa using c29))
                    (try (have c29b2 : (t213 == (decide (x16_14 < x15_14))) = true := by simpa using c29))
                    clear c29
                    replace H := Option.bind_eq_some_iff.mp H
                    obtain ⟨⟨t220, t221, t222, t223, t224, t225⟩, A300, H⟩ := H
                    replace H : ((budget_Server_Left.f kj14 t214 t215 t216 t217 t218 (wrap64 (t198 - 1))).bind fun bt226 => (if t220 = bt226.1 then ((budget_Server_Left.f kj14 t221 t222 t223 t224 t225 t198).bind fun bt232 => (if bt232.1 = (mn (wrap64 (1 + (wrap64 (Int.tmod (IntKind.u64.wrap (a0)) (IntKind.u64.wrap (wrap64 (1 + (wrap64 (Int.tmod (IntKind.u64.wrap (a1)) 1000))))))))) (wrap64 (1 + (wrap64 (Int.tmod (IntKind.u64.wrap (a1)) 1000))))) then ((budget_Server_Same.f bt232.2.1 bt232.2.2.1 bt232.2.2.2.1 bt232.2.2.2.2.1 bt232.2.2.2.2.2 bt226.2.1 bt226.2.2.1 bt226.2.2.2.1 bt226.2.2.2.2.1 bt226.2.2.2.2.2).bind fun t238 => (if t238 = true then (some true) else (some (x16_14 == 0)))) else (some false))) else (some false))) = some r := H
                    have A30 := Aside0.mk A300
                    clear A300
                    replace H := Option.bind_eq_some_iff.mp H
                    obtain ⟨⟨t226, t227, t228, t229, t230, t231⟩, A310, H⟩ := H
                    replace H : (if t220 = t226 then ((budget_Server_Left.f kj14 t221 t222 t223 t224 t225 t198).bind fun bt232 => (if bt232.1 = (mn (wrap64 (1 + (wrap64 (Int.tmod (IntKind.u64.wrap (a0)) (IntKind.u64.wrap (wrap64 (1 + (wrap64 (Int.tmod (IntKind.u64.wrap (a1)) 1000))))))))) (wrap64 (1 + (wrap64 (Int.tmod (IntKind.u64.wrap (a1)) 1000))))) then ((budget_Server_Same.f bt232.2.1 bt232.2.2.1 bt232.2.2.2.1 bt232.2.2.2.2.1 bt232.2.2.2.2.2 t227 t228 t229 t230 t231).bind fun t238 => (if t238 = true then (some true) else (some (x16_14 == 0)))) else (some false))) else (some false)) = some r := H
                    have A31 := Aside0.mk A310
                    clear A310
                    by_cases c32 : t220 = t226
                    · rw [if_pos c32] at H
                      have c32b0 : (t220 == t226) = true := beq_iff_eq.mpr c32
                      have c32b1 : (t220 != t226) = false := bne_eq_false_iff_eq.mpr c32
                      clear c32
                      replace H := Option.bind_eq_some_iff.mp H
                      obtain ⟨⟨t232, t233, t234, t235, t236, t237⟩, A330, H⟩ := H
                      replace H : (if t232 = (mn (wrap64 (1 + (wrap64 (Int.tmod (IntKind.u64.wrap (a0)) (IntKind.u64.wrap (wrap64 (1 + (wrap64 (Int.tmod (IntKind.u64.wrap (a1)) 1000))))))))) (wrap64 (1 + (wrap64 (Int.tmod (IntKind.u64.wrap (a1)) 1000))))) then ((budget_Server_Same.f t233 t234 t235 t236 t237 t227 t228 t229 t230 t231).bind fun t238 => (if t238 = true then (some true) else (some (x16_14 == 0)))) else (some false)) = some r := H
                      have A33 := Aside0.mk A330
                      clear A330
                      obtain ⟨ji34, hji34⟩ : ∃ j_ : Int, (mn (wrap64 (1 + (wrap64 (Int.tmod (IntKind.u64.wrap (a0)) (IntKind.u64.wrap (wrap64 (1 + (wrap64 (Int.tmod (IntKind.u64.wrap (a1)) 1000))))))))) (wrap64 (1 + (wrap64 (Int.tmod (IntKind.u64.wrap (a1)) 1000))))) = j_ := ⟨_, rfl⟩
                      replace H : (if t232 = (ji34) then ((budget_Server_Same.f t233 t234 t235 t236 t237 t227 t228 t229 t230 t231).bind fun t238 => (if t238 = true then (some true) else (some (x16_14 == 0)))) else (some false)) = some r := by first | (rw [hji34] at H; exact H) | (simp only [hji34] at H ⊢; exact H)
                      (try rw [hji34] at A25)
                      (try rw [hji34] at A26)
                      (try rw [hji34] at A30)
                      (try rw [hji34] at A31)
                      (try rw [hji34] at A33)
                      have hji34_ : (if (wrap64 (1 + (wrap64 (Int.tmod (IntKind.u64.wrap (a1)) 1000)))) < (wrap64 (1 + (wrap64 (Int.tmod (IntKind.u64.wrap (a0)) (IntKind.u64.wrap (wrap64 (1 + (wrap64 (Int.tmod (IntKind.u64.wrap (a1)) 1000))))))))) then (wrap64 (1 + (wrap64 (Int.tmod (IntKind.u64.wrap (a1)) 1000)))) else (wrap64 (1 + (wrap64 (Int.tmod (IntKind.u64.wrap (a0)) (IntKind.u64.wrap (wrap64 (1 + (wrap64 (Int.tmod (IntKind.u64.wrap (a1)) 1000)))))))))) = ji34 := hji34
                      by_cases c35 : t232 = (ji34)
                      · rw [if_pos c35] at H
                        have c35b0 : (t232 == (ji34)) = true := beq_iff_eq.mpr c35
                        have c35b1 : (t232 != (ji34)) = false := bne_eq_false_iff_eq.mpr c35
                        clear c35
                        replace H := Option.bind_eq_some_iff.mp H
                        obtain ⟨t238, A360, H⟩ := H
                        replace H : (if t238 = true then (some true) else (some (x16_14 == 0))) = some r := H
                        have A36 := Aside0.mk A360
                        clear A360
                        by_cases c37 : t238 = true
                        · subst c37
                          have H1 : (some true) = some r := by rw [if_pos rfl] at H; exact H
                          clear H
                          have H := H1
                          clear H1
                          obtain rfl := Option.some.inj H
                          go_wp2_with (first | ((with_reducible refine gate_callee (f := 16) rfl ?_); refine goesL_ (some 111) rfl rfl Try.func16 (by kernel_rfl) rfl #[.pointer (some ⟨g196, 0, none⟩), .int .i64 (wrap64 (Int.tmod (IntKind.u64.wrap (a2)) 100000)), .int .i64 x15_14] rfl (by (try simp only [List.map_toArray, List.map_cons, List.map_nil]); first | done | rfl | (simp only [List.length_drop, List.length_take]; rfl)) ?_; (with_reducible refine (budget_Server_Charge.calls kj14 g196 t191 t192 t193 t194 t195 (wrap64 (Int.tmod (IntKind.u64.wrap (a2)) 100000)) x15_14 t212 t213 t214 t215 t216 t217 t218 w _ ?side1 ?side2 A25.out).mono ?_); (case side1 => repeat (first | (with_reducible first | exact HI196.out | apply IsS84.alloc | apply IsS84.drewN | apply IsS84.drew | apply IsS84.set_0 | apply IsS84.set_1 | apply IsS84.set_2 | apply IsS84.set_3 | apply IsS84.set_4) | exact HI196.out)); (case side2 => repeat (first | (with_reducible first | exact HB.out | apply below_alloc | apply pw_below_drewN | apply below_drew1 | refine below_set ?_ (IsS84.ge HI189.out) | refine below_set ?_ (IsS84.ge HI196.out)) | exact HB.out)); rintro e w38 ⟨rfl, hi, hb, hk⟩; refine ⟨_, rfl, ?_⟩; have n0_ := Aside0.mk (IsS84.other (show IsS84 w _ g189 x190000_14 x190001_14 x190002_14 x190003_14 x190004_14 from by repeat (first | (with_reducible first | exact HI189.out | apply IsS84.alloc | apply IsS84.drewN | apply IsS84.drew | apply IsS84.set_0 | apply IsS84.set_1 | apply IsS84.set_2 | apply IsS84.set_3 | apply IsS84.set_4) | exact HI189.out)) hk NS189_196.out); have n1_ := Aside0.mk (hb); have n2_ := Aside0.mk (hi); clear HI189; clear HB; clear HI196; have HI189 := n0_; have HB := n1_; have HI196 := n2_; clear n0_ n1_ n2_; (try clear hb); (try clear hb2); (try clear hge); (try clear hk); (try clear hi)) | ((with_reducible refine gate_callee (f := 19) rfl ?_); refine goesL_ (some 114) rfl rfl Try.func19 (by kernel_rfl) rfl #[] rfl (by (try simp only [List.map_toArray, List.map_cons, List.map_nil]); first | done | rfl | (simp only [List.length_drop, List.length_take]; rfl)) ?_; (with_reducible refine (monocoquelaw30_known.calls kj14  true _ A26.out).mono ?_); rintro e w39 ⟨rfl, hb⟩; refine ⟨_, rfl, ?_⟩; have n0_ := Aside0.mk (IsS84.below (by repeat (first | (with_reducible first | exact HI189.out | apply IsS84.alloc | apply IsS84.drewN | apply IsS84.drew | apply IsS84.set_0 | apply IsS84.set_1 | apply IsS84.set_2 | apply IsS84.set_3 | apply IsS84.set_4) | exact HI189.out)) hb); have n1_ := Aside0.mk (IsS84.below (by repeat (first | (with_reducible first | exact HI196.out | apply IsS84.alloc | apply IsS84.drewN | apply IsS84.drew | apply IsS84.set_0 | apply IsS84.set_1 | apply IsS84.set_2 | apply IsS84.set_3 | apply IsS84.set_4) | exact HI196.out)) hb); have n2_ := Aside0.mk (below_step (by repeat (first | (with_reducible first | exact HB.out | apply below_alloc | apply pw_below_drewN | apply below_drew1 | refine below_set ?_ (IsS84.ge HI189.out) | refine below_set ?_ (IsS84.ge HI196.out)) | exact HB.out)) hb); clear HI189; clear HI196; clear HB; have HI189 := n0_; have HI196 := n1_; have HB := n2_; clear n0_ n1_ n2_; (try clear hb); (try clear hb2); (try clear hge); (try clear hk); (try clear hi)) | (go_at_call 18; (with_reducible refine (budget_Server_Left.calls kj14 g189 x190000_14 x190001_14 x190002_14 x190003_14 x190004_14 (wrap64 (t198 - 1)) t220 t221 t222 t223 t224 t225 w _ ?side1 ?side2 A30.out).mono ?_); (case side1 => repeat (first | (with_reducible first | exact HI189.out | apply IsS84.alloc | apply IsS84.drewN | apply IsS84.drew | apply IsS84.set_0 | apply IsS84.set_1 | apply IsS84.set_2 | apply IsS84.set_3 | apply IsS84.set_4) | exact HI189.out)); (case side2 => repeat (first | (with_reducible first | exact HB.out | apply below_alloc | apply pw_below_drewN | apply below_drew1 | refine below_set ?_ (IsS84.ge HI189.out) | refine below_set ?_ (IsS84.ge HI196.out)) | exact HB.out)); rintro e w40 ⟨rfl, hi, hb, hk⟩; have n0_ := Aside0.mk (IsS84.other (show IsS84 w _ g196 t214 t215 t216 t217 t218 from by repeat (first | (with_reducible first | exact HI196.out | apply IsS84.alloc | apply IsS84.drewN | apply IsS84.drew | apply IsS84.set_0 | apply IsS84.set_1 | apply IsS84.set_2 | apply IsS84.set_3 | apply IsS84.set_4) | exact HI196.out)) hk NS196_189.out); have n1_ := Aside0.mk (hb); have n2_ := Aside0.mk (hi); clear HI196; clear HB; clear HI189; have HI196 := n0_; have HB := n1_; have HI189 := n2_; clear n0_ n1_ n2_; (try clear hb); (try clear hb2); (try clear hge); (try clear hk); (try clear hi)) | (go_at_call 18; (with_reducible refine (budget_Server_Left.calls kj14 g196 t214 t215 t216 t217 t218 (wrap64 (t198 - 1)) t226 t227 t228 t229 t230 t231 w _ ?side1 ?side2 A31.out).mono ?_); (case side1 => repeat (first | (with_reducible first | exact HI196.out | apply IsS84.alloc | apply IsS84.drewN | apply IsS84.drew | apply IsS84.set_0 | apply IsS84.set_1 | apply IsS84.set_2 | apply IsS84.set_3 | apply IsS84.set_4) | exact HI196.out)); (case side2 => repeat (first | (with_reducible first | exact HB.out | apply below_alloc | apply pw_below_drewN | apply below_drew1 | refine below_set ?_ (IsS84.ge HI189.out) | refine below_set ?_ (IsS84.ge HI196.out)) | exact HB.out)); rintro e w41 ⟨rfl, hi, hb, hk⟩; have n0_ := Aside0.mk (IsS84.other (show IsS84 w _ g189 t221 t222 t223 t224 t225 from by repeat (first | (with_reducible first | exact HI189.out | apply IsS84.alloc | apply IsS84.drewN | apply IsS84.drew | apply IsS84.set_0 | apply IsS84.set_1 | apply IsS84.set_2 | apply IsS84.set_3 | apply IsS84.set_4) | exact HI189.out)) hk NS189_196.out); have n1_ := Aside0.mk (hb); have n2_ := Aside0.mk (hi); clear HI189; clear HB; clear HI196; have HI189 := n0_; have HB := n1_; have HI196 := n2_; clear n0_ n1_ n2_; (try clear hb); (try clear hb2); (try clear hge); (try clear hk); (try clear hi)) | (go_at_call 18; (with_reducible refine (budget_Server_Left.calls kj14 g189 t221 t222 t223 t224 t225 t198 t232 t233 t234 t235 t236 t237 w _ ?side1 ?side2 A33.out).mono ?_); (case side1 => repeat (first | (with_reducible first | exact HI189.out | apply IsS84.alloc | apply IsS84.drewN | apply IsS84.drew | apply IsS84.set_0 | apply IsS84.set_1 | apply IsS84.set_2 | apply IsS84.set_3 | apply IsS84.set_4) | exact HI189.out)); (case side2 => repeat (first | (with_reducible first | exact HB.out | apply below_alloc | apply pw_below_drewN | apply below_drew1 | refine below_set ?_ (IsS84.ge HI189.out) | refine below_set ?_ (IsS84.ge HI196.out)) | exact HB.out)); rintro e w42 ⟨rfl, hi, hb, hk⟩; have n0_ := Aside0.mk (IsS84.other (show IsS84 w _ g196 t227 t228 t229 t230 t231 from by repeat (first | (with_reducible first | exact HI196.out | apply IsS84.alloc | apply IsS84.drewN | apply IsS84.drew | apply IsS84.set_0 | apply IsS84.set_1 | apply IsS84.set_2 | apply IsS84.set_3 | apply IsS84.set_4) | exact HI196.out)) hk NS196_189.out); have n1_ := Aside0.mk (hb); have n2_ := Aside0.mk (hi); clear HI196; clear HB; clear HI189; have HI196 := n0_; have HB := n1_; have HI189 := n2_; clear n0_ n1_ n2_; (try clear hb); (try clear hb2); (try clear hge); (try clear hk); (try clear hi)) | (go_at_call 21; (with_reducible refine (budget_Server_Same.calls g189 t233 t234 t235 t236 t237 g196 t227 t228 t229 t230 t231 true w _ ?side1 ?side2 ?side3 A36.out).mono ?_); (case side1 => repeat (first | (with_reducible first | exact HI189.out | apply IsS84.alloc | apply IsS84.drewN | apply IsS84.drew | apply IsS84.set_0 | apply IsS84.set_1 | apply IsS84.set_2 | apply IsS84.set_3 | apply IsS84.set_4) | exact HI189.out)); (case side2 => repeat (first | (with_reducible first | exact HI196.out | apply IsS84.alloc | apply IsS84.drewN | apply IsS84.drew | apply IsS84.set_0 | apply IsS84.set_1 | apply IsS84.set_2 | apply IsS84.set_3 | apply IsS84.set_4) | exact HI196.out)); (case side3 => repeat (first | (with_reducible first | exact HB.out | apply below_alloc | apply pw_below_drewN | apply below_drew1 | refine below_set ?_ (IsS84.ge HI189.out) | refine below_set ?_ (IsS84.ge HI196.out)) | exact HB.out)); rintro e w' ⟨rfl, ⟨nd, rfl⟩⟩))
                          go_ret
                          exact ⟨by first | rfl | (simp [errW_none, errW_some] <;> rfl) | (simp only [← hji34]; first | rfl | (simp [errW_none, errW_some] <;> rfl)) | (simp [*, errW_none, errW_some] <;> rfl), by repeat (first | (with_reducible first | exact HB.out | apply below_alloc | apply pw_below_drewN | apply below_drew1 | refine below_set ?_ (IsS84.ge HI189.out) | refine below_set ?_ (IsS84.ge HI196.out)) | exact HB.out)⟩
                        · replace c37 := Bool.eq_false_iff.mpr c37
                          subst c37
                          have H1 : (some (x16_14 == 0)) = some r := by rw [if_neg (show ¬ (false = true) by decide)] at H; exact H
                          clear H
                          have H := H1
                          clear H1
                          obtain rfl := Option.some.inj H
                          go_wp2_with (first | ((with_reducible refine gate_callee (f := 16) rfl ?_); refine goesL_ (some 111) rfl rfl Try.func16 (by kernel_rfl) rfl #[.pointer (some ⟨g196, 0, none⟩), .int .i64 (wrap64 (Int.tmod (IntKind.u64.wrap (a2)) 100000)), .int .i64 x15_14] rfl (by (try simp only [List.map_toArray, List.map_cons, List.map_nil]); first | done | rfl | (simp only [List.length_drop, List.length_take]; rfl)) ?_; (with_reducible refine (budget_Server_Charge.calls kj14 g196 t191 t192 t193 t194 t195 (wrap64 (Int.tmod (IntKind.u64.wrap (a2)) 100000)) x15_14 t212 t213 t214 t215 t216 t217 t218 w _ ?side1 ?side2 A25.out).mono ?_); (case side1 => repeat (first | (with_reducible first | exact HI196.out | apply IsS84.alloc | apply IsS84.drewN | apply IsS84.drew | apply IsS84.set_0 | apply IsS84.set_1 | apply IsS84.set_2 | apply IsS84.set_3 | apply IsS84.set_4) | exact HI196.out)); (case side2 => repeat (first | (with_reducible first | exact HB.out | apply below_alloc | apply pw_below_drewN | apply below_drew1 | refine below_set ?_ (IsS84.ge HI189.out) | refine below_set ?_ (IsS84.ge HI196.out)) | exact HB.out)); rintro e w43 ⟨rfl, hi, hb, hk⟩; refine ⟨_, rfl, ?_⟩; have n0_ := Aside0.mk (IsS84.other (show IsS84 w _ g189 x190000_14 x190001_14 x190002_14 x190003_14 x190004_14 from by repeat (first | (with_reducible first | exact HI189.out | apply IsS84.alloc | apply IsS84.drewN | apply IsS84.drew | apply IsS84.set_0 | apply IsS84.set_1 | apply IsS84.set_2 | apply IsS84.set_3 | apply IsS84.set_4) | exact HI189.out)) hk NS189_196.out); have n1_ := Aside0.mk (hb); have n2_ := Aside0.mk (hi); clear HI189; clear HB; clear HI196; have HI189 := n0_; have HB := n1_; have HI196 := n2_; clear n0_ n1_ n2_; (try clear hb); (try clear hb2); (try clear hge); (try clear hk); (try clear hi)) | ((with_reducible refine gate_callee (f := 19) rfl ?_); refine goesL_ (some 114) rfl rfl Try.func19 (by kernel_rfl) rfl #[] rfl (by (try simp only [List.map_toArray, List.map_cons, List.map_nil]); first | done | rfl | (simp only [List.length_drop, List.length_take]; rfl)) ?_; (with_reducible refine (monocoquelaw30_known.calls kj14  true _ A26.out).mono ?_); rintro e w44 ⟨rfl, hb⟩; refine ⟨_, rfl, ?_⟩; have n0_ := Aside0.mk (IsS84.below (by repeat (first | (with_reducible first | exact HI189.out | apply IsS84.alloc | apply IsS84.drewN | apply IsS84.drew | apply IsS84.set_0 | apply IsS84.set_1 | apply IsS84.set_2 | apply IsS84.set_3 | apply IsS84.set_4) | exact HI189.out)) hb); have n1_ := Aside0.mk (IsS84.below (by repeat (first | (with_reducible first | exact HI196.out | apply IsS84.alloc | apply IsS84.drewN | apply IsS84.drew | apply IsS84.set_0 | apply IsS84.set_1 | apply IsS84.set_2 | apply IsS84.set_3 | apply IsS84.set_4) | exact HI196.out)) hb); have n2_ := Aside0.mk (below_step (by repeat (first | (with_reducible first | exact HB.out | apply below_alloc | apply pw_below_drewN | apply below_drew1 | refine below_set ?_ (IsS84.ge HI189.out) | refine below_set ?_ (IsS84.ge HI196.out)) | exact HB.out)) hb); clear HI189; clear HI196; clear HB; have HI189 := n0_; have HI196 := n1_; have HB := n2_; clear n0_ n1_ n2_; (try clear hb); (try clear hb2); (try clear hge); (try clear hk); (try clear hi)) | (go_at_call 18; (with_reducible refine (budget_Server_Left.calls kj14 g189 x190000_14 x190001_14 x190002_14 x190003_14 x190004_14 (wrap64 (t198 - 1)) t220 t221 t222 t223 t224 t225 w _ ?side1 ?side2 A30.out).mono ?_); (case side1 => repeat (first | (with_reducible first | exact HI189.out | apply IsS84.alloc | apply IsS84.drewN | apply IsS84.drew | apply IsS84.set_0 | apply IsS84.set_1 | apply IsS84.set_2 | apply IsS84.set_3 | apply IsS84.set_4) | exact HI189.out)); (case side2 => repeat (first | (with_reducible first | exact HB.out | apply below_alloc | apply pw_below_drewN | apply below_drew1 | refine below_set ?_ (IsS84.ge HI189.out) | refine below_set ?_ (IsS84.ge HI196.out)) | exact HB.out)); rintro e w45 ⟨rfl, hi, hb, hk⟩; have n0_ := Aside0.mk (IsS84.other (show IsS84 w _ g196 t214 t215 t216 t217 t218 from by repeat (first | (with_reducible first | exact HI196.out | apply IsS84.alloc | apply IsS84.drewN | apply IsS84.drew | apply IsS84.set_0 | apply IsS84.set_1 | apply IsS84.set_2 | apply IsS84.set_3 | apply IsS84.set_4) | exact HI196.out)) hk NS196_189.out); have n1_ := Aside0.mk (hb); have n2_ := Aside0.mk (hi); clear HI196; clear HB; clear HI189; have HI196 := n0_; have HB := n1_; have HI189 := n2_; clear n0_ n1_ n2_; (try clear hb); (try clear hb2); (try clear hge); (try clear hk); (try clear hi)) | (go_at_call 18; (with_reducible refine (budget_Server_Left.calls kj14 g196 t214 t215 t216 t217 t218 (wrap64 (t198 - 1)) t226 t227 t228 t229 t230 t231 w _ ?side1 ?side2 A31.out).mono ?_); (case side1 => repeat (first | (with_reducible first | exact HI196.out | apply IsS84.alloc | apply IsS84.drewN | apply IsS84.drew | apply IsS84.set_0 | apply IsS84.set_1 | apply IsS84.set_2 | apply IsS84.set_3 | apply IsS84.set_4) | exact HI196.out)); (case side2 => repeat (first | (with_reducible first | exact HB.out | apply below_alloc | apply pw_below_drewN | apply below_drew1 | refine below_set ?_ (IsS84.ge HI189.out) | refine below_set ?_ (IsS84.ge HI196.out)) | exact HB.out)); rintro e w46 ⟨rfl, hi, hb, hk⟩; have n0_ := Aside0.mk (IsS84.other (show IsS84 w _ g189 t221 t222 t223 t224 t225 from by repeat (first | (with_reducible first | exact HI189.out | apply IsS84.alloc | apply IsS84.drewN | apply IsS84.drew | apply IsS84.set_0 | apply IsS84.set_1 | apply IsS84.set_2 | apply IsS84.set_3 | apply IsS84.set_4) | exact HI189.out)) hk NS189_196.out); have n1_ := Aside0.mk (hb); have n2_ := Aside0.mk (hi); clear HI189; clear HB; clear HI196; have HI189 := n0_; have HB := n1_; have HI196 := n2_; clear n0_ n1_ n2_; (try clear hb); (try clear hb2); (try clear hge); (try clear hk); (try clear hi)) | (go_at_call 18; (with_reducible refine (budget_Server_Left.calls kj14 g189 t221 t222 t223 t224 t225 t198 t232 t233 t234 t235 t236 t237 w _ ?side1 ?side2 A33.out).mono ?_); (case side1 => repeat (first | (with_reducible first | exact HI189.out | apply IsS84.alloc | apply IsS84.drewN | apply IsS84.drew | apply IsS84.set_0 | apply IsS84.set_1 | apply IsS84.set_2 | apply IsS84.set_3 | apply IsS84.set_4) | exact HI189.out)); (case side2 => repeat (first | (with_reducible first | exact HB.out | apply below_alloc | apply pw_below_drewN | apply below_drew1 | refine below_set ?_ (IsS84.ge HI189.out) | refine below_set ?_ (IsS84.ge HI196.out)) | exact HB.out)); rintro e w47 ⟨rfl, hi, hb, hk⟩; have n0_ := Aside0.mk (IsS84.other (show IsS84 w _ g196 t227 t228 t229 t230 t231 from by repeat (first | (with_reducible first | exact HI196.out | apply IsS84.alloc | apply IsS84.drewN | apply IsS84.drew | apply IsS84.set_0 | apply IsS84.set_1 | apply IsS84.set_2 | apply IsS84.set_3 | apply IsS84.set_4) | exact HI196.out)) hk NS196_189.out); have n1_ := Aside0.mk (hb); have n2_ := Aside0.mk (hi); clear HI196; clear HB; clear HI189; have HI196 := n0_; have HB := n1_; have HI189 := n2_; clear n0_ n1_ n2_; (try clear hb); (try clear hb2); (try clear hge); (try clear hk); (try clear hi)) | (go_at_call 21; (with_reducible refine (budget_Server_Same.calls g189 t233 t234 t235 t236 t237 g196 t227 t228 t229 t230 t231 false w _ ?side1 ?side2 ?side3 A36.out).mono ?_); (case side1 => repeat (first | (with_reducible first | exact HI189.out | apply IsS84.alloc | apply IsS84.drewN | apply IsS84.drew | apply IsS84.set_0 | apply IsS84.set_1 | apply IsS84.set_2 | apply IsS84.set_3 | apply IsS84.set_4) | exact HI189.out)); (case side2 => repeat (first | (with_reducible first | exact HI196.out | apply IsS84.alloc | apply IsS84.drewN | apply IsS84.drew | apply IsS84.set_0 | apply IsS84.set_1 | apply IsS84.set_2 | apply IsS84.set_3 | apply IsS84.set_4) | exact HI196.out)); (case side3 => repeat (first | (with_reducible first | exact HB.out | apply below_alloc | apply pw_below_drewN | apply below_drew1 | refine below_set ?_ (IsS84.ge HI189.out) | refine below_set ?_ (IsS84.ge HI196.out)) | exact HB.out)); rintro e w' ⟨rfl, ⟨nd, rfl⟩⟩))
                          go_ret
                          exact ⟨by first | rfl | (simp [errW_none, errW_some] <;> rfl) | (simp only [← hji34]; first | rfl | (simp [errW_none, errW_some] <;> rfl)) | (simp [*, errW_none, errW_some] <;> rfl), by repeat (first | (with_reducible first | exact HB.out | apply below_alloc | apply pw_below_drewN | apply below_drew1 | refine below_set ?_ (IsS84.ge HI189.out) | refine below_set ?_ (IsS84.ge HI196.out)) | exact HB.out)⟩
                      · rw [if_neg c35] at H
                        have c35b0 : (t232 == (ji34)) = false := beq_eq_false_iff_ne.mpr c35
                        have c35b1 : (t232 != (ji34)) = true := bne_iff_ne.mpr c35
                        obtain rfl := Option.some.inj H
                        go_wp2_with (first | ((with_reducible refine gate_callee (f := 16) rfl ?_); refine goesL_ (some 111) rfl rfl Try.func16 (by kernel_rfl) rfl #[.pointer (some ⟨g196, 0, none⟩), .int .i64 (wrap64 (Int.tmod (IntKind.u64.wrap (a2)) 100000)), .int .i64 x15_14] rfl (by (try simp only [List.map_toArray, List.map_cons, List.map_nil]); first | done | rfl | (simp only [List.length_drop, List.length_take]; rfl)) ?_; (with_reducible refine (budget_Server_Charge.calls kj14 g196 t191 t192 t193 t194 t195 (wrap64 (Int.tmod (IntKind.u64.wrap (a2)) 100000)) x15_14 t212 t213 t214 t215 t216 t217 t218 w _ ?side1 ?side2 A25.out).mono ?_); (case side1 => repeat (first | (with_reducible first | exact HI196.out | apply IsS84.alloc | apply IsS84.drewN | apply IsS84.drew | apply IsS84.set_0 | apply IsS84.set_1 | apply IsS84.set_2 | apply IsS84.set_3 | apply IsS84.set_4) | exact HI196.out)); (case side2 => repeat (first | (with_reducible first | exact HB.out | apply below_alloc | apply pw_below_drewN | apply below_drew1 | refine below_set ?_ (IsS84.ge HI189.out) | refine below_set ?_ (IsS84.ge HI196.out)) | exact HB.out)); rintro e w48 ⟨rfl, hi, hb, hk⟩; refine ⟨_, rfl, ?_⟩; have n0_ := Aside0.mk (IsS84.other (show IsS84 w _ g189 x190000_14 x190001_14 x190002_14 x190003_14 x190004_14 from by repeat (first | (with_reducible first | exact HI189.out | apply IsS84.alloc | apply IsS84.drewN | apply IsS84.drew | apply IsS84.set_0 | apply IsS84.set_1 | apply IsS84.set_2 | apply IsS84.set_3 | apply IsS84.set_4) | exact HI189.out)) hk NS189_196.out); have n1_ := Aside0.mk (hb); have n2_ := Aside0.mk (hi); clear HI189; clear HB; clear HI196; have HI189 := n0_; have HB := n1_; have HI196 := n2_; clear n0_ n1_ n2_; (try clear hb); (try clear hb2); (try clear hge); (try clear hk); (try clear hi)) | ((with_reducible refine gate_callee (f := 19) rfl ?_); refine goesL_ (some 114) rfl rfl Try.func19 (by kernel_rfl) rfl #[] rfl (by (try simp only [List.map_toArray, List.map_cons, List.map_nil]); first | done | rfl | (simp only [List.length_drop, List.length_take]; rfl)) ?_; (with_reducible refine (monocoquelaw30_known.calls kj14  true _ A26.out).mono ?_); rintro e w49 ⟨rfl, hb⟩; refine ⟨_, rfl, ?_⟩; have n0_ := Aside0.mk (IsS84.below (by repeat (first | (with_reducible first | exact HI189.out | apply IsS84.alloc | apply IsS84.drewN | apply IsS84.drew | apply IsS84.set_0 | apply IsS84.set_1 | apply IsS84.set_2 | apply IsS84.set_3 | apply IsS84.set_4) | exact HI189.out)) hb); have n1_ := Aside0.mk (IsS84.below (by repeat (first | (with_reducible first | exact HI196.out | apply IsS84.alloc | apply IsS84.drewN | apply IsS84.drew | apply IsS84.set_0 | apply IsS84.set_1 | apply IsS84.set_2 | apply IsS84.set_3 | apply IsS84.set_4) | exact HI196.out)) hb); have n2_ := Aside0.mk (below_step (by repeat (first | (with_reducible first | exact HB.out | apply below_alloc | apply pw_below_drewN | apply below_drew1 | refine below_set ?_ (IsS84.ge HI189.out) | refine below_set ?_ (IsS84.ge HI196.out)) | exact HB.out)) hb); clear HI189; clear HI196; clear HB; have HI189 := n0_; have HI196 := n1_; have HB := n2_; clear n0_ n1_ n2_; (try clear hb); (try clear hb2); (try clear hge); (try clear hk); (try clear hi)) | (go_at_call 18; (with_reducible refine (budget_Server_Left.calls kj14 g189 x190000_14 x190001_14 x190002_14 x190003_14 x190004_14 (wrap64 (t198 - 1)) t220 t221 t222 t223 t224 t225 w _ ?side1 ?side2 A30.out).mono ?_); (case side1 => repeat (first | (with_reducible first | exact HI189.out | apply IsS84.alloc | apply IsS84.drewN | apply IsS84.drew | apply IsS84.set_0 | apply IsS84.set_1 | apply IsS84.set_2 | apply IsS84.set_3 | apply IsS84.set_4) | exact HI189.out)); (case side2 => repeat (first | (with_reducible first | exact HB.out | apply below_alloc | apply pw_below_drewN | apply below_drew1 | refine below_set ?_ (IsS84.ge HI189.out) | refine below_set ?_ (IsS84.ge HI196.out)) | exact HB.out)); rintro e w50 ⟨rfl, hi, hb, hk⟩; have n0_ := Aside0.mk (IsS84.other (show IsS84 w _ g196 t214 t215 t216 t217 t218 from by repeat (first | (with_reducible first | exact HI196.out | apply IsS84.alloc | apply IsS84.drewN | apply IsS84.drew | apply IsS84.set_0 | apply IsS84.set_1 | apply IsS84.set_2 | apply IsS84.set_3 | apply IsS84.set_4) | exact HI196.out)) hk NS196_189.out); have n1_ := Aside0.mk (hb); have n2_ := Aside0.mk (hi); clear HI196; clear HB; clear HI189; have HI196 := n0_; have HB := n1_; have HI189 := n2_; clear n0_ n1_ n2_; (try clear hb); (try clear hb2); (try clear hge); (try clear hk); (try clear hi)) | (go_at_call 18; (with_reducible refine (budget_Server_Left.calls kj14 g196 t214 t215 t216 t217 t218 (wrap64 (t198 - 1)) t226 t227 t228 t229 t230 t231 w _ ?side1 ?side2 A31.out).mono ?_); (case side1 => repeat (first | (with_reducible first | exact HI196.out | apply IsS84.alloc | apply IsS84.drewN | apply IsS84.drew | apply IsS84.set_0 | apply IsS84.set_1 | apply IsS84.set_2 | apply IsS84.set_3 | apply IsS84.set_4) | exact HI196.out)); (case side2 => repeat (first | (with_reducible first | exact HB.out | apply below_alloc | apply pw_below_drewN | apply below_drew1 | refine below_set ?_ (IsS84.ge HI189.out) | refine below_set ?_ (IsS84.ge HI196.out)) | exact HB.out)); rintro e w51 ⟨rfl, hi, hb, hk⟩; have n0_ := Aside0.mk (IsS84.other (show IsS84 w _ g189 t221 t222 t223 t224 t225 from by repeat (first | (with_reducible first | exact HI189.out | apply IsS84.alloc | apply IsS84.drewN | apply IsS84.drew | apply IsS84.set_0 | apply IsS84.set_1 | apply IsS84.set_2 | apply IsS84.set_3 | apply IsS84.set_4) | exact HI189.out)) hk NS189_196.out); have n1_ := Aside0.mk (hb); have n2_ := Aside0.mk (hi); clear HI189; clear HB; clear HI196; have HI189 := n0_; have HB := n1_; have HI196 := n2_; clear n0_ n1_ n2_; (try clear hb); (try clear hb2); (try clear hge); (try clear hk); (try clear hi)) | (go_at_call 18; (with_reducible refine (budget_Server_Left.calls kj14 g189 t221 t222 t223 t224 t225 t198 t232 t233 t234 t235 t236 t237 w _ ?side1 ?side2 A33.out).mono ?_); (case side1 => repeat (first | (with_reducible first | exact HI189.out | apply IsS84.alloc | apply IsS84.drewN | apply IsS84.drew | apply IsS84.set_0 | apply IsS84.set_1 | apply IsS84.set_2 | apply IsS84.set_3 | apply IsS84.set_4) | exact HI189.out)); (case side2 => repeat (first | (with_reducible first | exact HB.out | apply below_alloc | apply pw_below_drewN | apply below_drew1 | refine below_set ?_ (IsS84.ge HI189.out) | refine below_set ?_ (IsS84.ge HI196.out)) | exact HB.out)); rintro e w52 ⟨rfl, hi, hb, hk⟩; have n0_ := Aside0.mk (IsS84.other (show IsS84 w _ g196 t227 t228 t229 t230 t231 from by repeat (first | (with_reducible first | exact HI196.out | apply IsS84.alloc | apply IsS84.drewN | apply IsS84.drew | apply IsS84.set_0 | apply IsS84.set_1 | apply IsS84.set_2 | apply IsS84.set_3 | apply IsS84.set_4) | exact HI196.out)) hk NS196_189.out); have n1_ := Aside0.mk (hb); have n2_ := Aside0.mk (hi); clear HI196; clear HB; clear HI189; have HI196 := n0_; have HB := n1_; have HI189 := n2_; clear n0_ n1_ n2_; (try clear hb); (try clear hb2); (try clear hge); (try clear hk); (try clear hi)))
                        go_ret
                        exact ⟨by first | rfl | (simp [errW_none, errW_some] <;> rfl) | (simp only [← hji34]; first | rfl | (simp [errW_none, errW_some] <;> rfl)) | (simp [*, errW_none, errW_some] <;> rfl), by repeat (first | (with_reducible first | exact HB.out | apply below_alloc | apply pw_below_drewN | apply below_drew1 | refine below_set ?_ (IsS84.ge HI189.out) | refine below_set ?_ (IsS84.ge HI196.out)) | exact HB.out)⟩
                    · rw [if_neg c32] at H
                      have c32b0 : (t220 == t226) = false := beq_eq_false_iff_ne.mpr c32
                      have c32b1 : (t220 != t226) = true := bne_iff_ne.mpr c32
                      obtain rfl := Option.some.inj H
                      go_wp2_with (first | ((with_reducible refine gate_callee (f := 16) rfl ?_); refine goesL_ (some 111) rfl rfl Try.func16 (by kernel_rfl) rfl #[.pointer (some ⟨g196, 0, none⟩), .int .i64 (wrap64 (Int.tmod (IntKind.u64.wrap (a2)) 100000)), .int .i64 x15_14] rfl (by (try simp only [List.map_toArray, List.map_cons, List.map_nil]); first | done | rfl | (simp only [List.length_drop, List.length_take]; rfl)) ?_; (with_reducible refine (budget_Server_Charge.calls kj14 g196 t191 t192 t193 t194 t195 (wrap64 (Int.tmod (IntKind.u64.wrap (a2)) 100000)) x15_14 t212 t213 t214 t215 t216 t217 t218 w _ ?side1 ?side2 A25.out).mono ?_); (case side1 => repeat (first | (with_reducible first | exact HI196.out | apply IsS84.alloc | apply IsS84.drewN | apply IsS84.drew | apply IsS84.set_0 | apply IsS84.set_1 | apply IsS84.set_2 | apply IsS84.set_3 | apply IsS84.set_4) | exact HI196.out)); (case side2 => repeat (first | (with_reducible first | exact HB.out | apply below_alloc | apply pw_below_drewN | apply below_drew1 | refine below_set ?_ (IsS84.ge HI189.out) | refine below_set ?_ (IsS84.ge HI196.out)) | exact HB.out)); rintro e w53 ⟨rfl, hi, hb, hk⟩; refine ⟨_, rfl, ?_⟩; have n0_ := Aside0.mk (IsS84.other (show IsS84 w _ g189 x190000_14 x190001_14 x190002_14 x190003_14 x190004_14 from by repeat (first | (with_reducible first | exact HI189.out | apply IsS84.alloc | apply IsS84.drewN | apply IsS84.drew | apply IsS84.set_0 | apply IsS84.set_1 | apply IsS84.set_2 | apply IsS84.set_3 | apply IsS84.set_4) | exact HI189.out)) hk NS189_196.out); have n1_ := Aside0.mk (hb); have n2_ := Aside0.mk (hi); clear HI189; clear HB; clear HI196; have HI189 := n0_; have HB := n1_; have HI196 := n2_; clear n0_ n1_ n2_; (try clear hb); (try clear hb2); (try clear hge); (try clear hk); (try clear hi)) | ((with_reducible refine gate_callee (f := 19) rfl ?_); refine goesL_ (some 114) rfl rfl Try.func19 (by kernel_rfl) rfl #[] rfl (by (try simp only [List.map_toArray, List.map_cons, List.map_nil]); first | done | rfl | (simp only [List.length_drop, List.length_take]; rfl)) ?_; (with_reducible refine (monocoquelaw30_known.calls kj14  true _ A26.out).mono ?_); rintro e w54 ⟨rfl, hb⟩; refine ⟨_, rfl, ?_⟩; have n0_ := Aside0.mk (IsS84.below (by repeat (first | (with_reducible first | exact HI189.out | apply IsS84.alloc | apply IsS84.drewN | apply IsS84.drew | apply IsS84.set_0 | apply IsS84.set_1 | apply IsS84.set_2 | apply IsS84.set_3 | apply IsS84.set_4) | exact HI189.out)) hb); have n1_ := Aside0.mk (IsS84.below (by repeat (first | (with_reducible first | exact HI196.out | apply IsS84.alloc | apply IsS84.drewN | apply IsS84.drew | apply IsS84.set_0 | apply IsS84.set_1 | apply IsS84.set_2 | apply IsS84.set_3 | apply IsS84.set_4) | exact HI196.out)) hb); have n2_ := Aside0.mk (below_step (by repeat (first | (with_reducible first | exact HB.out | apply below_alloc | apply pw_below_drewN | apply below_drew1 | refine below_set ?_ (IsS84.ge HI189.out) | refine below_set ?_ (IsS84.ge HI196.out)) | exact HB.out)) hb); clear HI189; clear HI196; clear HB; have HI189 := n0_; have HI196 := n1_; have HB := n2_; clear n0_ n1_ n2_; (try clear hb); (try clear hb2); (try clear hge); (try clear hk); (try clear hi)) | (go_at_call 18; (with_reducible refine (budget_Server_Left.calls kj14 g189 x190000_14 x190001_14 x190002_14 x190003_14 x190004_14 (wrap64 (t198 - 1)) t220 t221 t222 t223 t224 t225 w _ ?side1 ?side2 A30.out).mono ?_); (case side1 => repeat (first | (with_reducible first | exact HI189.out | apply IsS84.alloc | apply IsS84.drewN | apply IsS84.drew | apply IsS84.set_0 | apply IsS84.set_1 | apply IsS84.set_2 | apply IsS84.set_3 | apply IsS84.set_4) | exact HI189.out)); (case side2 => repeat (first | (with_reducible first | exact HB.out | apply below_alloc | apply pw_below_drewN | apply below_drew1 | refine below_set ?_ (IsS84.ge HI189.out) | refine below_set ?_ (IsS84.ge HI196.out)) | exact HB.out)); rintro e w55 ⟨rfl, hi, hb, hk⟩; have n0_ := Aside0.mk (IsS84.other (show IsS84 w _ g196 t214 t215 t216 t217 t218 from by repeat (first | (with_reducible first | exact HI196.out | apply IsS84.alloc | apply IsS84.drewN | apply IsS84.drew | apply IsS84.set_0 | apply IsS84.set_1 | apply IsS84.set_2 | apply IsS84.set_3 | apply IsS84.set_4) | exact HI196.out)) hk NS196_189.out); have n1_ := Aside0.mk (hb); have n2_ := Aside0.mk (hi); clear HI196; clear HB; clear HI189; have HI196 := n0_; have HB := n1_; have HI189 := n2_; clear n0_ n1_ n2_; (try clear hb); (try clear hb2); (try clear hge); (try clear hk); (try clear hi)) | (go_at_call 18; (with_reducible refine (budget_Server_Left.calls kj14 g196 t214 t215 t216 t217 t218 (wrap64 (t198 - 1)) t226 t227 t228 t229 t230 t231 w _ ?side1 ?side2 A31.out).mono ?_); (case side1 => repeat (first | (with_reducible first | exact HI196.out | apply IsS84.alloc | apply IsS84.drewN | apply IsS84.drew | apply IsS84.set_0 | apply IsS84.set_1 | apply IsS84.set_2 | apply IsS84.set_3 | apply IsS84.set_4) | exact HI196.out)); (case side2 => repeat (first | (with_reducible first | exact HB.out | apply below_alloc | apply pw_below_drewN | apply below_drew1 | refine below_set ?_ (IsS84.ge HI189.out) | refine below_set ?_ (IsS84.ge HI196.out)) | exact HB.out)); rintro e w56 ⟨rfl, hi, hb, hk⟩; have n0_ := Aside0.mk (IsS84.other (show IsS84 w _ g189 t221 t222 t223 t224 t225 from by repeat (first | (with_reducible first | exact HI189.out | apply IsS84.alloc | apply IsS84.drewN | apply IsS84.drew | apply IsS84.set_0 | apply IsS84.set_1 | apply IsS84.set_2 | apply IsS84.set_3 | apply IsS84.set_4) | exact HI189.out)) hk NS189_196.out); have n1_ := Aside0.mk (hb); have n2_ := Aside0.mk (hi); clear HI189; clear HB; clear HI196; have HI189 := n0_; have HB := n1_; have HI196 := n2_; clear n0_ n1_ n2_; (try clear hb); (try clear hb2); (try clear hge); (try clear hk); (try clear hi)))
                      go_ret
                      exact ⟨by first | rfl | (simp [errW_none, errW_some] <;> rfl) | (simp [*, errW_none, errW_some] <;> rfl), by repeat (first | (with_reducible first | exact HB.out | apply below_alloc | apply pw_below_drewN | apply below_drew1 | refine below_set ?_ (IsS84.ge HI189.out) | refine below_set ?_ (IsS84.ge HI196.out)) | exact HB.out)⟩
                  · rw [if_neg c29] at H
                    have c29b0 : (t213 == (decide (x16_14 < x15_14))) = false := by simpa using c29
                    (try (have c29b1 : decide (t213 = (decide (x16_14 < x15_14))) = false := by simpa using c29))
                    (try (have c29b2 : (t213 == (decide (x16_14 < x15_14))) = false := by simpa using c29))
                    (try (have c29b3 : ¬ (t213 = (decide (x16_14 < x15_14))) := by simpa using c29))
                    clear c29
                    obtain rfl := Option.some.inj H
                    go_wp2_with (first | ((with_reducible refine gate_callee (f := 16) rfl ?_); refine goesL_ (some 111) rfl rfl Try.func16 (by kernel_rfl) rfl #[.pointer (some ⟨g196, 0, none⟩), .int .i64 (wrap64 (Int.tmod (IntKind.u64.wrap (a2)) 100000)), .int .i64 x15_14] rfl (by (try simp only [List.map_toArray, List.map_cons, List.map_nil]); first | done | rfl | (simp only [List.length_drop, List.length_take]; rfl)) ?_; (with_reducible refine (budget_Server_Charge.calls kj14 g196 t191 t192 t193 t194 t195 (wrap64 (Int.tmod (IntKind.u64.wrap (a2)) 100000)) x15_14 t212 t213 t214 t215 t216 t217 t218 w _ ?side1 ?side2 A25.out).mono ?_); (case side1 => repeat (first | (with_reducible first | exact HI196.out | apply IsS84.alloc | apply IsS84.drewN | apply IsS84.drew | apply IsS84.set_0 | apply IsS84.set_1 | apply IsS84.set_2 | apply IsS84.set_3 | apply IsS84.set_4) | exact HI196.out)); (case side2 => repeat (first | (with_reducible first | exact HB.out | apply below_alloc | apply pw_below_drewN | apply below_drew1 | refine below_set ?_ (IsS84.ge HI189.out) | refine below_set ?_ (IsS84.ge HI196.out)) | exact HB.out)); rintro e w57 ⟨rfl, hi, hb, hk⟩; refine ⟨_, rfl, ?_⟩; have n0_ := Aside0.mk (IsS84.other (show IsS84 w _ g189 x190000_14 x190001_14 x190002_14 x190003_14 x190004_14 from by repeat (first | (with_reducible first | exact HI189.out | apply IsS84.alloc | apply IsS84.drewN | apply IsS84.drew | apply IsS84.set_0 | apply IsS84.set_1 | apply IsS84.set_2 | apply IsS84.set_3 | apply IsS84.set_4) | exact HI189.out)) hk NS189_196.out); have n1_ := Aside0.mk (hb); have n2_ := Aside0.mk (hi); clear HI189; clear HB; clear HI196; have HI189 := n0_; have HB := n1_; have HI196 := n2_; clear n0_ n1_ n2_; (try clear hb); (try clear hb2); (try clear hge); (try clear hk); (try clear hi)) | ((with_reducible refine gate_callee (f := 19) rfl ?_); refine goesL_ (some 114) rfl rfl Try.func19 (by kernel_rfl) rfl #[] rfl (by (try simp only [List.map_toArray, List.map_cons, List.map_nil]); first | done | rfl | (simp only [List.length_drop, List.length_take]; rfl)) ?_; (with_reducible refine (monocoquelaw30_known.calls kj14  true _ A26.out).mono ?_); rintro e w58 ⟨rfl, hb⟩; refine ⟨_, rfl, ?_⟩; have n0_ := Aside0.mk (IsS84.below (by repeat (first | (with_reducible first | exact HI189.out | apply IsS84.alloc | apply IsS84.drewN | apply IsS84.drew | apply IsS84.set_0 | apply IsS84.set_1 | apply IsS84.set_2 | apply IsS84.set_3 | apply IsS84.set_4) | exact HI189.out)) hb); have n1_ := Aside0.mk (IsS84.below (by repeat (first | (with_reducible first | exact HI196.out | apply IsS84.alloc | apply IsS84.drewN | apply IsS84.drew | apply IsS84.set_0 | apply IsS84.set_1 | apply IsS84.set_2 | apply IsS84.set_3 | apply IsS84.set_4) | exact HI196.out)) hb); have n2_ := Aside0.mk (below_step (by repeat (first | (with_reducible first | exact HB.out | apply below_alloc | apply pw_below_drewN | apply below_drew1 | refine below_set ?_ (IsS84.ge HI189.out) | refine below_set ?_ (IsS84.ge HI196.out)) | exact HB.out)) hb); clear HI189; clear HI196; clear HB; have HI189 := n0_; have HI196 := n1_; have HB := n2_; clear n0_ n1_ n2_; (try clear hb); (try clear hb2); (try clear hge); (try clear hk); (try clear hi)))
                    go_ret
                    exact ⟨by first | rfl | (simp [errW_none, errW_some] <;> rfl) | (simp [*, errW_none, errW_some] <;> rfl), by repeat (first | (with_reducible first | exact HB.out | apply below_alloc | apply pw_below_drewN | apply below_drew1 | refine below_set ?_ (IsS84.ge HI189.out) | refine below_set ?_ (IsS84.ge HI196.out)) | exact HB.out)⟩
                · rw [if_neg c28] at H
                  have c28b0 : (t212 == x16_14) = false := beq_eq_false_iff_ne.mpr c28
                  have c28b1 : (t212 != x16_14) = true := bne_iff_ne.mpr c28
                  obtain rfl := Option.some.inj H
                  go_wp2_with (first | ((with_reducible refine gate_callee (f := 16) rfl ?_); refine goesL_ (some 111) rfl rfl Try.func16 (by kernel_rfl) rfl #[.pointer (some ⟨g196, 0, none⟩), .int .i64 (wrap64 (Int.tmod (IntKind.u64.wrap (a2)) 100000)), .int .i64 x15_14] rfl (by (try simp only [List.map_toArray, List.map_cons, List.map_nil]); first | done | rfl | (simp only [List.length_drop, List.length_take]; rfl)) ?_; (with_reducible refine (budget_Server_Charge.calls kj14 g196 t191 t192 t193 t194 t195 (wrap64 (Int.tmod (IntKind.u64.wrap (a2)) 100000)) x15_14 t212 t213 t214 t215 t216 t217 t218 w _ ?side1 ?side2 A25.out).mono ?_); (case side1 => repeat (first | (with_reducible first | exact HI196.out | apply IsS84.alloc | apply IsS84.drewN | apply IsS84.drew | apply IsS84.set_0 | apply IsS84.set_1 | apply IsS84.set_2 | apply IsS84.set_3 | apply IsS84.set_4) | exact HI196.out)); (case side2 => repeat (first | (with_reducible first | exact HB.out | apply below_alloc | apply pw_below_drewN | apply below_drew1 | refine below_set ?_ (IsS84.ge HI189.out) | refine below_set ?_ (IsS84.ge HI196.out)) | exact HB.out)); rintro e w59 ⟨rfl, hi, hb, hk⟩; refine ⟨_, rfl, ?_⟩; have n0_ := Aside0.mk (IsS84.other (show IsS84 w _ g189 x190000_14 x190001_14 x190002_14 x190003_14 x190004_14 from by repeat (first | (with_reducible first | exact HI189.out | apply IsS84.alloc | apply IsS84.drewN | apply IsS84.drew | apply IsS84.set_0 | apply IsS84.set_1 | apply IsS84.set_2 | apply IsS84.set_3 | apply IsS84.set_4) | exact HI189.out)) hk NS189_196.out); have n1_ := Aside0.mk (hb); have n2_ := Aside0.mk (hi); clear HI189; clear HB; clear HI196; have HI189 := n0_; have HB := n1_; have HI196 := n2_; clear n0_ n1_ n2_; (try clear hb); (try clear hb2); (try clear hge); (try clear hk); (try clear hi)) | ((with_reducible refine gate_callee (f := 19) rfl ?_); refine goesL_ (some 114) rfl rfl Try.func19 (by kernel_rfl) rfl #[] rfl (by (try simp only [List.map_toArray, List.map_cons, List.map_nil]); first | done | rfl | (simp only [List.length_drop, List.length_take]; rfl)) ?_; (with_reducible refine (monocoquelaw30_known.calls kj14  true _ A26.out).mono ?_); rintro e w60 ⟨rfl, hb⟩; refine ⟨_, rfl, ?_⟩; have n0_ := Aside0.mk (IsS84.below (by repeat (first | (with_reducible first | exact HI189.out | apply IsS84.alloc | apply IsS84.drewN | apply IsS84.drew | apply IsS84.set_0 | apply IsS84.set_1 | apply IsS84.set_2 | apply IsS84.set_3 | apply IsS84.set_4) | exact HI189.out)) hb); have n1_ := Aside0.mk (IsS84.below (by repeat (first | (with_reducible first | exact HI196.out | apply IsS84.alloc | apply IsS84.drewN | apply IsS84.drew | apply IsS84.set_0 | apply IsS84.set_1 | apply IsS84.set_2 | apply IsS84.set_3 | apply IsS84.set_4) | exact HI196.out)) hb); have n2_ := Aside0.mk (below_step (by repeat (first | (with_reducible first | exact HB.out | apply below_alloc | apply pw_below_drewN | apply below_drew1 | refine below_set ?_ (IsS84.ge HI189.out) | refine below_set ?_ (IsS84.ge HI196.out)) | exact HB.out)) hb); clear HI189; clear HI196; clear HB; have HI189 := n0_; have HI196 := n1_; have HB := n2_; clear n0_ n1_ n2_; (try clear hb); (try clear hb2); (try clear hge); (try clear hk); (try clear hi)))
                  go_ret
                  exact ⟨by first | rfl | (simp [errW_none, errW_some] <;> rfl) | (simp [*, errW_none, errW_some] <;> rfl), by repeat (first | (with_reducible first | exact HB.out | apply below_alloc | apply pw_below_drewN | apply below_drew1 | refine below_set ?_ (IsS84.ge HI189.out) | refine below_set ?_ (IsS84.ge HI196.out)) | exact HB.out)⟩
              · replace c27 := Bool.eq_false_iff.mpr c27
                subst c27
                have H1 : (some false) = some r := by rw [if_neg (show ¬ (false = true) by decide)] at H; exact H
                clear H
                have H := H1
                clear H1
                obtain rfl := Option.some.inj H
                go_wp2_with (first | ((with_reducible refine gate_callee (f := 16) rfl ?_); refine goesL_ (some 111) rfl rfl Try.func16 (by kernel_rfl) rfl #[.pointer (some ⟨g196, 0, none⟩), .int .i64 (wrap64 (Int.tmod (IntKind.u64.wrap (a2)) 100000)), .int .i64 x15_14] rfl (by (try simp only [List.map_toArray, List.map_cons, List.map_nil]); first | done | rfl | (simp only [List.length_drop, List.length_take]; rfl)) ?_; (with_reducible refine (budget_Server_Charge.calls kj14 g196 t191 t192 t193 t194 t195 (wrap64 (Int.tmod (IntKind.u64.wrap (a2)) 100000)) x15_14 t212 t213 t214 t215 t216 t217 t218 w _ ?side1 ?side2 A25.out).mono ?_); (case side1 => repeat (first | (with_reducible first | exact HI196.out | apply IsS84.alloc | apply IsS84.drewN | apply IsS84.drew | apply IsS84.set_0 | apply IsS84.set_1 | apply IsS84.set_2 | apply IsS84.set_3 | apply IsS84.set_4) | exact HI196.out)); (case side2 => repeat (first | (with_reducible first | exact HB.out | apply below_alloc | apply pw_below_drewN | apply below_drew1 | refine below_set ?_ (IsS84.ge HI189.out) | refine below_set ?_ (IsS84.ge HI196.out)) | exact HB.out)); rintro e w61 ⟨rfl, hi, hb, hk⟩; refine ⟨_, rfl, ?_⟩; have n0_ := Aside0.mk (IsS84.other (show IsS84 w _ g189 x190000_14 x190001_14 x190002_14 x190003_14 x190004_14 from by repeat (first | (with_reducible first | exact HI189.out | apply IsS84.alloc | apply IsS84.drewN | apply IsS84.drew | apply IsS84.set_0 | apply IsS84.set_1 | apply IsS84.set_2 | apply IsS84.set_3 | apply IsS84.set_4) | exact HI189.out)) hk NS189_196.out); have n1_ := Aside0.mk (hb); have n2_ := Aside0.mk (hi); clear HI189; clear HB; clear HI196; have HI189 := n0_; have HB := n1_; have HI196 := n2_; clear n0_ n1_ n2_; (try clear hb); (try clear hb2); (try clear hge); (try clear hk); (try clear hi)) | ((with_reducible refine gate_callee (f := 19) rfl ?_); refine goesL_ (some 114) rfl rfl Try.func19 (by kernel_rfl) rfl #[] rfl (by (try simp only [List.map_toArray, List.map_cons, List.map_nil]); first | done | rfl | (simp only [List.length_drop, List.length_take]; rfl)) ?_; (with_reducible refine (monocoquelaw30_known.calls kj14  false _ A26.out).mono ?_); rintro e w62 ⟨rfl, hb⟩; refine ⟨_, rfl, ?_⟩; have n0_ := Aside0.mk (IsS84.below (by repeat (first | (with_reducible first | exact HI189.out | apply IsS84.alloc | apply IsS84.drewN | apply IsS84.drew | apply IsS84.set_0 | apply IsS84.set_1 | apply IsS84.set_2 | apply IsS84.set_3 | apply IsS84.set_4) | exact HI189.out)) hb); have n1_ := Aside0.mk (IsS84.below (by repeat (first | (with_reducible first | exact HI196.out | apply IsS84.alloc | apply IsS84.drewN | apply IsS84.drew | apply IsS84.set_0 | apply IsS84.set_1 | apply IsS84.set_2 | apply IsS84.set_3 | apply IsS84.set_4) | exact HI196.out)) hb); have n2_ := Aside0.mk (below_step (by repeat (first | (with_reducible first | exact HB.out | apply below_alloc | apply pw_below_drewN | apply below_drew1 | refine below_set ?_ (IsS84.ge HI189.out) | refine below_set ?_ (IsS84.ge HI196.out)) | exact HB.out)) hb); clear HI189; clear HI196; clear HB; have HI189 := n0_; have HI196 := n1_; have HB := n2_; clear n0_ n1_ n2_; (try clear hb); (try clear hb2); (try clear hge); (try clear hk); (try clear hi)))
                go_ret
                exact ⟨by first | rfl | (simp [errW_none, errW_some] <;> rfl) | (simp [*, errW_none, errW_some] <;> rfl), by repeat (first | (with_reducible first | exact HB.out | apply below_alloc | apply pw_below_drewN | apply below_drew1 | refine below_set ?_ (IsS84.ge HI189.out) | refine below_set ?_ (IsS84.ge HI196.out)) | exact HB.out)⟩

/-- THE ONE PURE STATEMENT of monocoquelaw30_BudgetParts: yours. -/
def monocoquelaw30_BudgetParts.Pure : Prop := ∀ (a0 : Int) (a1 : Int) (a2 : Int) (l3 : List Int), (Lit.int .i64 a0).wf = true → (Lit.int .i64 a1).wf = true → (Lit.int .i64 a2).wf = true → l3.length ≤ maxLen → l3.length * 1 ≤ 140737488351232 → (∀ x ∈ l3, (Lit.int .u8 x).wf = true) → ∃ k, monocoquelaw30_BudgetParts.f k a0 a1 a2 l3 = some true
theorem monocoquelaw30_BudgetParts.walk (P : monocoquelaw30_BudgetParts.Pure) (a0 : Int) (a1 : Int) (a2 : Int) (a3 : Option Addr) (len3 cap3 : Nat) (z3 : List Int) (w : World) (w0 : (Lit.int .i64 a0).wf = true) (w1 : (Lit.int .i64 a1).wf = true) (w2 : (Lit.int .i64 a2).wf = true) (w3 : (a3 = none ∧ len3 = 0 ∧ cap3 = 0 ∧ z3 = []) ∨ ∃ x, a3 = some x ∧ len3 ≤ cap3 ∧ cap3 ≤ maxLen ∧ z3.length = cap3 ∧ (∀ i, i < z3.length → w.cell? (x.add i) = some (.int .u8 (z3.getD i 0))) ∧ ∀ n ∈ z3, (Lit.int .u8 n).wf = true) (y3 : len3 * 1 ≤ 140737488351232) :
    Calls Try.prog 6 #[.int .i64 a0, .int .i64 a1, .int .i64 a2, .slice a3 len3 cap3] w fun e w' => e = .returned (.bool true) ∧ Below w.heap.size w w' := by
  obtain ⟨l3, rfl, hr3, hm3, hw3, hc3⟩ := ReadsInt.ofRowC w3
  obtain ⟨k, h⟩ := P a0 a1 a2 l3 w0 w1 w2 hm3 y3 hw3
  refine (monocoquelaw30_BudgetParts.calls k a0 a1 a2 _ _ l3 true w (Kd.C_of_reads (d := (0 : Int)) (h1 := fun _ => rfl) hr3) hc3 h).mono ?_
  rintro e w' ⟨rfl, hd⟩
  exact ⟨rfl, hd⟩

end Go.Proofs.Ytpabbpcklgipnaa.PBudgetParts
