/- The walks of functions that the law LifeRefused reaches. Written by this session's turn of the kit's printer, not by the kit's own. -/
import Derived.Test.YtpabbpcklgipnaaQLifeRefusedx0
import Derived.Test.YtpabbpcklgipnaaQLifeRefusedx1
import Derived.Test.YtpabbpcklgipnaaQLifeRefusedx2
import Derived.Test.YtpabbpcklgipnaaQLifeRefusedx3
namespace Go.Proofs.Ytpabbpcklgipnaa.PLifeRefused
open Go.RowKit Go.Proofs.YtpabbpcklgipnaaW.PrintWords Go.Proofs.YtpabbpcklgipnaaW.PrintLast Go.Proofs.YtpabbpcklgipnaaW.PrintMore
attribute [local go_sem] max2_int min2_int max_two min_two max_three min_three max_four min_four   -- for this text's walks alone
set_option linter.unusedVariables false
set_option linter.unusedSimpArgs false

/-! ### monocoquelaw32_LifeRefused: function 12 -/
mutual
def monocoquelaw32_LifeRefused.j1 : Nat → Int → Int → Int → Int → Int → Int → Int → Int → Option (Bool)
  | 0, _, _, _, _, _, _, _, _ => none
  | k + 1, x2, x199000, x199001, x199002, x206000, x206001, x206002, x206003 => if x2 < 4 then (monocoquelaw32_LifeRefused.j2 k x2 true x199000 x199001 x199002 x206000 x206001 x206002 x206003) else (monocoquelaw32_LifeRefused.j2 k x2 (decide (x2 > 6)) x199000 x199001 x199002 x206000 x206001 x206002 x206003)
def monocoquelaw32_LifeRefused.j2 : Nat → Int → Bool → Int → Int → Int → Int → Int → Int → Int → Option (Bool)
  | 0, _, _, _, _, _, _, _, _, _ => none
  | k + 1, x2, x61, x199000, x199001, x199002, x206000, x206001, x206002, x206003 => if x61 = true then ((life_Life_Do.f k x199000 x199001 x199002 x2).bind fun bt215 => (if bt215.2.1 = true then (some false) else (if bt215.2.2.1 = 1 then ((monocoquelaw32_same.f bt215.2.2.2.1 bt215.2.2.2.2.1 bt215.2.2.2.2.2 x206000 x206001 x206002 x206003).bind fun bt221 => (if bt221.1 = true then (monocoquelaw32_LifeRefused.j3 k bt221.2.1 bt221.2.2.1 bt221.2.2.2 x206000 x206001 x206002 x206003) else (some false))) else (some false)))) else (monocoquelaw32_LifeRefused.j3 k x199000 x199001 x199002 x206000 x206001 x206002 x206003)
def monocoquelaw32_LifeRefused.j3 : Nat → Int → Int → Int → Int → Int → Int → Int → Option (Bool)
  | 0, _, _, _, _, _, _, _ => none
  | k + 1, x199000, x199001, x199002, x206000, x206001, x206002, x206003 => if x206000 = 0 then (monocoquelaw32_LifeRefused.l1 k 4 x199000 x199001 x199002 x206000 x206001 x206002 x206003) else (monocoquelaw32_LifeRefused.j5 k x199000 x199001 x199002 x206000 x206001 x206002 x206003)
def monocoquelaw32_LifeRefused.j5 : Nat → Int → Int → Int → Int → Int → Int → Int → Option (Bool)
  | 0, _, _, _, _, _, _, _ => none
  | k + 1, x199000, x199001, x199002, x206000, x206001, x206002, x206003 => if x206000 = 0 then (monocoquelaw32_LifeRefused.j6 k true x199000 x199001 x199002 x206000 x206001 x206002 x206003) else (monocoquelaw32_LifeRefused.j6 k (x206000 == 3) x199000 x199001 x199002 x206000 x206001 x206002 x206003)
def monocoquelaw32_LifeRefused.j6 : Nat → Bool → Int → Int → Int → Int → Int → Int → Int → Option (Bool)
  | 0, _, _, _, _, _, _, _, _ => none
  | k + 1, x112, x199000, x199001, x199002, x206000, x206001, x206002, x206003 => if x112 = true then ((life_Life_Run.f x199000 x199001 x199002).bind fun bt235 => (if bt235.1 = 19 then ((monocoquelaw32_same.f bt235.2.1 bt235.2.2.1 bt235.2.2.2 x206000 x206001 x206002 x206003).bind fun bt239 => (some bt239.1)) else (some false))) else (some true)
def monocoquelaw32_LifeRefused.l1 : Nat → Int → Int → Int → Int → Int → Int → Int → Int → Option (Bool)
  | 0, _, _, _, _, _, _, _, _ => none
  | k + 1, x15, x199000, x199001, x199002, x206000, x206001, x206002, x206003 => if x15 ≤ 6 then ((life_Life_Do.f k x199000 x199001 x199002 x15).bind fun bt225 => (if bt225.2.1 = true then (some false) else (if bt225.2.2.1 = 19 then ((monocoquelaw32_same.f bt225.2.2.2.1 bt225.2.2.2.2.1 bt225.2.2.2.2.2 x206000 x206001 x206002 x206003).bind fun bt231 => (if bt231.1 = true then (monocoquelaw32_LifeRefused.l1 k (wrap64 (x15 + 1)) bt231.2.1 bt231.2.2.1 bt231.2.2.2 x206000 x206001 x206002 x206003) else (some false))) else (some false)))) else (monocoquelaw32_LifeRefused.j5 k x199000 x199001 x199002 x206000 x206001 x206002 x206003)
def monocoquelaw32_LifeRefused.l0 : Nat → List Int → Int → Int → Int → Int → Int → Int → Int → Int → Int → Option (Bool)
  | 0, _, _, _, _, _, _, _, _, _, _ => none
  | k + 1, x1, x2, x11, x199000, x199001, x199002, x206000, x206001, x206002, x206003 => if x11 < (x1.length : Int) then (if x11 < 60 then (if 0 ≤ x11 then ((monocoquelaw32_do.f k x199000 x199001 x199002 x206000 x206001 x206002 x206003 (rd x1 x11)).bind fun bt207 => (monocoquelaw32_LifeRefused.l0 k x1 x2 (wrap64 (x11 + 1)) bt207.2.2.2.2.2.1 bt207.2.2.2.2.2.2.1 bt207.2.2.2.2.2.2.2 bt207.1 bt207.2.1 bt207.2.2.1 bt207.2.2.2.1)) else (none)) else (monocoquelaw32_LifeRefused.j1 k x2 x199000 x199001 x199002 x206000 x206001 x206002 x206003)) else (monocoquelaw32_LifeRefused.j1 k x2 x199000 x199001 x199002 x206000 x206001 x206002 x206003)
end
def monocoquelaw32_LifeRefused.f (k : Nat) (a0 : Int) (l1 : List Int) (a2 : Int) : Option (Bool) := (life_New.f (wrap64 (Int.tmod (IntKind.u64.wrap (a0)) 1001))).bind fun bt195 => ((monocoquelaw32_told.f k).bind fun t200 => (if t200 = true then ((monocoqueref32_New.f (wrap64 (Int.tmod (IntKind.u64.wrap (a0)) 1001))).bind fun bt201 => (monocoquelaw32_LifeRefused.l0 k l1 a2 0 bt195.1 bt195.2.1 bt195.2.2.1 bt201.1 bt201.2.1 bt201.2.2.1 bt201.2.2.2)) else (some false)))
theorem monocoquelaw32_LifeRefused.mono_l : ∀ k, (∀ y0 y1 y2 y3 y4 y5 y6 y7, LeO (monocoquelaw32_LifeRefused.j1 k y0 y1 y2 y3 y4 y5 y6 y7) (monocoquelaw32_LifeRefused.j1 (k + 1) y0 y1 y2 y3 y4 y5 y6 y7)) ∧ (∀ y0 y1 y2 y3 y4 y5 y6 y7 y8, LeO (monocoquelaw32_LifeRefused.j2 k y0 y1 y2 y3 y4 y5 y6 y7 y8) (monocoquelaw32_LifeRefused.j2 (k + 1) y0 y1 y2 y3 y4 y5 y6 y7 y8)) ∧ (∀ y0 y1 y2 y3 y4 y5 y6, LeO (monocoquelaw32_LifeRefused.j3 k y0 y1 y2 y3 y4 y5 y6) (monocoquelaw32_LifeRefused.j3 (k + 1) y0 y1 y2 y3 y4 y5 y6)) ∧ (∀ y0 y1 y2 y3 y4 y5 y6, LeO (monocoquelaw32_LifeRefused.j5 k y0 y1 y2 y3 y4 y5 y6) (monocoquelaw32_LifeRefused.j5 (k + 1) y0 y1 y2 y3 y4 y5 y6)) ∧ (∀ y0 y1 y2 y3 y4 y5 y6 y7, LeO (monocoquelaw32_LifeRefused.j6 k y0 y1 y2 y3 y4 y5 y6 y7) (monocoquelaw32_LifeRefused.j6 (k + 1) y0 y1 y2 y3 y4 y5 y6 y7)) ∧ (∀ y0 y1 y2 y3 y4 y5 y6 y7, LeO (monocoquelaw32_LifeRefused.l1 k y0 y1 y2 y3 y4 y5 y6 y7) (monocoquelaw32_LifeRefused.l1 (k + 1) y0 y1 y2 y3 y4 y5 y6 y7)) ∧ (∀ y0 y1 y2 y3 y4 y5 y6 y7 y8 y9, LeO (monocoquelaw32_LifeRefused.l0 k y0 y1 y2 y3 y4 y5 y6 y7 y8 y9) (monocoquelaw32_LifeRefused.l0 (k + 1) y0 y1 y2 y3 y4 y5 y6 y7 y8 y9))
  | 0 => ⟨fun _ _ _ _ _ _ _ _ r h => by simp [monocoquelaw32_LifeRefused.j1] at h, fun _ _ _ _ _ _ _ _ _ r h => by simp [monocoquelaw32_LifeRefused.j2] at h, fun _ _ _ _ _ _ _ r h => by simp [monocoquelaw32_LifeRefused.j3] at h, fun _ _ _ _ _ _ _ r h => by simp [monocoquelaw32_LifeRefused.j5] at h, fun _ _ _ _ _ _ _ _ r h => by simp [monocoquelaw32_LifeRefused.j6] at h, fun _ _ _ _ _ _ _ _ r h => by simp [monocoquelaw32_LifeRefused.l1] at h, fun _ _ _ _ _ _ _ _ _ _ r h => by simp [monocoquelaw32_LifeRefused.l0] at h⟩
  | k + 1 => by
    obtain ⟨ih0, ih1, ih2, ih3, ih4, ih5, ih6⟩ := monocoquelaw32_LifeRefused.mono_l k
    refine ⟨?_, ?_, ?_, ?_, ?_, ?_, ?_⟩
    · intro y0 y1 y2 y3 y4 y5 y6 y7
      unfold monocoquelaw32_LifeRefused.j1
      repeat' first
      | (with_reducible exact ih0 _ _ _ _ _ _ _ _)
      | (with_reducible exact ih1 _ _ _ _ _ _ _ _ _)
      | (with_reducible exact ih2 _ _ _ _ _ _ _)
      | (with_reducible exact ih3 _ _ _ _ _ _ _)
      | (with_reducible exact ih4 _ _ _ _ _ _ _ _)
      | (with_reducible exact ih5 _ _ _ _ _ _ _ _)
      | (with_reducible exact ih6 _ _ _ _ _ _ _ _ _ _)
      | (with_reducible exact life_Life_Do.mono _ _ _ _ _)
      | (with_reducible exact monocoquelaw32_do.mono _ _ _ _ _ _ _ _ _)
      | (with_reducible exact monocoquelaw32_told.mono _)
      | (with_reducible exact LeO.refl _)
      | (with_reducible exact LeO.none _)
      | (with_reducible refine LeO.ite ?_ ?_)
      | (with_reducible refine LeO.bind ?_ (fun _ => ?_))
      | exact ih0 _ _ _ _ _ _ _ _
      | exact ih1 _ _ _ _ _ _ _ _ _
      | exact ih2 _ _ _ _ _ _ _
      | exact ih3 _ _ _ _ _ _ _
      | exact ih4 _ _ _ _ _ _ _ _
      | exact ih5 _ _ _ _ _ _ _ _
      | exact ih6 _ _ _ _ _ _ _ _ _ _
      | exact life_Life_Do.mono _ _ _ _ _
      | exact monocoquelaw32_do.mono _ _ _ _ _ _ _ _ _
      | exact monocoquelaw32_told.mono _
      | exact LeO.none _
      | refine LeO.ite ?_ ?_
      | refine LeO.bind ?_ (fun _ => ?_)
    · intro y0 y1 y2 y3 y4 y5 y6 y7 y8
      unfold monocoquelaw32_LifeRefused.j2
      repeat' first
      | (with_reducible exact ih0 _ _ _ _ _ _ _ _)
      | (with_reducible exact ih1 _ _ _ _ _ _ _ _ _)
      | (with_reducible exact ih2 _ _ _ _ _ _ _)
      | (with_reducible exact ih3 _ _ _ _ _ _ _)
      | (with_reducible exact ih4 _ _ _ _ _ _ _ _)
      | (with_reducible exact ih5 _ _ _ _ _ _ _ _)
      | (with_reducible exact ih6 _ _ _ _ _ _ _ _ _ _)
      | (with_reducible exact life_Life_Do.mono _ _ _ _ _)
      | (with_reducible exact monocoquelaw32_do.mono _ _ _ _ _ _ _ _ _)
      | (with_reducible exact monocoquelaw32_told.mono _)
      | (with_reducible exact LeO.refl _)
      | (with_reducible exact LeO.none _)
      | (with_reducible refine LeO.ite ?_ ?_)
      | (with_reducible refine LeO.bind ?_ (fun _ => ?_))
      | exact ih0 _ _ _ _ _ _ _ _
      | exact ih1 _ _ _ _ _ _ _ _ _
      | exact ih2 _ _ _ _ _ _ _
      | exact ih3 _ _ _ _ _ _ _
      | exact ih4 _ _ _ _ _ _ _ _
      | exact ih5 _ _ _ _ _ _ _ _
      | exact ih6 _ _ _ _ _ _ _ _ _ _
      | exact life_Life_Do.mono _ _ _ _ _
      | exact monocoquelaw32_do.mono _ _ _ _ _ _ _ _ _
      | exact monocoquelaw32_told.mono _
      | exact LeO.none _
      | refine LeO.ite ?_ ?_
      | refine LeO.bind ?_ (fun _ => ?_)
    · intro y0 y1 y2 y3 y4 y5 y6
      unfold monocoquelaw32_LifeRefused.j3
      repeat' first
      | (with_reducible exact ih0 _ _ _ _ _ _ _ _)
      | (with_reducible exact ih1 _ _ _ _ _ _ _ _ _)
      | (with_reducible exact ih2 _ _ _ _ _ _ _)
      | (with_reducible exact ih3 _ _ _ _ _ _ _)
      | (with_reducible exact ih4 _ _ _ _ _ _ _ _)
      | (with_reducible exact ih5 _ _ _ _ _ _ _ _)
      | (with_reducible exact ih6 _ _ _ _ _ _ _ _ _ _)
      | (with_reducible exact life_Life_Do.mono _ _ _ _ _)
      | (with_reducible exact monocoquelaw32_do.mono _ _ _ _ _ _ _ _ _)
      | (with_reducible exact monocoquelaw32_told.mono _)
      | (with_reducible exact LeO.refl _)
      | (with_reducible exact LeO.none _)
      | (with_reducible refine LeO.ite ?_ ?_)
      | (with_reducible refine LeO.bind ?_ (fun _ => ?_))
      | exact ih0 _ _ _ _ _ _ _ _
      | exact ih1 _ _ _ _ _ _ _ _ _
      | exact ih2 _ _ _ _ _ _ _
      | exact ih3 _ _ _ _ _ _ _
      | exact ih4 _ _ _ _ _ _ _ _
      | exact ih5 _ _ _ _ _ _ _ _
      | exact ih6 _ _ _ _ _ _ _ _ _ _
      | exact life_Life_Do.mono _ _ _ _ _
      | exact monocoquelaw32_do.mono _ _ _ _ _ _ _ _ _
      | exact monocoquelaw32_told.mono _
      | exact LeO.none _
      | refine LeO.ite ?_ ?_
      | refine LeO.bind ?_ (fun _ => ?_)
    · intro y0 y1 y2 y3 y4 y5 y6
      unfold monocoquelaw32_LifeRefused.j5
      repeat' first
      | (with_reducible exact ih0 _ _ _ _ _ _ _ _)
      | (with_reducible exact ih1 _ _ _ _ _ _ _ _ _)
      | (with_reducible exact ih2 _ _ _ _ _ _ _)
      | (with_reducible exact ih3 _ _ _ _ _ _ _)
      | (with_reducible exact ih4 _ _ _ _ _ _ _ _)
      | (with_reducible exact ih5 _ _ _ _ _ _ _ _)
      | (with_reducible exact ih6 _ _ _ _ _ _ _ _ _ _)
      | (with_reducible exact life_Life_Do.mono _ _ _ _ _)
      | (with_reducible exact monocoquelaw32_do.mono _ _ _ _ _ _ _ _ _)
      | (with_reducible exact monocoquelaw32_told.mono _)
      | (with_reducible exact LeO.refl _)
      | (with_reducible exact LeO.none _)
      | (with_reducible refine LeO.ite ?_ ?_)
      | (with_reducible refine LeO.bind ?_ (fun _ => ?_))
      | exact ih0 _ _ _ _ _ _ _ _
      | exact ih1 _ _ _ _ _ _ _ _ _
      | exact ih2 _ _ _ _ _ _ _
      | exact ih3 _ _ _ _ _ _ _
      | exact ih4 _ _ _ _ _ _ _ _
      | exact ih5 _ _ _ _ _ _ _ _
      | exact ih6 _ _ _ _ _ _ _ _ _ _
      | exact life_Life_Do.mono _ _ _ _ _
      | exact monocoquelaw32_do.mono _ _ _ _ _ _ _ _ _
      | exact monocoquelaw32_told.mono _
      | exact LeO.none _
      | refine LeO.ite ?_ ?_
      | refine LeO.bind ?_ (fun _ => ?_)
    · intro y0 y1 y2 y3 y4 y5 y6 y7
      unfold monocoquelaw32_LifeRefused.j6
      repeat' first
      | (with_reducible exact ih0 _ _ _ _ _ _ _ _)
      | (with_reducible exact ih1 _ _ _ _ _ _ _ _ _)
      | (with_reducible exact ih2 _ _ _ _ _ _ _)
      | (with_reducible exact ih3 _ _ _ _ _ _ _)
      | (with_reducible exact ih4 _ _ _ _ _ _ _ _)
      | (with_reducible exact ih5 _ _ _ _ _ _ _ _)
      | (with_reducible exact ih6 _ _ _ _ _ _ _ _ _ _)
      | (with_reducible exact life_Life_Do.mono _ _ _ _ _)
      | (with_reducible exact monocoquelaw32_do.mono _ _ _ _ _ _ _ _ _)
      | (with_reducible exact monocoquelaw32_told.mono _)
      | (with_reducible exact LeO.refl _)
      | (with_reducible exact LeO.none _)
      | (with_reducible refine LeO.ite ?_ ?_)
      | (with_reducible refine LeO.bind ?_ (fun _ => ?_))
      | exact ih0 _ _ _ _ _ _ _ _
      | exact ih1 _ _ _ _ _ _ _ _ _
      | exact ih2 _ _ _ _ _ _ _
      | exact ih3 _ _ _ _ _ _ _
      | exact ih4 _ _ _ _ _ _ _ _
      | exact ih5 _ _ _ _ _ _ _ _
      | exact ih6 _ _ _ _ _ _ _ _ _ _
      | exact life_Life_Do.mono _ _ _ _ _
      | exact monocoquelaw32_do.mono _ _ _ _ _ _ _ _ _
      | exact monocoquelaw32_told.mono _
      | exact LeO.none _
      | refine LeO.ite ?_ ?_
      | refine LeO.bind ?_ (fun _ => ?_)
    · intro y0 y1 y2 y3 y4 y5 y6 y7
      unfold monocoquelaw32_LifeRefused.l1
      repeat' first
      | (with_reducible exact ih0 _ _ _ _ _ _ _ _)
      | (with_reducible exact ih1 _ _ _ _ _ _ _ _ _)
      | (with_reducible exact ih2 _ _ _ _ _ _ _)
      | (with_reducible exact ih3 _ _ _ _ _ _ _)
      | (with_reducible exact ih4 _ _ _ _ _ _ _ _)
      | (with_reducible exact ih5 _ _ _ _ _ _ _ _)
      | (with_reducible exact ih6 _ _ _ _ _ _ _ _ _ _)
      | (with_reducible exact life_Life_Do.mono _ _ _ _ _)
      | (with_reducible exact monocoquelaw32_do.mono _ _ _ _ _ _ _ _ _)
      | (with_reducible exact monocoquelaw32_told.mono _)
      | (with_reducible exact LeO.refl _)
      | (with_reducible exact LeO.none _)
      | (with_reducible refine LeO.ite ?_ ?_)
      | (with_reducible refine LeO.bind ?_ (fun _ => ?_))
      | exact ih0 _ _ _ _ _ _ _ _
      | exact ih1 _ _ _ _ _ _ _ _ _
      | exact ih2 _ _ _ _ _ _ _
      | exact ih3 _ _ _ _ _ _ _
      | exact ih4 _ _ _ _ _ _ _ _
      | exact ih5 _ _ _ _ _ _ _ _
      | exact ih6 _ _ _ _ _ _ _ _ _ _
      | exact life_Life_Do.mono _ _ _ _ _
      | exact monocoquelaw32_do.mono _ _ _ _ _ _ _ _ _
      | exact monocoquelaw32_told.mono _
      | exact LeO.none _
      | refine LeO.ite ?_ ?_
      | refine LeO.bind ?_ (fun _ => ?_)
    · intro y0 y1 y2 y3 y4 y5 y6 y7 y8 y9
      unfold monocoquelaw32_LifeRefused.l0
      repeat' first
      | (with_reducible exact ih0 _ _ _ _ _ _ _ _)
      | (with_reducible exact ih1 _ _ _ _ _ _ _ _ _)
      | (with_reducible exact ih2 _ _ _ _ _ _ _)
      | (with_reducible exact ih3 _ _ _ _ _ _ _)
      | (with_reducible exact ih4 _ _ _ _ _ _ _ _)
      | (with_reducible exact ih5 _ _ _ _ _ _ _ _)
      | (with_reducible exact ih6 _ _ _ _ _ _ _ _ _ _)
      | (with_reducible exact life_Life_Do.mono _ _ _ _ _)
      | (with_reducible exact monocoquelaw32_do.mono _ _ _ _ _ _ _ _ _)
      | (with_reducible exact monocoquelaw32_told.mono _)
      | (with_reducible exact LeO.refl _)
      | (with_reducible exact LeO.none _)
      | (with_reducible refine LeO.ite ?_ ?_)
      | (with_reducible refine LeO.bind ?_ (fun _ => ?_))
      | exact ih0 _ _ _ _ _ _ _ _
      | exact ih1 _ _ _ _ _ _ _ _ _
      | exact ih2 _ _ _ _ _ _ _
      | exact ih3 _ _ _ _ _ _ _
      | exact ih4 _ _ _ _ _ _ _ _
      | exact ih5 _ _ _ _ _ _ _ _
      | exact ih6 _ _ _ _ _ _ _ _ _ _
      | exact life_Life_Do.mono _ _ _ _ _
      | exact monocoquelaw32_do.mono _ _ _ _ _ _ _ _ _
      | exact monocoquelaw32_told.mono _
      | exact LeO.none _
      | refine LeO.ite ?_ ?_
      | refine LeO.bind ?_ (fun _ => ?_)
theorem monocoquelaw32_LifeRefused.mono : ∀ a0 a1 a2 k, LeO (monocoquelaw32_LifeRefused.f k a0 a1 a2) (monocoquelaw32_LifeRefused.f (k + 1) a0 a1 a2) := by
  intro a0 a1 a2 k
  obtain ⟨ih0, ih1, ih2, ih3, ih4, ih5, ih6⟩ := monocoquelaw32_LifeRefused.mono_l k
  unfold monocoquelaw32_LifeRefused.f
  repeat' first
      | (with_reducible exact ih0 _ _ _ _ _ _ _ _)
      | (with_reducible exact ih1 _ _ _ _ _ _ _ _ _)
      | (with_reducible exact ih2 _ _ _ _ _ _ _)
      | (with_reducible exact ih3 _ _ _ _ _ _ _)
      | (with_reducible exact ih4 _ _ _ _ _ _ _ _)
      | (with_reducible exact ih5 _ _ _ _ _ _ _ _)
      | (with_reducible exact ih6 _ _ _ _ _ _ _ _ _ _)
      | (with_reducible exact life_Life_Do.mono _ _ _ _ _)
      | (with_reducible exact monocoquelaw32_do.mono _ _ _ _ _ _ _ _ _)
      | (with_reducible exact monocoquelaw32_told.mono _)
      | (with_reducible exact LeO.refl _)
      | (with_reducible exact LeO.none _)
      | (with_reducible refine LeO.ite ?_ ?_)
      | (with_reducible refine LeO.bind ?_ (fun _ => ?_))
      | exact ih0 _ _ _ _ _ _ _ _
      | exact ih1 _ _ _ _ _ _ _ _ _
      | exact ih2 _ _ _ _ _ _ _
      | exact ih3 _ _ _ _ _ _ _
      | exact ih4 _ _ _ _ _ _ _ _
      | exact ih5 _ _ _ _ _ _ _ _
      | exact ih6 _ _ _ _ _ _ _ _ _ _
      | exact life_Life_Do.mono _ _ _ _ _
      | exact monocoquelaw32_do.mono _ _ _ _ _ _ _ _ _
      | exact monocoquelaw32_told.mono _
      | exact LeO.none _
      | refine LeO.ite ?_ ?_
      | refine LeO.bind ?_ (fun _ => ?_)
def monocoquelaw32_LifeRefused.T9 : Bool × List (List Nat × List Nat) := (true, [([], []), ([], []), ([], []), ([], []), ([2, 3], [2, 3]), ([4], [4]), ([0, 1, 5], [0, 1, 5]), ([6], [6]), ([7], [7]), ([7], [7]), ([8, 6, 0, 1, 2, 3, 4, 5, 6, 7, 8], [8])])
def monocoquelaw32_LifeRefused.B9 : List Nat := [0, 0, 0, 0, 12, 28, 63, 127, 255, 255, 511]
theorem monocoquelaw32_LifeRefused.tab9 : rtab .any (opsOf Try.f12 9) = monocoquelaw32_LifeRefused.T9 := by kernel_rfl
theorem monocoquelaw32_LifeRefused.bits9 : waitsOk monocoquelaw32_LifeRefused.T9.2 monocoquelaw32_LifeRefused.B9 = true := by kernel_rfl
set_option maxHeartbeats 8000000 in
set_option maxRecDepth 100000 in
theorem monocoquelaw32_LifeRefused.calls (k : Nat) (a0 : Int) (A1 : Option Addr) (c1 : Nat) (l1 : List Int) (a2 : Int) (r : Bool) (w : World) (hr1 : Kd.C (Kd.int .i64) w A1 l1.length l1) (hc1 : l1.length ≤ c1) (h : monocoquelaw32_LifeRefused.f k a0 l1 a2 = some r) :
    Calls Try.prog 12 #[.int .i64 a0, .slice A1 l1.length c1, .int .i64 a2] w fun e w' => e = .returned (.bool r) ∧ Below w.heap.size w w' := by
  have hu58 := Try.underlying58
  have hu69 := Try.underlying69
  have HR1 := Aside0.mk hr1
  have HC1 := Aside0.mk hc1
  clear hr1 hc1
  have HB := Aside0.mk (Below.refl w.heap.size w)
  have H : ((life_New.f (wrap64 (Int.tmod (IntKind.u64.wrap (a0)) 1001))).bind fun bt195 => ((monocoquelaw32_told.f k).bind fun t200 => (if t200 = true then ((monocoqueref32_New.f (wrap64 (Int.tmod (IntKind.u64.wrap (a0)) 1001))).bind fun bt201 => (monocoquelaw32_LifeRefused.l0 k l1 a2 0 bt195.1 bt195.2.1 bt195.2.2.1 bt201.1 bt201.2.1 bt201.2.2.1 bt201.2.2.2)) else (some false)))) = some r := h
  clear h
  replace H := Option.bind_eq_some_iff.mp H
  obtain ⟨⟨t195, t196, t197, t199⟩, A40, H⟩ := H
  replace H : ((monocoquelaw32_told.f k).bind fun t200 => (if t200 = true then ((monocoqueref32_New.f (wrap64 (Int.tmod (IntKind.u64.wrap (a0)) 1001))).bind fun bt201 => (monocoquelaw32_LifeRefused.l0 k l1 a2 0 t195 t196 t197 bt201.1 bt201.2.1 bt201.2.2.1 bt201.2.2.2)) else (some false))) = some r := H
  have A4 := Aside0.mk A40
  clear A40
  replace H := Option.bind_eq_some_iff.mp H
  obtain ⟨t200, A50, H⟩ := H
  replace H : (if t200 = true then ((monocoqueref32_New.f (wrap64 (Int.tmod (IntKind.u64.wrap (a0)) 1001))).bind fun bt201 => (monocoquelaw32_LifeRefused.l0 k l1 a2 0 t195 t196 t197 bt201.1 bt201.2.1 bt201.2.2.1 bt201.2.2.2)) else (some false)) = some r := H
  have A5 := Aside0.mk A50
  clear A50
  by_cases c6 : t200 = true
  · subst c6
    have H1 : ((monocoqueref32_New.f (wrap64 (Int.tmod (IntKind.u64.wrap (a0)) 1001))).bind fun bt201 => (monocoquelaw32_LifeRefused.l0 k l1 a2 0 t195 t196 t197 bt201.1 bt201.2.1 bt201.2.2.1 bt201.2.2.2)) = some r := by rw [if_pos rfl] at H; exact H
    clear H
    have H := H1
    clear H1
    replace H := Option.bind_eq_some_iff.mp H
    obtain ⟨⟨t201, t202, t203, t204⟩, A70, H⟩ := H
    replace H : (monocoquelaw32_LifeRefused.l0 k l1 a2 0 t195 t196 t197 t201 t202 t203 t204) = some r := H
    have A7 := Aside0.mk A70
    clear A70
    have HC8 := Aside0.mk H
    clear H
    go_enter Try.func12, Try.ntmps12
    go_upto_block 0 with (first | ((with_reducible refine gate_callee (f := 29) rfl ?_); refine goesL_ (some 25) rfl rfl Try.func29 (by kernel_rfl) rfl #[.int .i64 (wrap64 (Int.tmod (IntKind.u64.wrap (a0)) 1001))] rfl (by (try simp only [List.map_toArray, List.map_cons, List.map_nil]); first | done | rfl | (simp only [List.length_drop, List.length_take]; rfl)) ?_; (with_reducible refine (life_New.calls (wrap64 (Int.tmod (IntKind.u64.wrap (a0)) 1001)) t195 t196 t197 t199 w _ ?side1 A4.out).mono ?_); (case side1 => repeat (first | (with_reducible first | exact HB.out | apply below_alloc | apply pw_below_drewN | apply below_drew1) | exact HB.out)); rintro e w9 ⟨g198, rfl, hi, hb, hb2⟩; refine ⟨_, rfl, ?_⟩; have n0_ := Aside0.mk (hb); have n1_ := Aside0.mk (hi); clear HB; have HB := n0_; have HI198 := n1_; clear n0_ n1_; (try clear hb); (try clear hb2); (try clear hk); (try clear hi)) | (go_at_call 30; (with_reducible refine (monocoquelaw32_told.calls k  true _ A5.out).mono ?_); rintro e w10 ⟨rfl, hb⟩; have n0_ := Aside0.mk (IsS89.below (by repeat (first | (with_reducible first | exact HI198.out | apply IsS89.alloc | apply IsS89.drewN | apply IsS89.drew | apply IsS89.set_0 | apply IsS89.set_1 | apply IsS89.set_2) | exact HI198.out)) hb); have n1_ := Aside0.mk (below_step (by repeat (first | (with_reducible first | exact HB.out | apply below_alloc | apply pw_below_drewN | apply below_drew1 | refine below_set ?_ (IsS89.ge HI198.out)) | exact HB.out)) hb); clear HI198; clear HB; have HI198 := n0_; have HB := n1_; clear n0_ n1_; (try clear hb); (try clear hb2); (try clear hk); (try clear hi)) | ((with_reducible refine gate_callee (f := 36) rfl ?_); refine goesL_ (some 35) rfl rfl Try.func36 (by kernel_rfl) rfl #[.int .i64 (wrap64 (Int.tmod (IntKind.u64.wrap (a0)) 1001))] rfl (by (try simp only [List.map_toArray, List.map_cons, List.map_nil]); first | done | rfl | (simp only [List.length_drop, List.length_take]; rfl)) ?_; (with_reducible refine (monocoqueref32_New.calls (wrap64 (Int.tmod (IntKind.u64.wrap (a0)) 1001)) t201 t202 t203 t204 _ A7.out).mono ?_); rintro e w11 ⟨rfl, hb⟩; refine ⟨_, rfl, ?_⟩; have n0_ := Aside0.mk (IsS89.below (by repeat (first | (with_reducible first | exact HI198.out | apply IsS89.alloc | apply IsS89.drewN | apply IsS89.drew | apply IsS89.set_0 | apply IsS89.set_1 | apply IsS89.set_2) | exact HI198.out)) hb); have n1_ := Aside0.mk (below_step (by repeat (first | (with_reducible first | exact HB.out | apply below_alloc | apply pw_below_drewN | apply below_drew1 | refine below_set ?_ (IsS89.ge HI198.out)) | exact HB.out)) hb); clear HI198; clear HB; have HI198 := n0_; have HB := n1_; clear n0_ n1_; (try clear hb); (try clear hb2); (try clear hk); (try clear hi)) | ((with_reducible refine gate_dst (N := 10) rfl ?_); refine box_event ?hg (N := 10) ?hd (cs := #[.int .i64 0, .int .i64 0, .int .i64 0, .int .i64 0]) (t := 69) ?hr ?_; (case hd => rfl); (case hg => rfl); (case hr => first | (go_simp; done) | (go_simp; rfl)); intro gb205 hg w12 hbox hb; have n0_ := Aside0.mk (IsS89.below (by repeat (first | (with_reducible first | exact HI198.out | apply IsS89.alloc | apply IsS89.drewN | apply IsS89.drew | apply IsS89.set_0 | apply IsS89.set_1 | apply IsS89.set_2) | exact HI198.out)) hb); have n1_ := Aside0.mk (below_step (by repeat (first | (with_reducible first | exact HB.out | apply below_alloc | apply pw_below_drewN | apply below_drew1 | refine below_set ?_ (IsS89.ge HI198.out)) | exact HB.out)) hb); have n2_ := Aside0.mk (hbox); have n3_ := Aside0.mk ((by rw [hg]; exact (below_size (by repeat (first | (with_reducible first | exact HB.out | apply below_alloc | apply pw_below_drewN | apply below_drew1 | refine below_set ?_ (IsS89.ge HI198.out)) | exact HB.out))) : w.heap.size ≤ gb205)); have n4_ := Aside0.mk ((by rw [hg]; exact (below_size (by repeat (first | (with_reducible first | exact HB.out | apply below_alloc | apply pw_below_drewN | apply below_drew1 | refine below_set ?_ (IsS89.ge HI198.out)) | exact HB.out))) : w.heap.size ≤ gb205)); have n5_ := Aside0.mk ((by rw [hg]; exact Nat.ne_of_lt (IsS89.lt (show IsS89 w _ g198 t195 t196 t197 from by repeat (first | (with_reducible first | exact HI198.out | apply IsS89.alloc | apply IsS89.drewN | apply IsS89.drew | apply IsS89.set_0 | apply IsS89.set_1 | apply IsS89.set_2) | exact HI198.out))) : g198 ≠ gb205)); have n6_ := Aside0.mk ((by rw [hg]; exact Nat.ne_of_gt (IsS89.lt (show IsS89 w _ g198 t195 t196 t197 from by repeat (first | (with_reducible first | exact HI198.out | apply IsS89.alloc | apply IsS89.drewN | apply IsS89.drew | apply IsS89.set_0 | apply IsS89.set_1 | apply IsS89.set_2) | exact HI198.out))) : gb205 ≠ g198)); clear HI198; clear HB; have HI198 := n0_; have HB := n1_; have BK205 := n2_; have GW205 := n3_; have GE205 := n4_; have NB198_205 := n5_; have NB205_198 := n6_; clear n0_ n1_ n2_ n3_ n4_ n5_ n6_; clear hb hbox hg; have hnb13 := NB205_198.out; have hnc13 := NB198_205.out; have hcz14_0 : w12.cell? ⟨gb205, 0, none⟩ = some (.int .i64 0) := (blk_cell BK205.out 0).trans rfl; have hcz14_1 : w12.cell? ⟨gb205, 1, none⟩ = some (.int .i64 0) := (blk_cell BK205.out 1).trans rfl; have hcz14_2 : w12.cell? ⟨gb205, 2, none⟩ = some (.int .i64 0) := (blk_cell BK205.out 2).trans rfl; have hcz14_3 : w12.cell? ⟨gb205, 3, none⟩ = some (.int .i64 0) := (blk_cell BK205.out 3).trans rfl; have hfz14_0 := blk_frozen BK205.out 0; have hfz14_1 := blk_frozen BK205.out 1; have hfz14_2 := blk_frozen BK205.out 2; have hfz14_3 := blk_frozen BK205.out 3))
    (try simp only [Act.put, List.setIfInBounds_toArray, List.set_cons_zero, List.set_cons_succ])
    go_cut [] (fun wc => ∃ (kq : Nat) (x199000_7 : Int) (x199001_7 : Int) (x199002_7 : Int) (x206000_7 : Int) (x206001_7 : Int) (x206002_7 : Int) (x206003_7 : Int), Aside0 (monocoquelaw32_LifeRefused.j1 kq a2 x199000_7 x199001_7 x199002_7 x206000_7 x206001_7 x206002_7 x206003_7 = some r) ∧ Aside0 (kq ≤ k) ∧ Aside0 (wc.heap[gb205]? = some (.cells #[.int .i64 x206000_7, .int .i64 x206001_7, .int .i64 x206002_7, .int .i64 x206003_7] 69 (0, 0))) ∧ Aside0 (IsS89 w wc g198 x199000_7 x199001_7 x199002_7) ∧ Aside0 (Below w.heap.size w wc))
    case first =>
      have H := HC8.out
      clear HC8
      have H' := Aside0.mk H
      clear H
      go_wp2
      go_loopg [11] k (fun kq v11 w' => ∃ (x11_1 : Int) (x199000_1 : Int) (x199001_1 : Int) (x199002_1 : Int) (x206000_1 : Int) (x206001_1 : Int) (x206002_1 : Int) (x206003_1 : Int), v11 = .int .i64 x11_1 ∧ Aside0 (monocoquelaw32_LifeRefused.l0 kq l1 a2 x11_1 x199000_1 x199001_1 x199002_1 x206000_1 x206001_1 x206002_1 x206003_1 = some r) ∧ Aside0 (kq ≤ k) ∧ Aside0 (w'.heap[gb205]? = some (.cells #[.int .i64 x206000_1, .int .i64 x206001_1, .int .i64 x206002_1, .int .i64 x206003_1] 69 (0, 0))) ∧ Aside0 (IsS89 w w' g198 x199000_1 x199001_1 x199002_1) ∧ Aside0 (Below w.heap.size w w'))
      case atStart => exact ⟨(0), (t195), (t196), (t197), (t201), (t202), (t203), (t204), (by first | rfl | (simp; done) | (simp [*]; done)), H', ⟨Nat.le_refl _⟩, ⟨by (with_reducible repeat (first | refine blk_drewN ?_ _ | refine blk_drew ?_ | refine blk_alloc ?_ _)); refine blk_put (cs := #[.int .i64 t201, .int .i64 t202, .int .i64 t203, .int .i64 0]) ?_ 3 _ rfl; (with_reducible repeat (first | refine blk_drewN ?_ _ | refine blk_drew ?_ | refine blk_alloc ?_ _)); refine blk_put (cs := #[.int .i64 t201, .int .i64 t202, .int .i64 0, .int .i64 0]) ?_ 2 _ rfl; (with_reducible repeat (first | refine blk_drewN ?_ _ | refine blk_drew ?_ | refine blk_alloc ?_ _)); refine blk_put (cs := #[.int .i64 t201, .int .i64 0, .int .i64 0, .int .i64 0]) ?_ 1 _ rfl; (with_reducible repeat (first | refine blk_drewN ?_ _ | refine blk_drew ?_ | refine blk_alloc ?_ _)); refine blk_put (cs := #[.int .i64 0, .int .i64 0, .int .i64 0, .int .i64 0]) ?_ 0 _ rfl; (with_reducible repeat (first | refine blk_drewN ?_ _ | refine blk_drew ?_ | refine blk_alloc ?_ _)); exact BK205.out⟩, ⟨by repeat (first | (with_reducible first | exact HI198.out | apply IsS89.alloc | apply IsS89.drewN | apply IsS89.drew | apply IsS89.set_0 | apply IsS89.set_1 | apply IsS89.set_2 | refine IsS89.far ?_ NB198_205.out _) | exact HI198.out)⟩, ⟨by repeat (first | (with_reducible first | exact HB.out | apply below_alloc | apply pw_below_drewN | apply below_drew1 | refine below_set ?_ (IsS89.ge HI198.out) | refine below_set ?_ GE205.out) | exact HB.out)⟩⟩
      case round =>
        clear H'
        try clear c1
        try clear c2
        try clear p2
        try clear c3
        try clear c6
        try clear p6
        try clear c12
        try clear c13
        try clear hcz14_0
        try clear hcz14_1
        try clear hcz14_2
        try clear hcz14_3
        try clear hfz14_0
        try clear hfz14_1
        try clear hfz14_2
        try clear hfz14_3
        obtain ⟨x11_1, x199000_1, x199001_1, x199002_1, x206000_1, x206001_1, x206002_1, x206003_1, rfl, HA, HK1, BK205, HI198, HB⟩ := hrel
        cases gk with
        | zero => exact absurd HA.out (by simp [monocoquelaw32_LifeRefused.l0])
        | succ k1 =>
          have H := HA.out
          clear HA
          simp only [monocoquelaw32_LifeRefused.l0] at H
          by_cases c15 : x11_1 < (l1.length : Int)
          · rw [if_pos c15] at H
            have c15b0 : decide (x11_1 < (l1.length : Int)) = true := decide_eq_true c15
            clear c15
            (first | rw [c15b0] | (simp only [i64_w, i32_w]; rw [c15b0]) | skip)
            by_cases c16 : x11_1 < 60
            · rw [if_pos c16] at H
              have c16b0 : decide (x11_1 < 60) = true := decide_eq_true c16
              clear c16
              by_cases c17 : 0 ≤ x11_1
              · rw [if_pos c17] at H
                have c17b0 : decide (0 ≤ x11_1) = true := decide_eq_true c17
                clear c17
                replace H := Option.bind_eq_some_iff.mp H
                obtain ⟨⟨t207, t208, t209, t210, t211, t212, t213, t214⟩, A180, H⟩ := H
                replace H : (monocoquelaw32_LifeRefused.l0 k1 l1 a2 (wrap64 (x11_1 + 1)) t212 t213 t214 t207 t208 t209 t210) = some r := H
                have A18 := Aside0.mk A180
                clear A180
                have H' := Aside0.mk H
                clear H
                try go_wp2
                have n0_ := Aside0.mk (blk_drew BK205.out)
                have n1_ := Aside0.mk (IsS89.drew HI198.out)
                have n2_ := Aside0.mk (below_drew1 HB.out)
                clear BK205
                clear HI198
                clear HB
                have BK205 := n0_
                have HI198 := n1_
                have HB := n2_
                clear n0_ n1_ n2_
                have p206 : 0 ≤ (x11_1 : Int) := of_decide_eq_true (by first | (with_reducible assumption) | assumption)
                have q206 : x11_1 < (l1.length : Int) := of_decide_eq_true (by first | (with_reducible assumption) | assumption)
                obtain ⟨ad206, e206, hx206_0⟩ := Kd.at_int HR1.out x11_1 p206 q206
                have hw206_0 := hx206_0
                cases e206
                replace hx206_0 := (HB.out.cell (World.block_lt_of_cell? w _ hx206_0)).trans hx206_0
                replace p206 := eq_true p206
                replace q206 := eq_true q206
                refine start_ (n := 11) (S := fun w' => w'.cell? ⟨gb205, 0, none⟩ = some (.int .i64 x206000_1) ∧ w'.cell? ⟨gb205, 1, none⟩ = some (.int .i64 x206001_1) ∧ w'.cell? ⟨gb205, 2, none⟩ = some (.int .i64 x206002_1) ∧ w'.cell? ⟨gb205, 3, none⟩ = some (.int .i64 x206003_1) ∧ w'.cell? (ad206.add (x11_1).toNat) = some (.int .i64 (rd l1 x11_1))) (ds := [10]) #[false, false, false, false, false, false, false, false, false, false, false] (by kernel_rfl) rfl rfl ⟨(blk_cell BK205.out 0).trans rfl, (blk_cell BK205.out 1).trans rfl, (blk_cell BK205.out 2).trans rfl, (blk_cell BK205.out 3).trans rfl, ((HB.out.cell (World.block_lt_of_cell? w _ hw206_0)).trans hw206_0)⟩ (fun hHeld => ?_); refine with_tabW monocoquelaw32_LifeRefused.tab9 monocoquelaw32_LifeRefused.bits9 (fun HT_ HW_ => ?_)
                generalize wr.drew = w19 at BK205 HI198 HB hx206_0 hHeld ⊢
                refine pure_ (i := 0) (N := some 47) (v := ?_) (a' := ?_) #[true, false, false, false, false, false, false, false, false, false, false] rfl rfl (any_of HT_.out (by kernel_rfl)) (fun _ _ _ h => h) (Or.inl ⟨by rfl, ?_⟩) ?_ ?_
                rotate_left
                · intro w'
                  go_simp
                  with_reducible rfl
                rotate_left
                · simp only [Act.put, List.setIfInBounds_toArray, List.set_cons_zero, List.set_cons_succ, i64_w, i32_w]
                  rfl
                refine pure_ (i := 2) (N := some 49) (v := ?_) (a' := ?_) #[true, false, true, false, false, false, false, false, false, false, false] rfl rfl (any_of HT_.out (by kernel_rfl)) (fun _ _ _ h => h) (Or.inl ⟨by rfl, ?_⟩) ?_ ?_
                rotate_left
                · intro w'
                  go_simp
                  with_reducible rfl
                rotate_left
                · simp only [Act.put, List.setIfInBounds_toArray, List.set_cons_zero, List.set_cons_succ, i64_w, i32_w]
                  rfl
                refine pure_ (i := 3) (N := some 50) (v := ?_) (a' := ?_) #[true, false, true, true, false, false, false, false, false, false, false] rfl rfl (any_of HT_.out (by kernel_rfl)) (fun _ _ _ h => h) (Or.inl ⟨by rfl, ?_⟩) ?_ ?_
                rotate_left
                · intro w'
                  go_simp
                  with_reducible rfl
                rotate_left
                · simp only [Act.put, List.setIfInBounds_toArray, List.set_cons_zero, List.set_cons_succ, i64_w, i32_w]
                  rfl
                refine pure_ (i := 4) (N := some 51) (v := ?_) (a' := ?_) #[true, false, true, true, true, false, false, false, false, false, false] rfl rfl (any_of HT_.out (by kernel_rfl)) (fun _ _ _ h => h) (Or.inl ⟨by rfl, ?_⟩) ?_ ?_
                rotate_left
                · intro w'
                  go_simp
                  with_reducible rfl
                rotate_left
                · simp only [Act.put, List.setIfInBounds_toArray, List.set_cons_zero, List.set_cons_succ, i64_w, i32_w]
                  rfl
                refine take_ (i := 1) (N := some 48) (v := ?_) (a' := ?_) #[true, true, true, true, true, false, false, false, false, false, false] rfl rfl (take_ofW HT_.out HW_.out (by kernel_rfl)) (fun _ _ _ h => h) (Or.inl ⟨by rfl, ?_⟩) hHeld ?_ ?_
                rotate_left
                · rintro w' ⟨s0, s1, s2, s3, s4⟩
                  go_simp
                  with_reducible rfl
                rotate_left
                · simp only [Act.put, List.setIfInBounds_toArray, List.set_cons_zero, List.set_cons_succ, i64_w, i32_w]
                  rfl
                refine take_ (i := 5) (N := some 52) (v := ?_) (a' := ?_) #[true, true, true, true, true, true, false, false, false, false, false] rfl rfl (take_ofW HT_.out HW_.out (by kernel_rfl)) (fun _ _ _ h => h) (Or.inl ⟨by rfl, ?_⟩) hHeld ?_ ?_
                rotate_left
                · rintro w' ⟨s0, s1, s2, s3, s4⟩
                  go_simp
                  with_reducible rfl
                rotate_left
                · simp only [Act.put, List.setIfInBounds_toArray, List.set_cons_zero, List.set_cons_succ, i64_w, i32_w]
                  rfl
                refine one_ (i := 6) (N := some 53) #[true, true, true, true, true, true, true, false, false, false, false] rfl rfl (one_of HT_.out (by kernel_rfl)) (by decide) (fun K hK => ?_)
                refine goes_ Try.func37 (by kernel_rfl) rfl #[.pointer (some ⟨g198, 0, none⟩), .agg #[.int .i64 x206000_1, .int .i64 x206001_1, .int .i64 x206002_1, .int .i64 x206003_1], .int .i64 (rd l1 x11_1)] (by rfl) rfl rfl (by (try simp only [List.map_toArray, List.map_cons, List.map_nil]); first | done | rfl | (simp only [List.length_drop, List.length_take]; rfl)) ?_
                with_reducible refine (monocoquelaw32_do.calls k1 g198 x199000_1 x199001_1 x199002_1 x206000_1 x206001_1 x206002_1 x206003_1 (rd l1 x11_1) t207 t208 t209 t210 t211 t212 t213 t214 w _ ?side1 ?side2 A18.out).mono ?_
                (case side1 => repeat (first | (with_reducible first | exact HI198.out | apply IsS89.alloc | apply IsS89.drewN | apply IsS89.drew | apply IsS89.set_0 | apply IsS89.set_1 | apply IsS89.set_2 | refine IsS89.far ?_ NB198_205.out _) | exact HI198.out))
                (case side2 => repeat (first | (with_reducible first | exact HB.out | apply below_alloc | apply pw_below_drewN | apply below_drew1 | refine below_set ?_ (IsS89.ge HI198.out) | refine below_set ?_ GE205.out) | exact HB.out))
                rintro e w20 ⟨rfl, hi, hb, hk⟩
                refine ⟨_, rfl, ?_⟩
                have n0_ := Aside0.mk (KeepBut.blk hk (g' := gb205) (o := .cells #[.int .i64 x206000_1, .int .i64 x206001_1, .int .i64 x206002_1, .int .i64 x206003_1] 69 (0, 0)) (by (with_reducible repeat (first | refine blk_drewN ?_ _ | refine blk_drew ?_ | refine blk_alloc ?_ _)); exact BK205.out) NB205_198.out (by simp))
                have n1_ := Aside0.mk (hb)
                have n2_ := Aside0.mk (hi)
                clear BK205
                clear HB
                clear HI198
                have BK205 := n0_
                have HB := n1_
                have HI198 := n2_
                clear n0_ n1_ n2_
                (try clear hb)
                (try clear hb2)
                (try clear hk)
                (try clear hi)
                refine hK.out _ _ ⟨(blk_cell BK205.out 0).trans rfl, (blk_cell BK205.out 1).trans rfl, (blk_cell BK205.out 2).trans rfl, (blk_cell BK205.out 3).trans rfl, ((HB.out.cell (World.block_lt_of_cell? w _ hw206_0)).trans hw206_0)⟩ (fun hHeld => ?_)
                clear hK K
                refine norm_ (a' := ?_) ?_ ?_
                rotate_left
                · show Act.put _ (some 53) _ = _
                  simp only [Act.put, List.setIfInBounds_toArray, List.set_cons_zero, List.set_cons_succ, i64_w, i32_w]
                  rfl
                refine pure_ (i := 7) (N := some 46) (v := ?_) (a' := ?_) #[true, true, true, true, true, true, true, true, false, false, false] rfl rfl (any_of HT_.out (by kernel_rfl)) (fun _ _ _ h => h) (Or.inl ⟨by rfl, ?_⟩) ?_ ?_
                rotate_left
                · intro w'
                  go_simp
                  with_reducible rfl
                rotate_left
                · simp only [Act.put, List.setIfInBounds_toArray, List.set_cons_zero, List.set_cons_succ, i64_w, i32_w]
                  rfl
                refine pure_ (i := 8) (N := some 54) (v := ?_) (a' := ?_) #[true, true, true, true, true, true, true, true, true, false, false] rfl rfl (any_of HT_.out (by kernel_rfl)) (fun _ _ _ h => h) (Or.inl ⟨by rfl, ?_⟩) ?_ ?_
                rotate_left
                · intro w'
                  go_simp
                  with_reducible rfl
                rotate_left
                · simp only [Act.put, List.setIfInBounds_toArray, List.set_cons_zero, List.set_cons_succ, i64_w, i32_w]
                  rfl
                refine pure_ (i := 9) (N := some 55) (v := ?_) (a' := ?_) #[true, true, true, true, true, true, true, true, true, true, false] rfl rfl (any_of HT_.out (by kernel_rfl)) (fun _ _ _ h => h) (Or.inl ⟨by rfl, ?_⟩) ?_ ?_
                rotate_left
                · intro w'
                  go_simp
                  with_reducible rfl
                rotate_left
                · simp only [Act.put, List.setIfInBounds_toArray, List.set_cons_zero, List.set_cons_succ, i64_w, i32_w]
                  rfl
                refine last_ (i := 10) (N := none) #[true, true, true, true, true, true, true, true, true, true, true] rfl rfl (one_of HT_.out (by kernel_rfl)) (by decide) (fun K hK => ?_)
                have hs21 : w20.cell? ⟨gb205, 0, none⟩ = some (.int .i64 x206000_1) := (blk_cell BK205.out 0).trans rfl
                have hfs21 := blk_frozen BK205.out 0
                have hs22 : w20.cell? ⟨gb205, 1, none⟩ = some (.int .i64 x206001_1) := (blk_cell BK205.out 1).trans rfl
                have hfs22 := blk_frozen BK205.out 1
                have hs23 : w20.cell? ⟨gb205, 2, none⟩ = some (.int .i64 x206002_1) := (blk_cell BK205.out 2).trans rfl
                have hfs23 := blk_frozen BK205.out 2
                have hs24 : w20.cell? ⟨gb205, 3, none⟩ = some (.int .i64 x206003_1) := (blk_cell BK205.out 3).trans rfl
                have hfs24 := blk_frozen BK205.out 3
                refine skip_ (w1 := ?_) (by rfl) rfl ?_ ?_
                rotate_left
                · go_simp
                  rfl
                refine hK.out _ _ ?_
                clear hK K
                refine done_ (done_of HT_.out (by kernel_rfl)) ?_
                try go_wp2
                go_roundg k1
                case measure => have := HK1.out; omega
                case rel => exact ⟨(wrap64 (x11_1 + 1)), (t212), (t213), (t214), (t207), (t208), (t209), (t210), (by first | rfl | (simp; done) | (simp [*]; done)), H', ⟨by have := HK1.out; omega⟩, ⟨by (with_reducible repeat (first | refine blk_drewN ?_ _ | refine blk_drew ?_ | refine blk_alloc ?_ _)); refine blk_put (cs := #[.int .i64 t207, .int .i64 t208, .int .i64 t209, .int .i64 x206003_1]) ?_ 3 _ rfl; (with_reducible repeat (first | refine blk_drewN ?_ _ | refine blk_drew ?_ | refine blk_alloc ?_ _)); refine blk_put (cs := #[.int .i64 t207, .int .i64 t208, .int .i64 x206002_1, .int .i64 x206003_1]) ?_ 2 _ rfl; (with_reducible repeat (first | refine blk_drewN ?_ _ | refine blk_drew ?_ | refine blk_alloc ?_ _)); refine blk_put (cs := #[.int .i64 t207, .int .i64 x206001_1, .int .i64 x206002_1, .int .i64 x206003_1]) ?_ 1 _ rfl; (with_reducible repeat (first | refine blk_drewN ?_ _ | refine blk_drew ?_ | refine blk_alloc ?_ _)); refine blk_put (cs := #[.int .i64 x206000_1, .int .i64 x206001_1, .int .i64 x206002_1, .int .i64 x206003_1]) ?_ 0 _ rfl; (with_reducible repeat (first | refine blk_drewN ?_ _ | refine blk_drew ?_ | refine blk_alloc ?_ _)); exact BK205.out⟩, ⟨by repeat (first | (with_reducible first | exact HI198.out | apply IsS89.alloc | apply IsS89.drewN | apply IsS89.drew | apply IsS89.set_0 | apply IsS89.set_1 | apply IsS89.set_2 | refine IsS89.far ?_ NB198_205.out _) | exact HI198.out)⟩, ⟨by repeat (first | (with_reducible first | exact HB.out | apply below_alloc | apply pw_below_drewN | apply below_drew1 | refine below_set ?_ (IsS89.ge HI198.out) | refine below_set ?_ GE205.out) | exact HB.out)⟩⟩
              · rw [if_neg c17] at H
                exact absurd H (by simp)
            · rw [if_neg c16] at H
              have c16b0 : decide (x11_1 < 60) = false := decide_eq_false c16
              clear c16
              have H' := Aside0.mk H
              clear H
              go_wp2
              go_meet
              case rel => exact ⟨_, (x199000_1), (x199001_1), (x199002_1), (x206000_1), (x206001_1), (x206002_1), (x206003_1), H', ⟨by have := HK1.out; first | omega | exact Nat.le_refl _⟩, ⟨by (with_reducible repeat (first | refine blk_drewN ?_ _ | refine blk_drew ?_ | refine blk_alloc ?_ _)); exact BK205.out⟩, ⟨by repeat (first | (with_reducible first | exact HI198.out | apply IsS89.alloc | apply IsS89.drewN | apply IsS89.drew | apply IsS89.set_0 | apply IsS89.set_1 | apply IsS89.set_2 | refine IsS89.far ?_ NB198_205.out _) | exact HI198.out)⟩, ⟨by repeat (first | (with_reducible first | exact HB.out | apply below_alloc | apply pw_below_drewN | apply below_drew1 | refine below_set ?_ (IsS89.ge HI198.out) | refine below_set ?_ GE205.out) | exact HB.out)⟩⟩
          · rw [if_neg c15] at H
            have c15b0 : decide (x11_1 < (l1.length : Int)) = false := decide_eq_false c15
            clear c15
            (first | rw [c15b0] | (simp only [i64_w, i32_w]; rw [c15b0]) | skip)
            have H' := Aside0.mk H
            clear H
            go_wp2
            go_meet
            case rel => exact ⟨_, (x199000_1), (x199001_1), (x199002_1), (x206000_1), (x206001_1), (x206002_1), (x206003_1), H', ⟨by have := HK1.out; first | omega | exact Nat.le_refl _⟩, ⟨by (with_reducible repeat (first | refine blk_drewN ?_ _ | refine blk_drew ?_ | refine blk_alloc ?_ _)); exact BK205.out⟩, ⟨by repeat (first | (with_reducible first | exact HI198.out | apply IsS89.alloc | apply IsS89.drewN | apply IsS89.drew | apply IsS89.set_0 | apply IsS89.set_1 | apply IsS89.set_2 | refine IsS89.far ?_ NB198_205.out _) | exact HI198.out)⟩, ⟨by repeat (first | (with_reducible first | exact HB.out | apply below_alloc | apply pw_below_drewN | apply below_drew1 | refine below_set ?_ (IsS89.ge HI198.out) | refine below_set ?_ GE205.out) | exact HB.out)⟩⟩
    case rest =>
      clear HC8
      try clear c1
      try clear c2
      try clear p2
      try clear q2
      try clear hx2
      try clear c3
      try clear c6
      try clear p6
      try clear c12
      try clear c13
      try clear c15
      try clear c15b0
      try clear c16
      try clear c16b0
      try clear c17
      try clear c17b0
      try clear p20
      try clear q20
      try clear hx20
      try clear hcz14_0
      try clear hcz14_1
      try clear hcz14_2
      try clear hcz14_3
      try clear hfz14_0
      try clear hfz14_1
      try clear hfz14_2
      try clear hfz14_3
      try clear hx206_0
      try clear p2
      try clear p206
      try clear p6
      try clear q206
      obtain ⟨kq, x199000_7, x199001_7, x199002_7, x206000_7, x206001_7, x206002_7, x206003_7, HA, HJ7, BK205, HI198, HB⟩ := hcut
      cases kq with
      | zero => exact absurd HA.out (by simp [monocoquelaw32_LifeRefused.j1])
      | succ kj7 =>
        have H := HA.out
        clear HA
        simp only [monocoquelaw32_LifeRefused.j1] at H
        have HC25 := Aside0.mk H
        clear H
        go_upto_region 10 with (fail)
        go_cut [61] (fun v61 wc => ∃ (kq : Nat) (x61_24 : Bool), v61 = .bool x61_24 ∧ Aside0 (monocoquelaw32_LifeRefused.j2 kq a2 x61_24 x199000_7 x199001_7 x199002_7 x206000_7 x206001_7 x206002_7 x206003_7 = some r) ∧ Aside0 (kq ≤ kj7) ∧ Aside0 (wc.heap[gb205]? = some (.cells #[.int .i64 x206000_7, .int .i64 x206001_7, .int .i64 x206002_7, .int .i64 x206003_7] 69 (0, 0))) ∧ Aside0 (IsS89 w wc g198 x199000_7 x199001_7 x199002_7) ∧ Aside0 (Below w.heap.size w wc))
        case first =>
          have H := HC25.out
          clear HC25
          by_cases c26 : a2 < 4
          · rw [if_pos c26] at H
            have c26b0 : decide (a2 < 4) = true := decide_eq_true c26
            clear c26
            (first | rw [c26b0] | (simp only [i64_w, i32_w]; rw [c26b0]) | skip)
            have H' := Aside0.mk H
            clear H
            go_wp2
            go_meet
            case rel => exact ⟨_, (true), (by first | rfl | (simp; done) | (simp [*]; done)), H', ⟨by have := HJ7.out; first | omega | exact Nat.le_refl _⟩, ⟨by (with_reducible repeat (first | refine blk_drewN ?_ _ | refine blk_drew ?_ | refine blk_alloc ?_ _)); exact BK205.out⟩, ⟨by repeat (first | (with_reducible first | exact HI198.out | apply IsS89.alloc | apply IsS89.drewN | apply IsS89.drew | apply IsS89.set_0 | apply IsS89.set_1 | apply IsS89.set_2 | refine IsS89.far ?_ NB198_205.out _) | exact HI198.out)⟩, ⟨by repeat (first | (with_reducible first | exact HB.out | apply below_alloc | apply pw_below_drewN | apply below_drew1 | refine below_set ?_ (IsS89.ge HI198.out) | refine below_set ?_ GE205.out) | exact HB.out)⟩⟩
          · rw [if_neg c26] at H
            have c26b0 : decide (a2 < 4) = false := decide_eq_false c26
            clear c26
            (first | rw [c26b0] | (simp only [i64_w, i32_w]; rw [c26b0]) | skip)
            have H' := Aside0.mk H
            clear H
            go_wp2
            go_meet
            case rel => exact ⟨_, (decide (a2 > 6)), (by first | rfl | (simp; done) | (simp [*]; done)), H', ⟨by have := HJ7.out; first | omega | exact Nat.le_refl _⟩, ⟨by (with_reducible repeat (first | refine blk_drewN ?_ _ | refine blk_drew ?_ | refine blk_alloc ?_ _)); exact BK205.out⟩, ⟨by repeat (first | (with_reducible first | exact HI198.out | apply IsS89.alloc | apply IsS89.drewN | apply IsS89.drew | apply IsS89.set_0 | apply IsS89.set_1 | apply IsS89.set_2 | refine IsS89.far ?_ NB198_205.out _) | exact HI198.out)⟩, ⟨by repeat (first | (with_reducible first | exact HB.out | apply below_alloc | apply pw_below_drewN | apply below_drew1 | refine below_set ?_ (IsS89.ge HI198.out) | refine below_set ?_ GE205.out) | exact HB.out)⟩⟩
        case rest =>
          clear HC25
          try clear c1
          try clear c2
          try clear p2
          try clear q2
          try clear hx2
          try clear c3
          try clear c6
          try clear p6
          try clear c12
          try clear c13
          try clear c15
          try clear c15b0
          try clear c16
          try clear c16b0
          try clear c17
          try clear c17b0
          try clear p20
          try clear q20
          try clear hx20
          try clear c26
          try clear c26b0
          try clear hcz14_0
          try clear hcz14_1
          try clear hcz14_2
          try clear hcz14_3
          try clear hfz14_0
          try clear hfz14_1
          try clear hfz14_2
          try clear hfz14_3
          try clear hx206_0
          try clear p2
          try clear p20
          try clear p206
          try clear p6
          try clear q2
          try clear q20
          try clear q206
          obtain ⟨kq, x61_24, rfl, HA, HJ24, BK205, HI198, HB⟩ := hcut
          cases kq with
          | zero => exact absurd HA.out (by simp [monocoquelaw32_LifeRefused.j2])
          | succ kj24 =>
            have H := HA.out
            clear HA
            simp only [monocoquelaw32_LifeRefused.j2] at H
            have HC27 := Aside0.mk H
            clear H
            go_upto_if 61 with (fail)
            go_cut [] (fun wc => ∃ (kq : Nat) (x199000_26 : Int) (x199001_26 : Int) (x199002_26 : Int), Aside0 (monocoquelaw32_LifeRefused.j3 kq x199000_26 x199001_26 x199002_26 x206000_7 x206001_7 x206002_7 x206003_7 = some r) ∧ Aside0 (kq ≤ kj24) ∧ Aside0 (wc.heap[gb205]? = some (.cells #[.int .i64 x206000_7, .int .i64 x206001_7, .int .i64 x206002_7, .int .i64 x206003_7] 69 (0, 0))) ∧ Aside0 (IsS89 w wc g198 x199000_26 x199001_26 x199002_26) ∧ Aside0 (Below w.heap.size w wc))
            case first =>
              have H := HC27.out
              clear HC27
              by_cases c28 : x61_24 = true
              · subst c28
                have H1 : ((life_Life_Do.f kj24 x199000_7 x199001_7 x199002_7 a2).bind fun bt215 => (if bt215.2.1 = true then (some false) else (if bt215.2.2.1 = 1 then ((monocoquelaw32_same.f bt215.2.2.2.1 bt215.2.2.2.2.1 bt215.2.2.2.2.2 x206000_7 x206001_7 x206002_7 x206003_7).bind fun bt221 => (if bt221.1 = true then (monocoquelaw32_LifeRefused.j3 kj24 bt221.2.1 bt221.2.2.1 bt221.2.2.2 x206000_7 x206001_7 x206002_7 x206003_7) else (some false))) else (some false)))) = some r := by rw [if_pos rfl] at H; exact H
                clear H
                have H := H1
                clear H1
                replace H := Option.bind_eq_some_iff.mp H
                obtain ⟨⟨t215, t216, t217, t218, t219, t220⟩, A290, H⟩ := H
                replace H : (if t216 = true then (some false) else (if t217 = 1 then ((monocoquelaw32_same.f t218 t219 t220 x206000_7 x206001_7 x206002_7 x206003_7).bind fun bt221 => (if bt221.1 = true then (monocoquelaw32_LifeRefused.j3 kj24 bt221.2.1 bt221.2.2.1 bt221.2.2.2 x206000_7 x206001_7 x206002_7 x206003_7) else (some false))) else (some false))) = some r := H
                have A29 := Aside0.mk A290
                clear A290
                by_cases c30 : t216 = true
                · subst c30
                  have H1 : (some false) = some r := by rw [if_pos rfl] at H; exact H
                  clear H
                  have H := H1
                  clear H1
                  obtain rfl := Option.some.inj H
                  go_wp2_with (first | ((with_reducible refine gate_callee (f := 32) rfl ?_); refine goesL_ (some 65) rfl rfl Try.func32 (by kernel_rfl) rfl #[.pointer (some ⟨g198, 0, none⟩), .int .i64 a2] rfl (by (try simp only [List.map_toArray, List.map_cons, List.map_nil]); first | done | rfl | (simp only [List.length_drop, List.length_take]; rfl)) ?_; (with_reducible refine (life_Life_Do.calls kj24 g198 x199000_7 x199001_7 x199002_7 a2 t215 true t217 t218 t219 t220 w _ ?side1 ?side2 A29.out).mono ?_); (case side1 => repeat (first | (with_reducible first | exact HI198.out | apply IsS89.alloc | apply IsS89.drewN | apply IsS89.drew | apply IsS89.set_0 | apply IsS89.set_1 | apply IsS89.set_2 | refine IsS89.far ?_ NB198_205.out _) | exact HI198.out)); (case side2 => repeat (first | (with_reducible first | exact HB.out | apply below_alloc | apply pw_below_drewN | apply below_drew1 | refine below_set ?_ (IsS89.ge HI198.out) | refine below_set ?_ GE205.out) | exact HB.out)); rintro e w31 ⟨rfl, hi, hb, hk⟩; refine ⟨_, rfl, ?_⟩; have n0_ := Aside0.mk (KeepBut.blk hk (g' := gb205) (o := .cells #[.int .i64 x206000_7, .int .i64 x206001_7, .int .i64 x206002_7, .int .i64 x206003_7] 69 (0, 0)) (by (with_reducible repeat (first | refine blk_drewN ?_ _ | refine blk_drew ?_ | refine blk_alloc ?_ _)); exact BK205.out) NB205_198.out (by simp)); have n1_ := Aside0.mk (hb); have n2_ := Aside0.mk (hi); clear BK205; clear HB; clear HI198; have BK205 := n0_; have HB := n1_; have HI198 := n2_; clear n0_ n1_ n2_; (try clear hb); (try clear hb2); (try clear hk); (try clear hi)))
                  go_ret
                  exact ⟨by first | rfl | (simp [errW_none, errW_some] <;> rfl) | (simp [*, errW_none, errW_some] <;> rfl), by repeat (first | (with_reducible first | exact HB.out | apply below_alloc | apply pw_below_drewN | apply below_drew1 | refine below_set ?_ (IsS89.ge HI198.out) | refine below_set ?_ GE205.out) | exact HB.out)⟩
                · replace c30 := Bool.eq_false_iff.mpr c30
                  subst c30
                  have H1 : (if t217 = 1 then ((monocoquelaw32_same.f t218 t219 t220 x206000_7 x206001_7 x206002_7 x206003_7).bind fun bt221 => (if bt221.1 = true then (monocoquelaw32_LifeRefused.j3 kj24 bt221.2.1 bt221.2.2.1 bt221.2.2.2 x206000_7 x206001_7 x206002_7 x206003_7) else (some false))) else (some false)) = some r := by rw [if_neg (show ¬ (false = true) by decide)] at H; exact H
                  clear H
                  have H := H1
                  clear H1
                  by_cases c32 : t217 = 1
                  · rw [if_pos c32] at H
                    have c32b0 : (t217 == 1) = true := beq_iff_eq.mpr c32
                    have c32b1 : (t217 != 1) = false := bne_eq_false_iff_eq.mpr c32
                    clear c32
                    (first | rw [c32b0] | (simp only [i64_w, i32_w]; rw [c32b0]) | skip)
                    replace H := Option.bind_eq_some_iff.mp H
                    obtain ⟨⟨t221, t222, t223, t224⟩, A330, H⟩ := H
                    replace H : (if t221 = true then (monocoquelaw32_LifeRefused.j3 kj24 t222 t223 t224 x206000_7 x206001_7 x206002_7 x206003_7) else (some false)) = some r := H
                    have A33 := Aside0.mk A330
                    clear A330
                    by_cases c34 : t221 = true
                    · subst c34
                      have H1 : (monocoquelaw32_LifeRefused.j3 kj24 t222 t223 t224 x206000_7 x206001_7 x206002_7 x206003_7) = some r := by rw [if_pos rfl] at H; exact H
                      clear H
                      have H := H1
                      clear H1
                      have H' := Aside0.mk H
                      clear H
                      go_wp2_with (first | ((with_reducible refine gate_callee (f := 32) rfl ?_); refine goesL_ (some 65) rfl rfl Try.func32 (by kernel_rfl) rfl #[.pointer (some ⟨g198, 0, none⟩), .int .i64 a2] rfl (by (try simp only [List.map_toArray, List.map_cons, List.map_nil]); first | done | rfl | (simp only [List.length_drop, List.length_take]; rfl)) ?_; (with_reducible refine (life_Life_Do.calls kj24 g198 x199000_7 x199001_7 x199002_7 a2 t215 false t217 t218 t219 t220 w _ ?side1 ?side2 A29.out).mono ?_); (case side1 => repeat (first | (with_reducible first | exact HI198.out | apply IsS89.alloc | apply IsS89.drewN | apply IsS89.drew | apply IsS89.set_0 | apply IsS89.set_1 | apply IsS89.set_2 | refine IsS89.far ?_ NB198_205.out _) | exact HI198.out)); (case side2 => repeat (first | (with_reducible first | exact HB.out | apply below_alloc | apply pw_below_drewN | apply below_drew1 | refine below_set ?_ (IsS89.ge HI198.out) | refine below_set ?_ GE205.out) | exact HB.out)); rintro e w35 ⟨rfl, hi, hb, hk⟩; refine ⟨_, rfl, ?_⟩; have n0_ := Aside0.mk (KeepBut.blk hk (g' := gb205) (o := .cells #[.int .i64 x206000_7, .int .i64 x206001_7, .int .i64 x206002_7, .int .i64 x206003_7] 69 (0, 0)) (by (with_reducible repeat (first | refine blk_drewN ?_ _ | refine blk_drew ?_ | refine blk_alloc ?_ _)); exact BK205.out) NB205_198.out (by simp)); have n1_ := Aside0.mk (hb); have n2_ := Aside0.mk (hi); clear BK205; clear HB; clear HI198; have BK205 := n0_; have HB := n1_; have HI198 := n2_; clear n0_ n1_ n2_; (try clear hb); (try clear hb2); (try clear hk); (try clear hi); have hnb36 := NB205_198.out; have hnc36 := NB198_205.out; have hcz37_0 : w35.cell? ⟨gb205, 0, none⟩ = some (.int .i64 x206000_7) := (blk_cell BK205.out 0).trans rfl; have hcz37_1 : w35.cell? ⟨gb205, 1, none⟩ = some (.int .i64 x206001_7) := (blk_cell BK205.out 1).trans rfl; have hcz37_2 : w35.cell? ⟨gb205, 2, none⟩ = some (.int .i64 x206002_7) := (blk_cell BK205.out 2).trans rfl; have hcz37_3 : w35.cell? ⟨gb205, 3, none⟩ = some (.int .i64 x206003_7) := (blk_cell BK205.out 3).trans rfl; have hfz37_0 := blk_frozen BK205.out 0; have hfz37_1 := blk_frozen BK205.out 1; have hfz37_2 := blk_frozen BK205.out 2; have hfz37_3 := blk_frozen BK205.out 3) | (go_at_call 38; (with_reducible refine (monocoquelaw32_same.calls g198 t218 t219 t220 x206000_7 x206001_7 x206002_7 x206003_7 true t222 t223 t224 w _ ?side1 ?side2 A33.out).mono ?_); (case side1 => repeat (first | (with_reducible first | exact HI198.out | apply IsS89.alloc | apply IsS89.drewN | apply IsS89.drew | apply IsS89.set_0 | apply IsS89.set_1 | apply IsS89.set_2 | refine IsS89.far ?_ NB198_205.out _) | exact HI198.out)); (case side2 => repeat (first | (with_reducible first | exact HB.out | apply below_alloc | apply pw_below_drewN | apply below_drew1 | refine below_set ?_ (IsS89.ge HI198.out) | refine below_set ?_ GE205.out) | exact HB.out)); rintro e w38 ⟨rfl, hi, hb, hk⟩; have n0_ := Aside0.mk (KeepBut.blk hk (g' := gb205) (o := .cells #[.int .i64 x206000_7, .int .i64 x206001_7, .int .i64 x206002_7, .int .i64 x206003_7] 69 (0, 0)) (by (with_reducible repeat (first | refine blk_drewN ?_ _ | refine blk_drew ?_ | refine blk_alloc ?_ _)); exact BK205.out) NB205_198.out (by simp)); have n1_ := Aside0.mk (hb); have n2_ := Aside0.mk (hi); clear BK205; clear HB; clear HI198; have BK205 := n0_; have HB := n1_; have HI198 := n2_; clear n0_ n1_ n2_; (try clear hb); (try clear hb2); (try clear hk); (try clear hi)))
                      go_meet
                      case rel => exact ⟨_, (t222), (t223), (t224), H', ⟨by have := HJ7.out; have := HJ24.out; first | omega | exact Nat.le_refl _⟩, ⟨by (with_reducible repeat (first | refine blk_drewN ?_ _ | refine blk_drew ?_ | refine blk_alloc ?_ _)); exact BK205.out⟩, ⟨by repeat (first | (with_reducible first | exact HI198.out | apply IsS89.alloc | apply IsS89.drewN | apply IsS89.drew | apply IsS89.set_0 | apply IsS89.set_1 | apply IsS89.set_2 | refine IsS89.far ?_ NB198_205.out _) | exact HI198.out)⟩, ⟨by repeat (first | (with_reducible first | exact HB.out | apply below_alloc | apply pw_below_drewN | apply below_drew1 | refine below_set ?_ (IsS89.ge HI198.out) | refine below_set ?_ GE205.out) | exact HB.out)⟩⟩
                    · replace c34 := Bool.eq_false_iff.mpr c34
                      subst c34
                      have H1 : (some false) = some r := by rw [if_neg (show ¬ (false = true) by decide)] at H; exact H
                      clear H
                      have H := H1
                      clear H1
                      obtain rfl := Option.some.inj H
                      go_wp2_with (first | ((with_reducible refine gate_callee (f := 32) rfl ?_); refine goesL_ (some 65) rfl rfl Try.func32 (by kernel_rfl) rfl #[.pointer (some ⟨g198, 0, none⟩), .int .i64 a2] rfl (by (try simp only [List.map_toArray, List.map_cons, List.map_nil]); first | done | rfl | (simp only [List.length_drop, List.length_take]; rfl)) ?_; (with_reducible refine (life_Life_Do.calls kj24 g198 x199000_7 x199001_7 x199002_7 a2 t215 false t217 t218 t219 t220 w _ ?side1 ?side2 A29.out).mono ?_); (case side1 => repeat (first | (with_reducible first | exact HI198.out | apply IsS89.alloc | apply IsS89.drewN | apply IsS89.drew | apply IsS89.set_0 | apply IsS89.set_1 | apply IsS89.set_2 | refine IsS89.far ?_ NB198_205.out _) | exact HI198.out)); (case side2 => repeat (first | (with_reducible first | exact HB.out | apply below_alloc | apply pw_below_drewN | apply below_drew1 | refine below_set ?_ (IsS89.ge HI198.out) | refine below_set ?_ GE205.out) | exact HB.out)); rintro e w39 ⟨rfl, hi, hb, hk⟩; refine ⟨_, rfl, ?_⟩; have n0_ := Aside0.mk (KeepBut.blk hk (g' := gb205) (o := .cells #[.int .i64 x206000_7, .int .i64 x206001_7, .int .i64 x206002_7, .int .i64 x206003_7] 69 (0, 0)) (by (with_reducible repeat (first | refine blk_drewN ?_ _ | refine blk_drew ?_ | refine blk_alloc ?_ _)); exact BK205.out) NB205_198.out (by simp)); have n1_ := Aside0.mk (hb); have n2_ := Aside0.mk (hi); clear BK205; clear HB; clear HI198; have BK205 := n0_; have HB := n1_; have HI198 := n2_; clear n0_ n1_ n2_; (try clear hb); (try clear hb2); (try clear hk); (try clear hi); have hnb40 := NB205_198.out; have hnc40 := NB198_205.out; have hcz41_0 : w39.cell? ⟨gb205, 0, none⟩ = some (.int .i64 x206000_7) := (blk_cell BK205.out 0).trans rfl; have hcz41_1 : w39.cell? ⟨gb205, 1, none⟩ = some (.int .i64 x206001_7) := (blk_cell BK205.out 1).trans rfl; have hcz41_2 : w39.cell? ⟨gb205, 2, none⟩ = some (.int .i64 x206002_7) := (blk_cell BK205.out 2).trans rfl; have hcz41_3 : w39.cell? ⟨gb205, 3, none⟩ = some (.int .i64 x206003_7) := (blk_cell BK205.out 3).trans rfl; have hfz41_0 := blk_frozen BK205.out 0; have hfz41_1 := blk_frozen BK205.out 1; have hfz41_2 := blk_frozen BK205.out 2; have hfz41_3 := blk_frozen BK205.out 3) | (go_at_call 38; (with_reducible refine (monocoquelaw32_same.calls g198 t218 t219 t220 x206000_7 x206001_7 x206002_7 x206003_7 false t222 t223 t224 w _ ?side1 ?side2 A33.out).mono ?_); (case side1 => repeat (first | (with_reducible first | exact HI198.out | apply IsS89.alloc | apply IsS89.drewN | apply IsS89.drew | apply IsS89.set_0 | apply IsS89.set_1 | apply IsS89.set_2 | refine IsS89.far ?_ NB198_205.out _) | exact HI198.out)); (case side2 => repeat (first | (with_reducible first | exact HB.out | apply below_alloc | apply pw_below_drewN | apply below_drew1 | refine below_set ?_ (IsS89.ge HI198.out) | refine below_set ?_ GE205.out) | exact HB.out)); rintro e w42 ⟨rfl, hi, hb, hk⟩; have n0_ := Aside0.mk (KeepBut.blk hk (g' := gb205) (o := .cells #[.int .i64 x206000_7, .int .i64 x206001_7, .int .i64 x206002_7, .int .i64 x206003_7] 69 (0, 0)) (by (with_reducible repeat (first | refine blk_drewN ?_ _ | refine blk_drew ?_ | refine blk_alloc ?_ _)); exact BK205.out) NB205_198.out (by simp)); have n1_ := Aside0.mk (hb); have n2_ := Aside0.mk (hi); clear BK205; clear HB; clear HI198; have BK205 := n0_; have HB := n1_; have HI198 := n2_; clear n0_ n1_ n2_; (try clear hb); (try clear hb2); (try clear hk); (try clear hi)))
                      go_ret
                      exact ⟨by first | rfl | (simp [errW_none, errW_some] <;> rfl) | (simp [*, errW_none, errW_some] <;> rfl), by repeat (first | (with_reducible first | exact HB.out | apply below_alloc | apply pw_below_drewN | apply below_drew1 | refine below_set ?_ (IsS89.ge HI198.out) | refine below_set ?_ GE205.out) | exact HB.out)⟩
                  · rw [if_neg c32] at H
                    have c32b0 : (t217 == 1) = false := beq_eq_false_iff_ne.mpr c32
                    have c32b1 : (t217 != 1) = true := bne_iff_ne.mpr c32
                    (first | rw [c32b0] | (simp only [i64_w, i32_w]; rw [c32b0]) | skip)
                    obtain rfl := Option.some.inj H
                    go_wp2_with (first | ((with_reducible refine gate_callee (f := 32) rfl ?_); refine goesL_ (some 65) rfl rfl Try.func32 (by kernel_rfl) rfl #[.pointer (some ⟨g198, 0, none⟩), .int .i64 a2] rfl (by (try simp only [List.map_toArray, List.map_cons, List.map_nil]); first | done | rfl | (simp only [List.length_drop, List.length_take]; rfl)) ?_; (with_reducible refine (life_Life_Do.calls kj24 g198 x199000_7 x199001_7 x199002_7 a2 t215 false t217 t218 t219 t220 w _ ?side1 ?side2 A29.out).mono ?_); (case side1 => repeat (first | (with_reducible first | exact HI198.out | apply IsS89.alloc | apply IsS89.drewN | apply IsS89.drew | apply IsS89.set_0 | apply IsS89.set_1 | apply IsS89.set_2 | refine IsS89.far ?_ NB198_205.out _) | exact HI198.out)); (case side2 => repeat (first | (with_reducible first | exact HB.out | apply below_alloc | apply pw_below_drewN | apply below_drew1 | refine below_set ?_ (IsS89.ge HI198.out) | refine below_set ?_ GE205.out) | exact HB.out)); rintro e w43 ⟨rfl, hi, hb, hk⟩; refine ⟨_, rfl, ?_⟩; have n0_ := Aside0.mk (KeepBut.blk hk (g' := gb205) (o := .cells #[.int .i64 x206000_7, .int .i64 x206001_7, .int .i64 x206002_7, .int .i64 x206003_7] 69 (0, 0)) (by (with_reducible repeat (first | refine blk_drewN ?_ _ | refine blk_drew ?_ | refine blk_alloc ?_ _)); exact BK205.out) NB205_198.out (by simp)); have n1_ := Aside0.mk (hb); have n2_ := Aside0.mk (hi); clear BK205; clear HB; clear HI198; have BK205 := n0_; have HB := n1_; have HI198 := n2_; clear n0_ n1_ n2_; (try clear hb); (try clear hb2); (try clear hk); (try clear hi)))
                    go_ret
                    exact ⟨by first | rfl | (simp [errW_none, errW_some] <;> rfl) | (simp [*, errW_none, errW_some] <;> rfl), by repeat (first | (with_reducible first | exact HB.out | apply below_alloc | apply pw_below_drewN | apply below_drew1 | refine below_set ?_ (IsS89.ge HI198.out) | refine below_set ?_ GE205.out) | exact HB.out)⟩
              · replace c28 := Bool.eq_false_iff.mpr c28
                subst c28
                have H1 : (monocoquelaw32_LifeRefused.j3 kj24 x199000_7 x199001_7 x199002_7 x206000_7 x206001_7 x206002_7 x206003_7) = some r := by rw [if_neg (show ¬ (false = true) by decide)] at H; exact H
                clear H
                have H := H1
                clear H1
                have H' := Aside0.mk H
                clear H
                go_wp2
                go_meet
                case rel => exact ⟨_, (x199000_7), (x199001_7), (x199002_7), H', ⟨by have := HJ7.out; have := HJ24.out; first | omega | exact Nat.le_refl _⟩, ⟨by (with_reducible repeat (first | refine blk_drewN ?_ _ | refine blk_drew ?_ | refine blk_alloc ?_ _)); exact BK205.out⟩, ⟨by repeat (first | (with_reducible first | exact HI198.out | apply IsS89.alloc | apply IsS89.drewN | apply IsS89.drew | apply IsS89.set_0 | apply IsS89.set_1 | apply IsS89.set_2 | refine IsS89.far ?_ NB198_205.out _) | exact HI198.out)⟩, ⟨by repeat (first | (with_reducible first | exact HB.out | apply below_alloc | apply pw_below_drewN | apply below_drew1 | refine below_set ?_ (IsS89.ge HI198.out) | refine below_set ?_ GE205.out) | exact HB.out)⟩⟩
            case rest =>
              clear HC27
              try clear c1
              try clear c2
              try clear p2
              try clear q2
              try clear hx2
              try clear c3
              try clear c4
              try clear c6
              try clear p6
              try clear c12
              try clear c13
              try clear c15
              try clear c15b0
              try clear c16
              try clear c16b0
              try clear c17
              try clear c17b0
              try clear p20
              try clear q20
              try clear hx20
              try clear c26
              try clear c26b0
              try clear c28
              try clear c29
              try clear c30
              try clear c32
              try clear c32b0
              try clear c32b1
              try clear c34
              try clear c36
              try clear c37
              try clear c40
              try clear hcz14_0
              try clear hcz14_1
              try clear hcz14_2
              try clear hcz14_3
              try clear hcz37_0
              try clear hcz37_1
              try clear hcz37_2
              try clear hcz37_3
              try clear hcz41_0
              try clear hcz41_1
              try clear hcz41_2
              try clear hcz41_3
              try clear hfz14_0
              try clear hfz14_1
              try clear hfz14_2
              try clear hfz14_3
              try clear hfz37_0
              try clear hfz37_1
              try clear hfz37_2
              try clear hfz37_3
              try clear hfz41_0
              try clear hfz41_1
              try clear hfz41_2
              try clear hfz41_3
              try clear hx206_0
              try clear p2
              try clear p20
              try clear p206
              try clear p6
              try clear q2
              try clear q20
              try clear q206
              obtain ⟨kq, x199000_26, x199001_26, x199002_26, HA, HJ26, BK205, HI198, HB⟩ := hcut
              cases kq with
              | zero => exact absurd HA.out (by simp [monocoquelaw32_LifeRefused.j3])
              | succ kj26 =>
                have H := HA.out
                clear HA
                simp only [monocoquelaw32_LifeRefused.j3] at H
                have HC44 := Aside0.mk H
                clear H
                have hnb45 := NB205_198.out
                have hnc45 := NB198_205.out
                have hcz46_0 : wc.cell? ⟨gb205, 0, none⟩ = some (.int .i64 x206000_7) := (blk_cell BK205.out 0).trans rfl
                have hcz46_1 : wc.cell? ⟨gb205, 1, none⟩ = some (.int .i64 x206001_7) := (blk_cell BK205.out 1).trans rfl
                have hcz46_2 : wc.cell? ⟨gb205, 2, none⟩ = some (.int .i64 x206002_7) := (blk_cell BK205.out 2).trans rfl
                have hcz46_3 : wc.cell? ⟨gb205, 3, none⟩ = some (.int .i64 x206003_7) := (blk_cell BK205.out 3).trans rfl
                have hfz46_0 := blk_frozen BK205.out 0
                have hfz46_1 := blk_frozen BK205.out 1
                have hfz46_2 := blk_frozen BK205.out 2
                have hfz46_3 := blk_frozen BK205.out 3
                go_upto_if 82 with (fail)
                go_cut [] (fun wc => ∃ (kq : Nat) (x199000_43 : Int) (x199001_43 : Int) (x199002_43 : Int), Aside0 (monocoquelaw32_LifeRefused.j5 kq x199000_43 x199001_43 x199002_43 x206000_7 x206001_7 x206002_7 x206003_7 = some r) ∧ Aside0 (kq ≤ kj26) ∧ Aside0 (wc.heap[gb205]? = some (.cells #[.int .i64 x206000_7, .int .i64 x206001_7, .int .i64 x206002_7, .int .i64 x206003_7] 69 (0, 0))) ∧ Aside0 (IsS89 w wc g198 x199000_43 x199001_43 x199002_43) ∧ Aside0 (Below w.heap.size w wc))
                case first =>
                  have H := HC44.out
                  clear HC44
                  by_cases c47 : x206000_7 = 0
                  · rw [if_pos c47] at H
                    have c47b0 : (x206000_7 == 0) = true := beq_iff_eq.mpr c47
                    have c47b1 : (x206000_7 != 0) = false := bne_eq_false_iff_eq.mpr c47
                    clear c47
                    (first | rw [c47b0] | (simp only [i64_w, i32_w]; rw [c47b0]) | skip)
                    have H' := Aside0.mk H
                    clear H
                    go_wp2
                    go_loopg [15] kj26 (fun kq v15 w' => ∃ (x15_4 : Int) (x199000_4 : Int) (x199001_4 : Int) (x199002_4 : Int), v15 = .int .i64 x15_4 ∧ Aside0 (monocoquelaw32_LifeRefused.l1 kq x15_4 x199000_4 x199001_4 x199002_4 x206000_7 x206001_7 x206002_7 x206003_7 = some r) ∧ Aside0 (kq ≤ kj26) ∧ Aside0 (w'.heap[gb205]? = some (.cells #[.int .i64 x206000_7, .int .i64 x206001_7, .int .i64 x206002_7, .int .i64 x206003_7] 69 (0, 0))) ∧ Aside0 (IsS89 w w' g198 x199000_4 x199001_4 x199002_4) ∧ Aside0 (Below w.heap.size w w'))
                    case atStart => exact ⟨(4), (x199000_26), (x199001_26), (x199002_26), (by first | rfl | (simp; done) | (simp [*]; done)), H', ⟨Nat.le_refl _⟩, ⟨by (with_reducible repeat (first | refine blk_drewN ?_ _ | refine blk_drew ?_ | refine blk_alloc ?_ _)); exact BK205.out⟩, ⟨by repeat (first | (with_reducible first | exact HI198.out | apply IsS89.alloc | apply IsS89.drewN | apply IsS89.drew | apply IsS89.set_0 | apply IsS89.set_1 | apply IsS89.set_2 | refine IsS89.far ?_ NB198_205.out _) | exact HI198.out)⟩, ⟨by repeat (first | (with_reducible first | exact HB.out | apply below_alloc | apply pw_below_drewN | apply below_drew1 | refine below_set ?_ (IsS89.ge HI198.out) | refine below_set ?_ GE205.out) | exact HB.out)⟩⟩
                    case round =>
                      clear H'
                      try clear c1
                      try clear c2
                      try clear p2
                      try clear q2
                      try clear hx2
                      try clear c3
                      try clear c4
                      try clear c6
                      try clear p6
                      try clear c12
                      try clear c13
                      try clear c15
                      try clear c15b0
                      try clear c16
                      try clear c16b0
                      try clear c17
                      try clear c17b0
                      try clear p20
                      try clear q20
                      try clear hx20
                      try clear c26
                      try clear c26b0
                      try clear c28
                      try clear c29
                      try clear c30
                      try clear c32
                      try clear c32b0
                      try clear c32b1
                      try clear c34
                      try clear c36
                      try clear c37
                      try clear c40
                      try clear c45
                      try clear c47
                      try clear c47b0
                      try clear c47b1
                      try clear hcz14_0
                      try clear hcz14_1
                      try clear hcz14_2
                      try clear hcz14_3
                      try clear hcz37_0
                      try clear hcz37_1
                      try clear hcz37_2
                      try clear hcz37_3
                      try clear hcz41_0
                      try clear hcz41_1
                      try clear hcz41_2
                      try clear hcz41_3
                      try clear hcz46_0
                      try clear hcz46_1
                      try clear hcz46_2
                      try clear hcz46_3
                      try clear hfz14_0
                      try clear hfz14_1
                      try clear hfz14_2
                      try clear hfz14_3
                      try clear hfz37_0
                      try clear hfz37_1
                      try clear hfz37_2
                      try clear hfz37_3
                      try clear hfz41_0
                      try clear hfz41_1
                      try clear hfz41_2
                      try clear hfz41_3
                      try clear hfz46_0
                      try clear hfz46_1
                      try clear hfz46_2
                      try clear hfz46_3
                      try clear hx206_0
                      try clear p2
                      try clear p20
                      try clear p206
                      try clear p6
                      try clear q2
                      try clear q20
                      try clear q206
                      obtain ⟨x15_4, x199000_4, x199001_4, x199002_4, rfl, HA, HK4, BK205, HI198, HB⟩ := hrel
                      cases gk with
                      | zero => exact absurd HA.out (by simp [monocoquelaw32_LifeRefused.l1])
                      | succ k4 =>
                        have H := HA.out
                        clear HA
                        simp only [monocoquelaw32_LifeRefused.l1] at H
                        by_cases c48 : x15_4 ≤ 6
                        · rw [if_pos c48] at H
                          have c48b0 : decide (x15_4 ≤ 6) = true := decide_eq_true c48
                          clear c48
                          replace H := Option.bind_eq_some_iff.mp H
                          obtain ⟨⟨t225, t226, t227, t228, t229, t230⟩, A490, H⟩ := H
                          replace H : (if t226 = true then (some false) else (if t227 = 19 then ((monocoquelaw32_same.f t228 t229 t230 x206000_7 x206001_7 x206002_7 x206003_7).bind fun bt231 => (if bt231.1 = true then (monocoquelaw32_LifeRefused.l1 k4 (wrap64 (x15_4 + 1)) bt231.2.1 bt231.2.2.1 bt231.2.2.2 x206000_7 x206001_7 x206002_7 x206003_7) else (some false))) else (some false))) = some r := H
                          have A49 := Aside0.mk A490
                          clear A490
                          by_cases c50 : t226 = true
                          · subst c50
                            have H1 : (some false) = some r := by rw [if_pos rfl] at H; exact H
                            clear H
                            have H := H1
                            clear H1
                            obtain rfl := Option.some.inj H
                            go_wp2_with (first | ((with_reducible refine gate_callee (f := 32) rfl ?_); refine goesL_ (some 90) rfl rfl Try.func32 (by kernel_rfl) rfl #[.pointer (some ⟨g198, 0, none⟩), .int .i64 x15_4] rfl (by (try simp only [List.map_toArray, List.map_cons, List.map_nil]); first | done | rfl | (simp only [List.length_drop, List.length_take]; rfl)) ?_; (with_reducible refine (life_Life_Do.calls k4 g198 x199000_4 x199001_4 x199002_4 x15_4 t225 true t227 t228 t229 t230 w _ ?side1 ?side2 A49.out).mono ?_); (case side1 => repeat (first | (with_reducible first | exact HI198.out | apply IsS89.alloc | apply IsS89.drewN | apply IsS89.drew | apply IsS89.set_0 | apply IsS89.set_1 | apply IsS89.set_2 | refine IsS89.far ?_ NB198_205.out _) | exact HI198.out)); (case side2 => repeat (first | (with_reducible first | exact HB.out | apply below_alloc | apply pw_below_drewN | apply below_drew1 | refine below_set ?_ (IsS89.ge HI198.out) | refine below_set ?_ GE205.out) | exact HB.out)); rintro e w51 ⟨rfl, hi, hb, hk⟩; refine ⟨_, rfl, ?_⟩; have n0_ := Aside0.mk (KeepBut.blk hk (g' := gb205) (o := .cells #[.int .i64 x206000_7, .int .i64 x206001_7, .int .i64 x206002_7, .int .i64 x206003_7] 69 (0, 0)) (by (with_reducible repeat (first | refine blk_drewN ?_ _ | refine blk_drew ?_ | refine blk_alloc ?_ _)); exact BK205.out) NB205_198.out (by simp)); have n1_ := Aside0.mk (hb); have n2_ := Aside0.mk (hi); clear BK205; clear HB; clear HI198; have BK205 := n0_; have HB := n1_; have HI198 := n2_; clear n0_ n1_ n2_; (try clear hb); (try clear hb2); (try clear hk); (try clear hi)))
                            go_ret
                            exact ⟨by first | rfl | (simp [errW_none, errW_some] <;> rfl) | (simp [*, errW_none, errW_some] <;> rfl), by repeat (first | (with_reducible first | exact HB.out | apply below_alloc | apply pw_below_drewN | apply below_drew1 | refine below_set ?_ (IsS89.ge HI198.out) | refine below_set ?_ GE205.out) | exact HB.out)⟩
                          · replace c50 := Bool.eq_false_iff.mpr c50
                            subst c50
                            have H1 : (if t227 = 19 then ((monocoquelaw32_same.f t228 t229 t230 x206000_7 x206001_7 x206002_7 x206003_7).bind fun bt231 => (if bt231.1 = true then (monocoquelaw32_LifeRefused.l1 k4 (wrap64 (x15_4 + 1)) bt231.2.1 bt231.2.2.1 bt231.2.2.2 x206000_7 x206001_7 x206002_7 x206003_7) else (some false))) else (some false)) = some r := by rw [if_neg (show ¬ (false = true) by decide)] at H; exact H
                            clear H
                            have H := H1
                            clear H1
                            by_cases c52 : t227 = 19
                            · rw [if_pos c52] at H
                              have c52b0 : (t227 == 19) = true := beq_iff_eq.mpr c52
                              have c52b1 : (t227 != 19) = false := bne_eq_false_iff_eq.mpr c52
                              clear c52
                              replace H := Option.bind_eq_some_iff.mp H
                              obtain ⟨⟨t231, t232, t233, t234⟩, A530, H⟩ := H
                              replace H : (if t231 = true then (monocoquelaw32_LifeRefused.l1 k4 (wrap64 (x15_4 + 1)) t232 t233 t234 x206000_7 x206001_7 x206002_7 x206003_7) else (some false)) = some r := H
                              have A53 := Aside0.mk A530
                              clear A530
                              by_cases c54 : t231 = true
                              · subst c54
                                have H1 : (monocoquelaw32_LifeRefused.l1 k4 (wrap64 (x15_4 + 1)) t232 t233 t234 x206000_7 x206001_7 x206002_7 x206003_7) = some r := by rw [if_pos rfl] at H; exact H
                                clear H
                                have H := H1
                                clear H1
                                have H' := Aside0.mk H
                                clear H
                                go_wp2_with (first | ((with_reducible refine gate_callee (f := 32) rfl ?_); refine goesL_ (some 90) rfl rfl Try.func32 (by kernel_rfl) rfl #[.pointer (some ⟨g198, 0, none⟩), .int .i64 x15_4] rfl (by (try simp only [List.map_toArray, List.map_cons, List.map_nil]); first | done | rfl | (simp only [List.length_drop, List.length_take]; rfl)) ?_; (with_reducible refine (life_Life_Do.calls k4 g198 x199000_4 x199001_4 x199002_4 x15_4 t225 false t227 t228 t229 t230 w _ ?side1 ?side2 A49.out).mono ?_); (case side1 => repeat (first | (with_reducible first | exact HI198.out | apply IsS89.alloc | apply IsS89.drewN | apply IsS89.drew | apply IsS89.set_0 | apply IsS89.set_1 | apply IsS89.set_2 | refine IsS89.far ?_ NB198_205.out _) | exact HI198.out)); (case side2 => repeat (first | (with_reducible first | exact HB.out | apply below_alloc | apply pw_below_drewN | apply below_drew1 | refine below_set ?_ (IsS89.ge HI198.out) | refine below_set ?_ GE205.out) | exact HB.out)); rintro e w55 ⟨rfl, hi, hb, hk⟩; refine ⟨_, rfl, ?_⟩; have n0_ := Aside0.mk (KeepBut.blk hk (g' := gb205) (o := .cells #[.int .i64 x206000_7, .int .i64 x206001_7, .int .i64 x206002_7, .int .i64 x206003_7] 69 (0, 0)) (by (with_reducible repeat (first | refine blk_drewN ?_ _ | refine blk_drew ?_ | refine blk_alloc ?_ _)); exact BK205.out) NB205_198.out (by simp)); have n1_ := Aside0.mk (hb); have n2_ := Aside0.mk (hi); clear BK205; clear HB; clear HI198; have BK205 := n0_; have HB := n1_; have HI198 := n2_; clear n0_ n1_ n2_; (try clear hb); (try clear hb2); (try clear hk); (try clear hi); have hnb56 := NB205_198.out; have hnc56 := NB198_205.out; have hcz57_0 : w55.cell? ⟨gb205, 0, none⟩ = some (.int .i64 x206000_7) := (blk_cell BK205.out 0).trans rfl; have hcz57_1 : w55.cell? ⟨gb205, 1, none⟩ = some (.int .i64 x206001_7) := (blk_cell BK205.out 1).trans rfl; have hcz57_2 : w55.cell? ⟨gb205, 2, none⟩ = some (.int .i64 x206002_7) := (blk_cell BK205.out 2).trans rfl; have hcz57_3 : w55.cell? ⟨gb205, 3, none⟩ = some (.int .i64 x206003_7) := (blk_cell BK205.out 3).trans rfl; have hfz57_0 := blk_frozen BK205.out 0; have hfz57_1 := blk_frozen BK205.out 1; have hfz57_2 := blk_frozen BK205.out 2; have hfz57_3 := blk_frozen BK205.out 3) | (go_at_call 38; (with_reducible refine (monocoquelaw32_same.calls g198 t228 t229 t230 x206000_7 x206001_7 x206002_7 x206003_7 true t232 t233 t234 w _ ?side1 ?side2 A53.out).mono ?_); (case side1 => repeat (first | (with_reducible first | exact HI198.out | apply IsS89.alloc | apply IsS89.drewN | apply IsS89.drew | apply IsS89.set_0 | apply IsS89.set_1 | apply IsS89.set_2 | refine IsS89.far ?_ NB198_205.out _) | exact HI198.out)); (case side2 => repeat (first | (with_reducible first | exact HB.out | apply below_alloc | apply pw_below_drewN | apply below_drew1 | refine below_set ?_ (IsS89.ge HI198.out) | refine below_set ?_ GE205.out) | exact HB.out)); rintro e w58 ⟨rfl, hi, hb, hk⟩; have n0_ := Aside0.mk (KeepBut.blk hk (g' := gb205) (o := .cells #[.int .i64 x206000_7, .int .i64 x206001_7, .int .i64 x206002_7, .int .i64 x206003_7] 69 (0, 0)) (by (with_reducible repeat (first | refine blk_drewN ?_ _ | refine blk_drew ?_ | refine blk_alloc ?_ _)); exact BK205.out) NB205_198.out (by simp)); have n1_ := Aside0.mk (hb); have n2_ := Aside0.mk (hi); clear BK205; clear HB; clear HI198; have BK205 := n0_; have HB := n1_; have HI198 := n2_; clear n0_ n1_ n2_; (try clear hb); (try clear hb2); (try clear hk); (try clear hi)))
                                go_roundg k4
                                case measure => have := HJ7.out; have := HJ24.out; have := HJ26.out; have := HK4.out; omega
                                case rel => exact ⟨(wrap64 (x15_4 + 1)), (t232), (t233), (t234), (by first | rfl | (simp; done) | (simp [*]; done)), H', ⟨by have := HJ7.out; have := HJ24.out; have := HJ26.out; have := HK4.out; omega⟩, ⟨by (with_reducible repeat (first | refine blk_drewN ?_ _ | refine blk_drew ?_ | refine blk_alloc ?_ _)); exact BK205.out⟩, ⟨by repeat (first | (with_reducible first | exact HI198.out | apply IsS89.alloc | apply IsS89.drewN | apply IsS89.drew | apply IsS89.set_0 | apply IsS89.set_1 | apply IsS89.set_2 | refine IsS89.far ?_ NB198_205.out _) | exact HI198.out)⟩, ⟨by repeat (first | (with_reducible first | exact HB.out | apply below_alloc | apply pw_below_drewN | apply below_drew1 | refine below_set ?_ (IsS89.ge HI198.out) | refine below_set ?_ GE205.out) | exact HB.out)⟩⟩
                              · replace c54 := Bool.eq_false_iff.mpr c54
                                subst c54
                                have H1 : (some false) = some r := by rw [if_neg (show ¬ (false = true) by decide)] at H; exact H
                                clear H
                                have H := H1
                                clear H1
                                obtain rfl := Option.some.inj H
                                go_wp2_with (first | ((with_reducible refine gate_callee (f := 32) rfl ?_); refine goesL_ (some 90) rfl rfl Try.func32 (by kernel_rfl) rfl #[.pointer (some ⟨g198, 0, none⟩), .int .i64 x15_4] rfl (by (try simp only [List.map_toArray, List.map_cons, List.map_nil]); first | done | rfl | (simp only [List.length_drop, List.length_take]; rfl)) ?_; (with_reducible refine (life_Life_Do.calls k4 g198 x199000_4 x199001_4 x199002_4 x15_4 t225 false t227 t228 t229 t230 w _ ?side1 ?side2 A49.out).mono ?_); (case side1 => repeat (first | (with_reducible first | exact HI198.out | apply IsS89.alloc | apply IsS89.drewN | apply IsS89.drew | apply IsS89.set_0 | apply IsS89.set_1 | apply IsS89.set_2 | refine IsS89.far ?_ NB198_205.out _) | exact HI198.out)); (case side2 => repeat (first | (with_reducible first | exact HB.out | apply below_alloc | apply pw_below_drewN | apply below_drew1 | refine below_set ?_ (IsS89.ge HI198.out) | refine below_set ?_ GE205.out) | exact HB.out)); rintro e w59 ⟨rfl, hi, hb, hk⟩; refine ⟨_, rfl, ?_⟩; have n0_ := Aside0.mk (KeepBut.blk hk (g' := gb205) (o := .cells #[.int .i64 x206000_7, .int .i64 x206001_7, .int .i64 x206002_7, .int .i64 x206003_7] 69 (0, 0)) (by (with_reducible repeat (first | refine blk_drewN ?_ _ | refine blk_drew ?_ | refine blk_alloc ?_ _)); exact BK205.out) NB205_198.out (by simp)); have n1_ := Aside0.mk (hb); have n2_ := Aside0.mk (hi); clear BK205; clear HB; clear HI198; have BK205 := n0_; have HB := n1_; have HI198 := n2_; clear n0_ n1_ n2_; (try clear hb); (try clear hb2); (try clear hk); (try clear hi); have hnb60 := NB205_198.out; have hnc60 := NB198_205.out; have hcz61_0 : w59.cell? ⟨gb205, 0, none⟩ = some (.int .i64 x206000_7) := (blk_cell BK205.out 0).trans rfl; have hcz61_1 : w59.cell? ⟨gb205, 1, none⟩ = some (.int .i64 x206001_7) := (blk_cell BK205.out 1).trans rfl; have hcz61_2 : w59.cell? ⟨gb205, 2, none⟩ = some (.int .i64 x206002_7) := (blk_cell BK205.out 2).trans rfl; have hcz61_3 : w59.cell? ⟨gb205, 3, none⟩ = some (.int .i64 x206003_7) := (blk_cell BK205.out 3).trans rfl; have hfz61_0 := blk_frozen BK205.out 0; have hfz61_1 := blk_frozen BK205.out 1; have hfz61_2 := blk_frozen BK205.out 2; have hfz61_3 := blk_frozen BK205.out 3) | (go_at_call 38; (with_reducible refine (monocoquelaw32_same.calls g198 t228 t229 t230 x206000_7 x206001_7 x206002_7 x206003_7 false t232 t233 t234 w _ ?side1 ?side2 A53.out).mono ?_); (case side1 => repeat (first | (with_reducible first | exact HI198.out | apply IsS89.alloc | apply IsS89.drewN | apply IsS89.drew | apply IsS89.set_0 | apply IsS89.set_1 | apply IsS89.set_2 | refine IsS89.far ?_ NB198_205.out _) | exact HI198.out)); (case side2 => repeat (first | (with_reducible first | exact HB.out | apply below_alloc | apply pw_below_drewN | apply below_drew1 | refine below_set ?_ (IsS89.ge HI198.out) | refine below_set ?_ GE205.out) | exact HB.out)); rintro e w62 ⟨rfl, hi, hb, hk⟩; have n0_ := Aside0.mk (KeepBut.blk hk (g' := gb205) (o := .cells #[.int .i64 x206000_7, .int .i64 x206001_7, .int .i64 x206002_7, .int .i64 x206003_7] 69 (0, 0)) (by (with_reducible repeat (first | refine blk_drewN ?_ _ | refine blk_drew ?_ | refine blk_alloc ?_ _)); exact BK205.out) NB205_198.out (by simp)); have n1_ := Aside0.mk (hb); have n2_ := Aside0.mk (hi); clear BK205; clear HB; clear HI198; have BK205 := n0_; have HB := n1_; have HI198 := n2_; clear n0_ n1_ n2_; (try clear hb); (try clear hb2); (try clear hk); (try clear hi)))
                                go_ret
                                exact ⟨by first | rfl | (simp [errW_none, errW_some] <;> rfl) | (simp [*, errW_none, errW_some] <;> rfl), by repeat (first | (with_reducible first | exact HB.out | apply below_alloc | apply pw_below_drewN | apply below_drew1 | refine below_set ?_ (IsS89.ge HI198.out) | refine below_set ?_ GE205.out) | exact HB.out)⟩
                            · rw [if_neg c52] at H
                              have c52b0 : (t227 == 19) = false := beq_eq_false_iff_ne.mpr c52
                              have c52b1 : (t227 != 19) = true := bne_iff_ne.mpr c52
                              obtain rfl := Option.some.inj H
                              go_wp2_with (first | ((with_reducible refine gate_callee (f := 32) rfl ?_); refine goesL_ (some 90) rfl rfl Try.func32 (by kernel_rfl) rfl #[.pointer (some ⟨g198, 0, none⟩), .int .i64 x15_4] rfl (by (try simp only [List.map_toArray, List.map_cons, List.map_nil]); first | done | rfl | (simp only [List.length_drop, List.length_take]; rfl)) ?_; (with_reducible refine (life_Life_Do.calls k4 g198 x199000_4 x199001_4 x199002_4 x15_4 t225 false t227 t228 t229 t230 w _ ?side1 ?side2 A49.out).mono ?_); (case side1 => repeat (first | (with_reducible first | exact HI198.out | apply IsS89.alloc | apply IsS89.drewN | apply IsS89.drew | apply IsS89.set_0 | apply IsS89.set_1 | apply IsS89.set_2 | refine IsS89.far ?_ NB198_205.out _) | exact HI198.out)); (case side2 => repeat (first | (with_reducible first | exact HB.out | apply below_alloc | apply pw_below_drewN | apply below_drew1 | refine below_set ?_ (IsS89.ge HI198.out) | refine below_set ?_ GE205.out) | exact HB.out)); rintro e w63 ⟨rfl, hi, hb, hk⟩; refine ⟨_, rfl, ?_⟩; have n0_ := Aside0.mk (KeepBut.blk hk (g' := gb205) (o := .cells #[.int .i64 x206000_7, .int .i64 x206001_7, .int .i64 x206002_7, .int .i64 x206003_7] 69 (0, 0)) (by (with_reducible repeat (first | refine blk_drewN ?_ _ | refine blk_drew ?_ | refine blk_alloc ?_ _)); exact BK205.out) NB205_198.out (by simp)); have n1_ := Aside0.mk (hb); have n2_ := Aside0.mk (hi); clear BK205; clear HB; clear HI198; have BK205 := n0_; have HB := n1_; have HI198 := n2_; clear n0_ n1_ n2_; (try clear hb); (try clear hb2); (try clear hk); (try clear hi)))
                              go_ret
                              exact ⟨by first | rfl | (simp [errW_none, errW_some] <;> rfl) | (simp [*, errW_none, errW_some] <;> rfl), by repeat (first | (with_reducible first | exact HB.out | apply below_alloc | apply pw_below_drewN | apply below_drew1 | refine below_set ?_ (IsS89.ge HI198.out) | refine below_set ?_ GE205.out) | exact HB.out)⟩
                        · rw [if_neg c48] at H
                          have c48b0 : decide (x15_4 ≤ 6) = false := decide_eq_false c48
                          clear c48
                          have H' := Aside0.mk H
                          clear H
                          go_wp2
                          go_meet
                          case rel => exact ⟨_, (x199000_4), (x199001_4), (x199002_4), H', ⟨by have := HJ7.out; have := HJ24.out; have := HJ26.out; have := HK4.out; first | omega | exact Nat.le_refl _⟩, ⟨by (with_reducible repeat (first | refine blk_drewN ?_ _ | refine blk_drew ?_ | refine blk_alloc ?_ _)); exact BK205.out⟩, ⟨by repeat (first | (with_reducible first | exact HI198.out | apply IsS89.alloc | apply IsS89.drewN | apply IsS89.drew | apply IsS89.set_0 | apply IsS89.set_1 | apply IsS89.set_2 | refine IsS89.far ?_ NB198_205.out _) | exact HI198.out)⟩, ⟨by repeat (first | (with_reducible first | exact HB.out | apply below_alloc | apply pw_below_drewN | apply below_drew1 | refine below_set ?_ (IsS89.ge HI198.out) | refine below_set ?_ GE205.out) | exact HB.out)⟩⟩
                  · rw [if_neg c47] at H
                    have c47b0 : (x206000_7 == 0) = false := beq_eq_false_iff_ne.mpr c47
                    have c47b1 : (x206000_7 != 0) = true := bne_iff_ne.mpr c47
                    (first | rw [c47b0] | (simp only [i64_w, i32_w]; rw [c47b0]) | skip)
                    have H' := Aside0.mk H
                    clear H
                    go_wp2
                    go_meet
                    case rel => exact ⟨_, (x199000_26), (x199001_26), (x199002_26), H', ⟨by have := HJ7.out; have := HJ24.out; have := HJ26.out; first | omega | exact Nat.le_refl _⟩, ⟨by (with_reducible repeat (first | refine blk_drewN ?_ _ | refine blk_drew ?_ | refine blk_alloc ?_ _)); exact BK205.out⟩, ⟨by repeat (first | (with_reducible first | exact HI198.out | apply IsS89.alloc | apply IsS89.drewN | apply IsS89.drew | apply IsS89.set_0 | apply IsS89.set_1 | apply IsS89.set_2 | refine IsS89.far ?_ NB198_205.out _) | exact HI198.out)⟩, ⟨by repeat (first | (with_reducible first | exact HB.out | apply below_alloc | apply pw_below_drewN | apply below_drew1 | refine below_set ?_ (IsS89.ge HI198.out) | refine below_set ?_ GE205.out) | exact HB.out)⟩⟩
                case rest =>
                  clear HC44
                  try clear c1
                  try clear c2
                  try clear p2
                  try clear q2
                  try clear hx2
                  try clear c3
                  try clear c4
                  try clear c5
                  try clear c6
                  try clear p6
                  try clear c12
                  try clear c13
                  try clear c15
                  try clear c15b0
                  try clear c16
                  try clear c16b0
                  try clear c17
                  try clear c17b0
                  try clear p20
                  try clear q20
                  try clear hx20
                  try clear c26
                  try clear c26b0
                  try clear c28
                  try clear c29
                  try clear c30
                  try clear c32
                  try clear c32b0
                  try clear c32b1
                  try clear c34
                  try clear c36
                  try clear c37
                  try clear c40
                  try clear c45
                  try clear c47
                  try clear c47b0
                  try clear c47b1
                  try clear c48
                  try clear c48b0
                  try clear c50
                  try clear c52
                  try clear c52b0
                  try clear c52b1
                  try clear c54
                  try clear c56
                  try clear c60
                  try clear hcz14_0
                  try clear hcz14_1
                  try clear hcz14_2
                  try clear hcz14_3
                  try clear hcz37_0
                  try clear hcz37_1
                  try clear hcz37_2
                  try clear hcz37_3
                  try clear hcz41_0
                  try clear hcz41_1
                  try clear hcz41_2
                  try clear hcz41_3
                  try clear hcz46_0
                  try clear hcz46_1
                  try clear hcz46_2
                  try clear hcz46_3
                  try clear hcz57_0
                  try clear hcz57_1
                  try clear hcz57_2
                  try clear hcz57_3
                  try clear hcz61_0
                  try clear hcz61_1
                  try clear hcz61_2
                  try clear hcz61_3
                  try clear hfz14_0
                  try clear hfz14_1
                  try clear hfz14_2
                  try clear hfz14_3
                  try clear hfz37_0
                  try clear hfz37_1
                  try clear hfz37_2
                  try clear hfz37_3
                  try clear hfz41_0
                  try clear hfz41_1
                  try clear hfz41_2
                  try clear hfz41_3
                  try clear hfz46_0
                  try clear hfz46_1
                  try clear hfz46_2
                  try clear hfz46_3
                  try clear hfz57_0
                  try clear hfz57_1
                  try clear hfz57_2
                  try clear hfz57_3
                  try clear hfz61_0
                  try clear hfz61_1
                  try clear hfz61_2
                  try clear hfz61_3
                  try clear hx206_0
                  try clear p2
                  try clear p20
                  try clear p206
                  try clear p6
                  try clear q2
                  try clear q20
                  try clear q206
                  obtain ⟨kq, x199000_43, x199001_43, x199002_43, HA, HJ43, BK205, HI198, HB⟩ := hcut
                  cases kq with
                  | zero => exact absurd HA.out (by simp [monocoquelaw32_LifeRefused.j5])
                  | succ kj43 =>
                    have H := HA.out
                    clear HA
                    simp only [monocoquelaw32_LifeRefused.j5] at H
                    have HC64 := Aside0.mk H
                    clear H
                    go_upto_region 21 with (fail)
                    go_cut [112] (fun v112 wc => ∃ (kq : Nat) (x112_63 : Bool), v112 = .bool x112_63 ∧ Aside0 (monocoquelaw32_LifeRefused.j6 kq x112_63 x199000_43 x199001_43 x199002_43 x206000_7 x206001_7 x206002_7 x206003_7 = some r) ∧ Aside0 (kq ≤ kj43) ∧ Aside0 (wc.heap[gb205]? = some (.cells #[.int .i64 x206000_7, .int .i64 x206001_7, .int .i64 x206002_7, .int .i64 x206003_7] 69 (0, 0))) ∧ Aside0 (IsS89 w wc g198 x199000_43 x199001_43 x199002_43) ∧ Aside0 (Below w.heap.size w wc))
                    case first =>
                      have H := HC64.out
                      clear HC64
                      by_cases c65 : x206000_7 = 0
                      · rw [if_pos c65] at H
                        have c65b0 : (x206000_7 == 0) = true := beq_iff_eq.mpr c65
                        have c65b1 : (x206000_7 != 0) = false := bne_eq_false_iff_eq.mpr c65
                        clear c65
                        (first | rw [c65b0] | (simp only [i64_w, i32_w]; rw [c65b0]) | skip)
                        have H' := Aside0.mk H
                        clear H
                        have hnb66 := NB205_198.out
                        have hnc66 := NB198_205.out
                        have hcz67_0 : wc.cell? ⟨gb205, 0, none⟩ = some (.int .i64 x206000_7) := (blk_cell BK205.out 0).trans rfl
                        have hcz67_1 : wc.cell? ⟨gb205, 1, none⟩ = some (.int .i64 x206001_7) := (blk_cell BK205.out 1).trans rfl
                        have hcz67_2 : wc.cell? ⟨gb205, 2, none⟩ = some (.int .i64 x206002_7) := (blk_cell BK205.out 2).trans rfl
                        have hcz67_3 : wc.cell? ⟨gb205, 3, none⟩ = some (.int .i64 x206003_7) := (blk_cell BK205.out 3).trans rfl
                        have hfz67_0 := blk_frozen BK205.out 0
                        have hfz67_1 := blk_frozen BK205.out 1
                        have hfz67_2 := blk_frozen BK205.out 2
                        have hfz67_3 := blk_frozen BK205.out 3
                        go_wp2
                        go_meet
                        case rel => exact ⟨_, (true), (by first | rfl | (simp; done) | (simp [*]; done)), H', ⟨by have := HJ7.out; have := HJ24.out; have := HJ26.out; have := HJ43.out; first | omega | exact Nat.le_refl _⟩, ⟨by (with_reducible repeat (first | refine blk_drewN ?_ _ | refine blk_drew ?_ | refine blk_alloc ?_ _)); exact BK205.out⟩, ⟨by repeat (first | (with_reducible first | exact HI198.out | apply IsS89.alloc | apply IsS89.drewN | apply IsS89.drew | apply IsS89.set_0 | apply IsS89.set_1 | apply IsS89.set_2 | refine IsS89.far ?_ NB198_205.out _) | exact HI198.out)⟩, ⟨by repeat (first | (with_reducible first | exact HB.out | apply below_alloc | apply pw_below_drewN | apply below_drew1 | refine below_set ?_ (IsS89.ge HI198.out) | refine below_set ?_ GE205.out) | exact HB.out)⟩⟩
                      · rw [if_neg c65] at H
                        have c65b0 : (x206000_7 == 0) = false := beq_eq_false_iff_ne.mpr c65
                        have c65b1 : (x206000_7 != 0) = true := bne_iff_ne.mpr c65
                        (first | rw [c65b0] | (simp only [i64_w, i32_w]; rw [c65b0]) | skip)
                        have H' := Aside0.mk H
                        clear H
                        have hnb68 := NB205_198.out
                        have hnc68 := NB198_205.out
                        have hcz69_0 : wc.cell? ⟨gb205, 0, none⟩ = some (.int .i64 x206000_7) := (blk_cell BK205.out 0).trans rfl
                        have hcz69_1 : wc.cell? ⟨gb205, 1, none⟩ = some (.int .i64 x206001_7) := (blk_cell BK205.out 1).trans rfl
                        have hcz69_2 : wc.cell? ⟨gb205, 2, none⟩ = some (.int .i64 x206002_7) := (blk_cell BK205.out 2).trans rfl
                        have hcz69_3 : wc.cell? ⟨gb205, 3, none⟩ = some (.int .i64 x206003_7) := (blk_cell BK205.out 3).trans rfl
                        have hfz69_0 := blk_frozen BK205.out 0
                        have hfz69_1 := blk_frozen BK205.out 1
                        have hfz69_2 := blk_frozen BK205.out 2
                        have hfz69_3 := blk_frozen BK205.out 3
                        go_wp2
                        go_meet
                        case rel => exact ⟨_, ((x206000_7 == 3)), (by first | rfl | (simp; done) | (simp [*]; done)), H', ⟨by have := HJ7.out; have := HJ24.out; have := HJ26.out; have := HJ43.out; first | omega | exact Nat.le_refl _⟩, ⟨by (with_reducible repeat (first | refine blk_drewN ?_ _ | refine blk_drew ?_ | refine blk_alloc ?_ _)); exact BK205.out⟩, ⟨by repeat (first | (with_reducible first | exact HI198.out | apply IsS89.alloc | apply IsS89.drewN | apply IsS89.drew | apply IsS89.set_0 | apply IsS89.set_1 | apply IsS89.set_2 | refine IsS89.far ?_ NB198_205.out _) | exact HI198.out)⟩, ⟨by repeat (first | (with_reducible first | exact HB.out | apply below_alloc | apply pw_below_drewN | apply below_drew1 | refine below_set ?_ (IsS89.ge HI198.out) | refine below_set ?_ GE205.out) | exact HB.out)⟩⟩
                    case rest =>
                      clear HC64
                      try clear c1
                      try clear c2
                      try clear p2
                      try clear q2
                      try clear hx2
                      try clear c3
                      try clear c4
                      try clear c5
                      try clear c6
                      try clear p6
                      try clear c12
                      try clear c13
                      try clear c15
                      try clear c15b0
                      try clear c16
                      try clear c16b0
                      try clear c17
                      try clear c17b0
                      try clear p20
                      try clear q20
                      try clear hx20
                      try clear c26
                      try clear c26b0
                      try clear c28
                      try clear c29
                      try clear c30
                      try clear c32
                      try clear c32b0
                      try clear c32b1
                      try clear c34
                      try clear c36
                      try clear c37
                      try clear c40
                      try clear c45
                      try clear c47
                      try clear c47b0
                      try clear c47b1
                      try clear c48
                      try clear c48b0
                      try clear c50
                      try clear c52
                      try clear c52b0
                      try clear c52b1
                      try clear c54
                      try clear c56
                      try clear c60
                      try clear p64
                      try clear c65
                      try clear c65b0
                      try clear c65b1
                      try clear c66
                      try clear c68
                      try clear hcz14_0
                      try clear hcz14_1
                      try clear hcz14_2
                      try clear hcz14_3
                      try clear hcz37_0
                      try clear hcz37_1
                      try clear hcz37_2
                      try clear hcz37_3
                      try clear hcz41_0
                      try clear hcz41_1
                      try clear hcz41_2
                      try clear hcz41_3
                      try clear hcz46_0
                      try clear hcz46_1
                      try clear hcz46_2
                      try clear hcz46_3
                      try clear hcz57_0
                      try clear hcz57_1
                      try clear hcz57_2
                      try clear hcz57_3
                      try clear hcz61_0
                      try clear hcz61_1
                      try clear hcz61_2
                      try clear hcz61_3
                      try clear hcz67_0
                      try clear hcz67_1
                      try clear hcz67_2
                      try clear hcz67_3
                      try clear hcz69_0
                      try clear hcz69_1
                      try clear hcz69_2
                      try clear hcz69_3
                      try clear hfz14_0
                      try clear hfz14_1
                      try clear hfz14_2
                      try clear hfz14_3
                      try clear hfz37_0
                      try clear hfz37_1
                      try clear hfz37_2
                      try clear hfz37_3
                      try clear hfz41_0
                      try clear hfz41_1
                      try clear hfz41_2
                      try clear hfz41_3
                      try clear hfz46_0
                      try clear hfz46_1
                      try clear hfz46_2
                      try clear hfz46_3
                      try clear hfz57_0
                      try clear hfz57_1
                      try clear hfz57_2
                      try clear hfz57_3
                      try clear hfz61_0
                      try clear hfz61_1
                      try clear hfz61_2
                      try clear hfz61_3
                      try clear hfz67_0
                      try clear hfz67_1
                      try clear hfz67_2
                      try clear hfz67_3
                      try clear hfz69_0
                      try clear hfz69_1
                      try clear hfz69_2
                      try clear hfz69_3
                      try clear hx206_0
                      try clear p2
                      try clear p20
                      try clear p206
                      try clear p6
                      try clear q2
                      try clear q20
                      try clear q206
                      obtain ⟨kq, x112_63, rfl, HA, HJ63, BK205, HI198, HB⟩ := hcut
                      cases kq with
                      | zero => exact absurd HA.out (by simp [monocoquelaw32_LifeRefused.j6])
                      | succ kj63 =>
                        have H := HA.out
                        clear HA
                        simp only [monocoquelaw32_LifeRefused.j6] at H
                        by_cases c70 : x112_63 = true
                        · subst c70
                          have H1 : ((life_Life_Run.f x199000_43 x199001_43 x199002_43).bind fun bt235 => (if bt235.1 = 19 then ((monocoquelaw32_same.f bt235.2.1 bt235.2.2.1 bt235.2.2.2 x206000_7 x206001_7 x206002_7 x206003_7).bind fun bt239 => (some bt239.1)) else (some false))) = some r := by rw [if_pos rfl] at H; exact H
                          clear H
                          have H := H1
                          clear H1
                          replace H := Option.bind_eq_some_iff.mp H
                          obtain ⟨⟨t235, t236, t237, t238⟩, A710, H⟩ := H
                          replace H : (if t235 = 19 then ((monocoquelaw32_same.f t236 t237 t238 x206000_7 x206001_7 x206002_7 x206003_7).bind fun bt239 => (some bt239.1)) else (some false)) = some r := H
                          have A71 := Aside0.mk A710
                          clear A710
                          by_cases c72 : t235 = 19
                          · rw [if_pos c72] at H
                            have c72b0 : (t235 == 19) = true := beq_iff_eq.mpr c72
                            have c72b1 : (t235 != 19) = false := bne_eq_false_iff_eq.mpr c72
                            clear c72
                            replace H := Option.bind_eq_some_iff.mp H
                            obtain ⟨⟨t239, t240, t241, t242⟩, A730, H⟩ := H
                            replace H : (some t239) = some r := H
                            have A73 := Aside0.mk A730
                            clear A730
                            obtain rfl := Option.some.inj H
                            go_wp2_with (first | ((with_reducible refine gate_callee (f := 31) rfl ?_); refine goesL_ (some 114) rfl rfl Try.func31 (by kernel_rfl) rfl #[.pointer (some ⟨g198, 0, none⟩)] rfl (by (try simp only [List.map_toArray, List.map_cons, List.map_nil]); first | done | rfl | (simp only [List.length_drop, List.length_take]; rfl)) ?_; (with_reducible refine (life_Life_Run.calls g198 x199000_43 x199001_43 x199002_43 t235 t236 t237 t238 w _ ?side1 ?side2 A71.out).mono ?_); (case side1 => repeat (first | (with_reducible first | exact HI198.out | apply IsS89.alloc | apply IsS89.drewN | apply IsS89.drew | apply IsS89.set_0 | apply IsS89.set_1 | apply IsS89.set_2 | refine IsS89.far ?_ NB198_205.out _) | exact HI198.out)); (case side2 => repeat (first | (with_reducible first | exact HB.out | apply below_alloc | apply pw_below_drewN | apply below_drew1 | refine below_set ?_ (IsS89.ge HI198.out) | refine below_set ?_ GE205.out) | exact HB.out)); rintro e w74 ⟨rfl, hi, hb, hk⟩; refine ⟨_, rfl, ?_⟩; have n0_ := Aside0.mk (KeepBut.blk hk (g' := gb205) (o := .cells #[.int .i64 x206000_7, .int .i64 x206001_7, .int .i64 x206002_7, .int .i64 x206003_7] 69 (0, 0)) (by (with_reducible repeat (first | refine blk_drewN ?_ _ | refine blk_drew ?_ | refine blk_alloc ?_ _)); exact BK205.out) NB205_198.out (by simp)); have n1_ := Aside0.mk (hb); have n2_ := Aside0.mk (hi); clear BK205; clear HB; clear HI198; have BK205 := n0_; have HB := n1_; have HI198 := n2_; clear n0_ n1_ n2_; (try clear hb); (try clear hb2); (try clear hk); (try clear hi); have hnb75 := NB205_198.out; have hnc75 := NB198_205.out; have hcz76_0 : w74.cell? ⟨gb205, 0, none⟩ = some (.int .i64 x206000_7) := (blk_cell BK205.out 0).trans rfl; have hcz76_1 : w74.cell? ⟨gb205, 1, none⟩ = some (.int .i64 x206001_7) := (blk_cell BK205.out 1).trans rfl; have hcz76_2 : w74.cell? ⟨gb205, 2, none⟩ = some (.int .i64 x206002_7) := (blk_cell BK205.out 2).trans rfl; have hcz76_3 : w74.cell? ⟨gb205, 3, none⟩ = some (.int .i64 x206003_7) := (blk_cell BK205.out 3).trans rfl; have hfz76_0 := blk_frozen BK205.out 0; have hfz76_1 := blk_frozen BK205.out 1; have hfz76_2 := blk_frozen BK205.out 2; have hfz76_3 := blk_frozen BK205.out 3) | (go_at_call 38; (with_reducible refine (monocoquelaw32_same.calls g198 t236 t237 t238 x206000_7 x206001_7 x206002_7 x206003_7 t239 t240 t241 t242 w _ ?side1 ?side2 A73.out).mono ?_); (case side1 => repeat (first | (with_reducible first | exact HI198.out | apply IsS89.alloc | apply IsS89.drewN | apply IsS89.drew | apply IsS89.set_0 | apply IsS89.set_1 | apply IsS89.set_2 | refine IsS89.far ?_ NB198_205.out _) | exact HI198.out)); (case side2 => repeat (first | (with_reducible first | exact HB.out | apply below_alloc | apply pw_below_drewN | apply below_drew1 | refine below_set ?_ (IsS89.ge HI198.out) | refine below_set ?_ GE205.out) | exact HB.out)); rintro e w77 ⟨rfl, hi, hb, hk⟩; have n0_ := Aside0.mk (KeepBut.blk hk (g' := gb205) (o := .cells #[.int .i64 x206000_7, .int .i64 x206001_7, .int .i64 x206002_7, .int .i64 x206003_7] 69 (0, 0)) (by (with_reducible repeat (first | refine blk_drewN ?_ _ | refine blk_drew ?_ | refine blk_alloc ?_ _)); exact BK205.out) NB205_198.out (by simp)); have n1_ := Aside0.mk (hb); have n2_ := Aside0.mk (hi); clear BK205; clear HB; clear HI198; have BK205 := n0_; have HB := n1_; have HI198 := n2_; clear n0_ n1_ n2_; (try clear hb); (try clear hb2); (try clear hk); (try clear hi)))
                            go_ret
                            exact ⟨by first | rfl | (simp [errW_none, errW_some] <;> rfl) | (simp [*, errW_none, errW_some] <;> rfl), by repeat (first | (with_reducible first | exact HB.out | apply below_alloc | apply pw_below_drewN | apply below_drew1 | refine below_set ?_ (IsS89.ge HI198.out) | refine below_set ?_ GE205.out) | exact HB.out)⟩
                          · rw [if_neg c72] at H
                            have c72b0 : (t235 == 19) = false := beq_eq_false_iff_ne.mpr c72
                            have c72b1 : (t235 != 19) = true := bne_iff_ne.mpr c72
                            obtain rfl := Option.some.inj H
                            go_wp2_with (first | ((with_reducible refine gate_callee (f := 31) rfl ?_); refine goesL_ (some 114) rfl rfl Try.func31 (by kernel_rfl) rfl #[.pointer (some ⟨g198, 0, none⟩)] rfl (by (try simp only [List.map_toArray, List.map_cons, List.map_nil]); first | done | rfl | (simp only [List.length_drop, List.length_take]; rfl)) ?_; (with_reducible refine (life_Life_Run.calls g198 x199000_43 x199001_43 x199002_43 t235 t236 t237 t238 w _ ?side1 ?side2 A71.out).mono ?_); (case side1 => repeat (first | (with_reducible first | exact HI198.out | apply IsS89.alloc | apply IsS89.drewN | apply IsS89.drew | apply IsS89.set_0 | apply IsS89.set_1 | apply IsS89.set_2 | refine IsS89.far ?_ NB198_205.out _) | exact HI198.out)); (case side2 => repeat (first | (with_reducible first | exact HB.out | apply below_alloc | apply pw_below_drewN | apply below_drew1 | refine below_set ?_ (IsS89.ge HI198.out) | refine below_set ?_ GE205.out) | exact HB.out)); rintro e w78 ⟨rfl, hi, hb, hk⟩; refine ⟨_, rfl, ?_⟩; have n0_ := Aside0.mk (KeepBut.blk hk (g' := gb205) (o := .cells #[.int .i64 x206000_7, .int .i64 x206001_7, .int .i64 x206002_7, .int .i64 x206003_7] 69 (0, 0)) (by (with_reducible repeat (first | refine blk_drewN ?_ _ | refine blk_drew ?_ | refine blk_alloc ?_ _)); exact BK205.out) NB205_198.out (by simp)); have n1_ := Aside0.mk (hb); have n2_ := Aside0.mk (hi); clear BK205; clear HB; clear HI198; have BK205 := n0_; have HB := n1_; have HI198 := n2_; clear n0_ n1_ n2_; (try clear hb); (try clear hb2); (try clear hk); (try clear hi)))
                            go_ret
                            exact ⟨by first | rfl | (simp [errW_none, errW_some] <;> rfl) | (simp [*, errW_none, errW_some] <;> rfl), by repeat (first | (with_reducible first | exact HB.out | apply below_alloc | apply pw_below_drewN | apply below_drew1 | refine below_set ?_ (IsS89.ge HI198.out) | refine below_set ?_ GE205.out) | exact HB.out)⟩
                        · replace c70 := Bool.eq_false_iff.mpr c70
                          subst c70
                          have H1 : (some true) = some r := by rw [if_neg (show ¬ (false = true) by decide)] at H; exact H
                          clear H
                          have H := H1
                          clear H1
                          obtain rfl := Option.some.inj H
                          go_wp2
                          go_ret
                          exact ⟨by first | rfl | (simp [errW_none, errW_some] <;> rfl) | (simp [*, errW_none, errW_some] <;> rfl), by repeat (first | (with_reducible first | exact HB.out | apply below_alloc | apply pw_below_drewN | apply below_drew1 | refine below_set ?_ (IsS89.ge HI198.out) | refine below_set ?_ GE205.out) | exact HB.out)⟩
  · replace c6 := Bool.eq_false_iff.mpr c6
    subst c6
    have H1 : (some false) = some r := by rw [if_neg (show ¬ (false = true) by decide)] at H; exact H
    clear H
    have H := H1
    clear H1
    obtain rfl := Option.some.inj H
    go_enter Try.func12, Try.ntmps12
    go_wp2_with (first | ((with_reducible refine gate_callee (f := 29) rfl ?_); refine goesL_ (some 25) rfl rfl Try.func29 (by kernel_rfl) rfl #[.int .i64 (wrap64 (Int.tmod (IntKind.u64.wrap (a0)) 1001))] rfl (by (try simp only [List.map_toArray, List.map_cons, List.map_nil]); first | done | rfl | (simp only [List.length_drop, List.length_take]; rfl)) ?_; (with_reducible refine (life_New.calls (wrap64 (Int.tmod (IntKind.u64.wrap (a0)) 1001)) t195 t196 t197 t199 w _ ?side1 A4.out).mono ?_); (case side1 => repeat (first | (with_reducible first | exact HB.out | apply below_alloc | apply pw_below_drewN | apply below_drew1) | exact HB.out)); rintro e w79 ⟨g198, rfl, hi, hb, hb2⟩; refine ⟨_, rfl, ?_⟩; have n0_ := Aside0.mk (hb); have n1_ := Aside0.mk (hi); clear HB; have HB := n0_; have HI198 := n1_; clear n0_ n1_; (try clear hb); (try clear hb2); (try clear hk); (try clear hi)) | (go_at_call 30; (with_reducible refine (monocoquelaw32_told.calls k  false _ A5.out).mono ?_); rintro e w80 ⟨rfl, hb⟩; have n0_ := Aside0.mk (IsS89.below (by repeat (first | (with_reducible first | exact HI198.out | apply IsS89.alloc | apply IsS89.drewN | apply IsS89.drew | apply IsS89.set_0 | apply IsS89.set_1 | apply IsS89.set_2) | exact HI198.out)) hb); have n1_ := Aside0.mk (below_step (by repeat (first | (with_reducible first | exact HB.out | apply below_alloc | apply pw_below_drewN | apply below_drew1 | refine below_set ?_ (IsS89.ge HI198.out)) | exact HB.out)) hb); clear HI198; clear HB; have HI198 := n0_; have HB := n1_; clear n0_ n1_; (try clear hb); (try clear hb2); (try clear hk); (try clear hi)))
    go_ret
    exact ⟨by first | rfl | (simp [errW_none, errW_some] <;> rfl) | (simp [*, errW_none, errW_some] <;> rfl), by repeat (first | (with_reducible first | exact HB.out | apply below_alloc | apply pw_below_drewN | apply below_drew1 | refine below_set ?_ (IsS89.ge HI198.out)) | exact HB.out)⟩

/-- THE ONE PURE STATEMENT of monocoquelaw32_LifeRefused: yours. -/
def monocoquelaw32_LifeRefused.Pure : Prop := ∀ (a0 : Int) (l1 : List Int) (a2 : Int), (Lit.int .i64 a0).wf = true → l1.length ≤ maxLen → l1.length * 8 ≤ 140737488351232 → (∀ x ∈ l1, (Lit.int .i64 x).wf = true) → (Lit.int .i64 a2).wf = true → ∃ k, monocoquelaw32_LifeRefused.f k a0 l1 a2 = some true
theorem monocoquelaw32_LifeRefused.walk (P : monocoquelaw32_LifeRefused.Pure) (a0 : Int) (a1 : Option Addr) (len1 cap1 : Nat) (z1 : List Int) (a2 : Int) (w : World) (w0 : (Lit.int .i64 a0).wf = true) (w1 : (a1 = none ∧ len1 = 0 ∧ cap1 = 0 ∧ z1 = []) ∨ ∃ x, a1 = some x ∧ len1 ≤ cap1 ∧ cap1 ≤ maxLen ∧ z1.length = cap1 ∧ (∀ i, i < z1.length → w.cell? (x.add i) = some (.int .i64 (z1.getD i 0))) ∧ ∀ n ∈ z1, (Lit.int .i64 n).wf = true) (y1 : len1 * 8 ≤ 140737488351232) (w2 : (Lit.int .i64 a2).wf = true) :
    Calls Try.prog 12 #[.int .i64 a0, .slice a1 len1 cap1, .int .i64 a2] w fun e w' => e = .returned (.bool true) ∧ Below w.heap.size w w' := by
  obtain ⟨l1, rfl, hr1, hm1, hw1, hc1⟩ := ReadsInt.ofRowC w1
  obtain ⟨k, h⟩ := P a0 l1 a2 w0 hm1 y1 hw1 w2
  refine (monocoquelaw32_LifeRefused.calls k a0 _ _ l1 a2 true w (Kd.C_of_reads (d := (0 : Int)) (h1 := fun _ => rfl) hr1) hc1 h).mono ?_
  rintro e w' ⟨rfl, hd⟩
  exact ⟨rfl, hd⟩

end Go.Proofs.Ytpabbpcklgipnaa.PLifeRefused
