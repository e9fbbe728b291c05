/- The walks of functions that the law LifeClones reaches. Written by this session's turn of the kit's printer, not by the kit's own. -/
import Derived.Test.YtpabbpcklgipnaaQLifeClonesx0
import Derived.Test.YtpabbpcklgipnaaQLifeClonesx1
import Derived.Test.YtpabbpcklgipnaaQLifeClonesx3
import Derived.Test.YtpabbpcklgipnaaQLifeClonesx4
import Derived.Test.YtpabbpcklgipnaaQLifeClonesx5
namespace Go.Proofs.Ytpabbpcklgipnaa.PLifeClones
open Go.RowKit Go.Proofs.YtpabbpcklgipnaaW.PrintWords Go.Proofs.YtpabbpcklgipnaaW.PrintLast Go.Proofs.YtpabbpcklgipnaaW.PrintMore
attribute [local go_sem] max2_int min2_int max_two min_two max_three min_three max_four min_four   -- for this text's walks alone
set_option linter.unusedVariables false
set_option linter.unusedSimpArgs false

attribute [local go_sem high] eqA69
/-! ### monocoquelaw32_LifeClones: function 14 -/
mutual
def monocoquelaw32_LifeClones.j1 : Nat → List Int → Int → Int → Int → Int → Int → Int → Int → Option (Bool)
  | 0, _, _, _, _, _, _, _, _ => none
  | k + 1, x2, x200000, x200001, x200002, x207000, x207001, x207002, x207003 => (life_Life_Clone.f x200000 x200001 x200002).bind fun bt216 => ((life_Life_Same.f bt216.1 bt216.2.1 bt216.2.2 x200000 x200001 x200002).bind fun t220 => (if t220 = true then ((life_Life_Same.f x200000 x200001 x200002 bt216.1 bt216.2.1 bt216.2.2).bind fun t221 => (if t221 = true then ((life_Life_Same_nil1.f x200000 x200001 x200002).bind fun bt222 => (monocoquelaw32_LifeClones.j2 k x2 bt222.1 bt222.2.1 bt222.2.2.1 bt222.2.2.2 x207000 x207001 x207002 x207003 bt216.1 bt216.2.1 bt216.2.2)) else (monocoquelaw32_LifeClones.j2 k x2 true x200000 x200001 x200002 x207000 x207001 x207002 x207003 bt216.1 bt216.2.1 bt216.2.2))) else (monocoquelaw32_LifeClones.j2 k x2 true x200000 x200001 x200002 x207000 x207001 x207002 x207003 bt216.1 bt216.2.1 bt216.2.2)))
def monocoquelaw32_LifeClones.j2 : Nat → List Int → Bool → Int → Int → Int → Int → Int → Int → Int → Int → Int → Int → Option (Bool)
  | 0, _, _, _, _, _, _, _, _, _, _, _, _ => none
  | k + 1, x2, x76, x200000, x200001, x200002, x207000, x207001, x207002, x207003, x220000, x220001, x220002 => if x76 = true then (some false) else (monocoquelaw32_LifeClones.l1 k x2 0 x200000 x200001 x200002 x207000 x207001 x207002 x207003 x220000 x220001 x220002 x207000 x207001 x207002 x207003)
def monocoquelaw32_LifeClones.l1 : Nat → List Int → Int → Int → Int → Int → Int → Int → Int → Int → Int → Int → Int → Int → Int → Int → Int → Option (Bool)
  | 0, _, _, _, _, _, _, _, _, _, _, _, _, _, _, _, _ => none
  | k + 1, x2, x14, x200000, x200001, x200002, x207000, x207001, x207002, x207003, x220000, x220001, x220002, x227000, x227001, x227002, x227003 => if x14 < (x2.length : Int) then (monocoquelaw32_LifeClones.j4 k x2 x14 (decide (x14 < 60)) x200000 x200001 x200002 x207000 x207001 x207002 x207003 x220000 x220001 x220002 x227000 x227001 x227002 x227003) else (monocoquelaw32_LifeClones.j4 k x2 x14 false x200000 x200001 x200002 x207000 x207001 x207002 x207003 x220000 x220001 x220002 x227000 x227001 x227002 x227003)
def monocoquelaw32_LifeClones.j4 : Nat → List Int → Int → Bool → Int → Int → Int → Int → Int → Int → Int → Int → Int → Int → Int → Int → Int → Int → Option (Bool)
  | 0, _, _, _, _, _, _, _, _, _, _, _, _, _, _, _, _, _ => none
  | k + 1, x2, x14, x85, x200000, x200001, x200002, x207000, x207001, x207002, x207003, x220000, x220001, x220002, x227000, x227001, x227002, x227003 => if x85 = true then (if 0 ≤ x14 then (if x14 < (x2.length : Int) then ((monocoquelaw32_do.f k x220000 x220001 x220002 x227000 x227001 x227002 x227003 (rd x2 x14)).bind fun bt228 => ((monocoquelaw32_same.f x200000 x200001 x200002 x207000 x207001 x207002 x207003).bind fun bt236 => (if bt236.1 = true then ((monocoquelaw32_same.f bt228.2.2.2.2.2.1 bt228.2.2.2.2.2.2.1 bt228.2.2.2.2.2.2.2 bt228.1 bt228.2.1 bt228.2.2.1 bt228.2.2.2.1).bind fun bt240 => (if bt240.1 = true then ((life_Life_Same.f bt236.2.1 bt236.2.2.1 bt236.2.2.2 bt240.2.1 bt240.2.2.1 bt240.2.2.2).bind fun t244 => (if (t244 != (x207000 == bt228.1 && (x207001 == bt228.2.1 && (x207002 == bt228.2.2.1 && (x207003 == bt228.2.2.2.1))))) = true then (some false) else (monocoquelaw32_LifeClones.l1 k x2 (wrap64 (x14 + 1)) bt236.2.1 bt236.2.2.1 bt236.2.2.2 x207000 x207001 x207002 x207003 bt240.2.1 bt240.2.2.1 bt240.2.2.2 bt228.1 bt228.2.1 bt228.2.2.1 bt228.2.2.2.1))) else (some false))) else (some false)))) else (none)) else (none)) else (some true)
def monocoquelaw32_LifeClones.l0 : Nat → List Int → List Int → Int → Int → Int → Int → Int → Int → Int → Int → Option (Bool)
  | 0, _, _, _, _, _, _, _, _, _, _ => none
  | k + 1, x1, x2, x11, x200000, x200001, x200002, x207000, x207001, x207002, x207003 => if x11 < (x1.length : Int) then (if x11 < 60 then (if 0 ≤ x11 then ((monocoquelaw32_do.f k x200000 x200001 x200002 x207000 x207001 x207002 x207003 (rd x1 x11)).bind fun bt208 => (monocoquelaw32_LifeClones.l0 k x1 x2 (wrap64 (x11 + 1)) bt208.2.2.2.2.2.1 bt208.2.2.2.2.2.2.1 bt208.2.2.2.2.2.2.2 bt208.1 bt208.2.1 bt208.2.2.1 bt208.2.2.2.1)) else (none)) else (monocoquelaw32_LifeClones.j1 k x2 x200000 x200001 x200002 x207000 x207001 x207002 x207003)) else (monocoquelaw32_LifeClones.j1 k x2 x200000 x200001 x200002 x207000 x207001 x207002 x207003)
end
def monocoquelaw32_LifeClones.f (k : Nat) (a0 : Int) (l1 : List Int) (l2 : List Int) : Option (Bool) := (life_New.f (wrap64 (Int.tmod (IntKind.u64.wrap (a0)) 1001))).bind fun bt196 => ((monocoquelaw32_told.f k).bind fun t201 => (if t201 = true then ((monocoqueref32_New.f (wrap64 (Int.tmod (IntKind.u64.wrap (a0)) 1001))).bind fun bt202 => (monocoquelaw32_LifeClones.l0 k l1 l2 0 bt196.1 bt196.2.1 bt196.2.2.1 bt202.1 bt202.2.1 bt202.2.2.1 bt202.2.2.2)) else (some false)))
theorem monocoquelaw32_LifeClones.mono_l : ∀ k, (∀ y0 y1 y2 y3 y4 y5 y6 y7, LeO (monocoquelaw32_LifeClones.j1 k y0 y1 y2 y3 y4 y5 y6 y7) (monocoquelaw32_LifeClones.j1 (k + 1) y0 y1 y2 y3 y4 y5 y6 y7)) ∧ (∀ y0 y1 y2 y3 y4 y5 y6 y7 y8 y9 y10 y11, LeO (monocoquelaw32_LifeClones.j2 k y0 y1 y2 y3 y4 y5 y6 y7 y8 y9 y10 y11) (monocoquelaw32_LifeClones.j2 (k + 1) y0 y1 y2 y3 y4 y5 y6 y7 y8 y9 y10 y11)) ∧ (∀ y0 y1 y2 y3 y4 y5 y6 y7 y8 y9 y10 y11 y12 y13 y14 y15, LeO (monocoquelaw32_LifeClones.l1 k y0 y1 y2 y3 y4 y5 y6 y7 y8 y9 y10 y11 y12 y13 y14 y15) (monocoquelaw32_LifeClones.l1 (k + 1) y0 y1 y2 y3 y4 y5 y6 y7 y8 y9 y10 y11 y12 y13 y14 y15)) ∧ (∀ y0 y1 y2 y3 y4 y5 y6 y7 y8 y9 y10 y11 y12 y13 y14 y15 y16, LeO (monocoquelaw32_LifeClones.j4 k y0 y1 y2 y3 y4 y5 y6 y7 y8 y9 y10 y11 y12 y13 y14 y15 y16) (monocoquelaw32_LifeClones.j4 (k + 1) y0 y1 y2 y3 y4 y5 y6 y7 y8 y9 y10 y11 y12 y13 y14 y15 y16)) ∧ (∀ y0 y1 y2 y3 y4 y5 y6 y7 y8 y9, LeO (monocoquelaw32_LifeClones.l0 k y0 y1 y2 y3 y4 y5 y6 y7 y8 y9) (monocoquelaw32_LifeClones.l0 (k + 1) y0 y1 y2 y3 y4 y5 y6 y7 y8 y9))
  | 0 => ⟨fun _ _ _ _ _ _ _ _ r h => by simp [monocoquelaw32_LifeClones.j1] at h, fun _ _ _ _ _ _ _ _ _ _ _ _ r h => by simp [monocoquelaw32_LifeClones.j2] at h, fun _ _ _ _ _ _ _ _ _ _ _ _ _ _ _ _ r h => by simp [monocoquelaw32_LifeClones.l1] at h, fun _ _ _ _ _ _ _ _ _ _ _ _ _ _ _ _ _ r h => by simp [monocoquelaw32_LifeClones.j4] at h, fun _ _ _ _ _ _ _ _ _ _ r h => by simp [monocoquelaw32_LifeClones.l0] at h⟩
  | k + 1 => by
    obtain ⟨ih0, ih1, ih2, ih3, ih4⟩ := monocoquelaw32_LifeClones.mono_l k
    refine ⟨?_, ?_, ?_, ?_, ?_⟩
    · intro y0 y1 y2 y3 y4 y5 y6 y7
      unfold monocoquelaw32_LifeClones.j1
      repeat' first
      | (with_reducible exact ih0 _ _ _ _ _ _ _ _)
      | (with_reducible exact ih1 _ _ _ _ _ _ _ _ _ _ _ _)
      | (with_reducible exact ih2 _ _ _ _ _ _ _ _ _ _ _ _ _ _ _ _)
      | (with_reducible exact ih3 _ _ _ _ _ _ _ _ _ _ _ _ _ _ _ _ _)
      | (with_reducible exact ih4 _ _ _ _ _ _ _ _ _ _)
      | (with_reducible exact monocoquelaw32_do.mono _ _ _ _ _ _ _ _ _)
      | (with_reducible exact monocoquelaw32_told.mono _)
      | (with_reducible exact LeO.refl _)
      | (with_reducible exact LeO.none _)
      | (with_reducible refine LeO.ite ?_ ?_)
      | (with_reducible refine LeO.bind ?_ (fun _ => ?_))
      | exact ih0 _ _ _ _ _ _ _ _
      | exact ih1 _ _ _ _ _ _ _ _ _ _ _ _
      | exact ih2 _ _ _ _ _ _ _ _ _ _ _ _ _ _ _ _
      | exact ih3 _ _ _ _ _ _ _ _ _ _ _ _ _ _ _ _ _
      | exact ih4 _ _ _ _ _ _ _ _ _ _
      | exact monocoquelaw32_do.mono _ _ _ _ _ _ _ _ _
      | exact monocoquelaw32_told.mono _
      | exact LeO.none _
      | refine LeO.ite ?_ ?_
      | refine LeO.bind ?_ (fun _ => ?_)
    · intro y0 y1 y2 y3 y4 y5 y6 y7 y8 y9 y10 y11
      unfold monocoquelaw32_LifeClones.j2
      repeat' first
      | (with_reducible exact ih0 _ _ _ _ _ _ _ _)
      | (with_reducible exact ih1 _ _ _ _ _ _ _ _ _ _ _ _)
      | (with_reducible exact ih2 _ _ _ _ _ _ _ _ _ _ _ _ _ _ _ _)
      | (with_reducible exact ih3 _ _ _ _ _ _ _ _ _ _ _ _ _ _ _ _ _)
      | (with_reducible exact ih4 _ _ _ _ _ _ _ _ _ _)
      | (with_reducible exact monocoquelaw32_do.mono _ _ _ _ _ _ _ _ _)
      | (with_reducible exact monocoquelaw32_told.mono _)
      | (with_reducible exact LeO.refl _)
      | (with_reducible exact LeO.none _)
      | (with_reducible refine LeO.ite ?_ ?_)
      | (with_reducible refine LeO.bind ?_ (fun _ => ?_))
      | exact ih0 _ _ _ _ _ _ _ _
      | exact ih1 _ _ _ _ _ _ _ _ _ _ _ _
      | exact ih2 _ _ _ _ _ _ _ _ _ _ _ _ _ _ _ _
      | exact ih3 _ _ _ _ _ _ _ _ _ _ _ _ _ _ _ _ _
      | exact ih4 _ _ _ _ _ _ _ _ _ _
      | exact monocoquelaw32_do.mono _ _ _ _ _ _ _ _ _
      | exact monocoquelaw32_told.mono _
      | exact LeO.none _
      | refine LeO.ite ?_ ?_
      | refine LeO.bind ?_ (fun _ => ?_)
    · intro y0 y1 y2 y3 y4 y5 y6 y7 y8 y9 y10 y11 y12 y13 y14 y15
      unfold monocoquelaw32_LifeClones.l1
      repeat' first
      | (with_reducible exact ih0 _ _ _ _ _ _ _ _)
      | (with_reducible exact ih1 _ _ _ _ _ _ _ _ _ _ _ _)
      | (with_reducible exact ih2 _ _ _ _ _ _ _ _ _ _ _ _ _ _ _ _)
      | (with_reducible exact ih3 _ _ _ _ _ _ _ _ _ _ _ _ _ _ _ _ _)
      | (with_reducible exact ih4 _ _ _ _ _ _ _ _ _ _)
      | (with_reducible exact monocoquelaw32_do.mono _ _ _ _ _ _ _ _ _)
      | (with_reducible exact monocoquelaw32_told.mono _)
      | (with_reducible exact LeO.refl _)
      | (with_reducible exact LeO.none _)
      | (with_reducible refine LeO.ite ?_ ?_)
      | (with_reducible refine LeO.bind ?_ (fun _ => ?_))
      | exact ih0 _ _ _ _ _ _ _ _
      | exact ih1 _ _ _ _ _ _ _ _ _ _ _ _
      | exact ih2 _ _ _ _ _ _ _ _ _ _ _ _ _ _ _ _
      | exact ih3 _ _ _ _ _ _ _ _ _ _ _ _ _ _ _ _ _
      | exact ih4 _ _ _ _ _ _ _ _ _ _
      | exact monocoquelaw32_do.mono _ _ _ _ _ _ _ _ _
      | exact monocoquelaw32_told.mono _
      | exact LeO.none _
      | refine LeO.ite ?_ ?_
      | refine LeO.bind ?_ (fun _ => ?_)
    · intro y0 y1 y2 y3 y4 y5 y6 y7 y8 y9 y10 y11 y12 y13 y14 y15 y16
      unfold monocoquelaw32_LifeClones.j4
      repeat' first
      | (with_reducible exact ih0 _ _ _ _ _ _ _ _)
      | (with_reducible exact ih1 _ _ _ _ _ _ _ _ _ _ _ _)
      | (with_reducible exact ih2 _ _ _ _ _ _ _ _ _ _ _ _ _ _ _ _)
      | (with_reducible exact ih3 _ _ _ _ _ _ _ _ _ _ _ _ _ _ _ _ _)
      | (with_reducible exact ih4 _ _ _ _ _ _ _ _ _ _)
      | (with_reducible exact monocoquelaw32_do.mono _ _ _ _ _ _ _ _ _)
      | (with_reducible exact monocoquelaw32_told.mono _)
      | (with_reducible exact LeO.refl _)
      | (with_reducible exact LeO.none _)
      | (with_reducible refine LeO.ite ?_ ?_)
      | (with_reducible refine LeO.bind ?_ (fun _ => ?_))
      | exact ih0 _ _ _ _ _ _ _ _
      | exact ih1 _ _ _ _ _ _ _ _ _ _ _ _
      | exact ih2 _ _ _ _ _ _ _ _ _ _ _ _ _ _ _ _
      | exact ih3 _ _ _ _ _ _ _ _ _ _ _ _ _ _ _ _ _
      | exact ih4 _ _ _ _ _ _ _ _ _ _
      | exact monocoquelaw32_do.mono _ _ _ _ _ _ _ _ _
      | exact monocoquelaw32_told.mono _
      | exact LeO.none _
      | refine LeO.ite ?_ ?_
      | refine LeO.bind ?_ (fun _ => ?_)
    · intro y0 y1 y2 y3 y4 y5 y6 y7 y8 y9
      unfold monocoquelaw32_LifeClones.l0
      repeat' first
      | (with_reducible exact ih0 _ _ _ _ _ _ _ _)
      | (with_reducible exact ih1 _ _ _ _ _ _ _ _ _ _ _ _)
      | (with_reducible exact ih2 _ _ _ _ _ _ _ _ _ _ _ _ _ _ _ _)
      | (with_reducible exact ih3 _ _ _ _ _ _ _ _ _ _ _ _ _ _ _ _ _)
      | (with_reducible exact ih4 _ _ _ _ _ _ _ _ _ _)
      | (with_reducible exact monocoquelaw32_do.mono _ _ _ _ _ _ _ _ _)
      | (with_reducible exact monocoquelaw32_told.mono _)
      | (with_reducible exact LeO.refl _)
      | (with_reducible exact LeO.none _)
      | (with_reducible refine LeO.ite ?_ ?_)
      | (with_reducible refine LeO.bind ?_ (fun _ => ?_))
      | exact ih0 _ _ _ _ _ _ _ _
      | exact ih1 _ _ _ _ _ _ _ _ _ _ _ _
      | exact ih2 _ _ _ _ _ _ _ _ _ _ _ _ _ _ _ _
      | exact ih3 _ _ _ _ _ _ _ _ _ _ _ _ _ _ _ _ _
      | exact ih4 _ _ _ _ _ _ _ _ _ _
      | exact monocoquelaw32_do.mono _ _ _ _ _ _ _ _ _
      | exact monocoquelaw32_told.mono _
      | exact LeO.none _
      | refine LeO.ite ?_ ?_
      | refine LeO.bind ?_ (fun _ => ?_)
theorem monocoquelaw32_LifeClones.mono : ∀ a0 a1 a2 k, LeO (monocoquelaw32_LifeClones.f k a0 a1 a2) (monocoquelaw32_LifeClones.f (k + 1) a0 a1 a2) := by
  intro a0 a1 a2 k
  obtain ⟨ih0, ih1, ih2, ih3, ih4⟩ := monocoquelaw32_LifeClones.mono_l k
  unfold monocoquelaw32_LifeClones.f
  repeat' first
      | (with_reducible exact ih0 _ _ _ _ _ _ _ _)
      | (with_reducible exact ih1 _ _ _ _ _ _ _ _ _ _ _ _)
      | (with_reducible exact ih2 _ _ _ _ _ _ _ _ _ _ _ _ _ _ _ _)
      | (with_reducible exact ih3 _ _ _ _ _ _ _ _ _ _ _ _ _ _ _ _ _)
      | (with_reducible exact ih4 _ _ _ _ _ _ _ _ _ _)
      | (with_reducible exact monocoquelaw32_do.mono _ _ _ _ _ _ _ _ _)
      | (with_reducible exact monocoquelaw32_told.mono _)
      | (with_reducible exact LeO.refl _)
      | (with_reducible exact LeO.none _)
      | (with_reducible refine LeO.ite ?_ ?_)
      | (with_reducible refine LeO.bind ?_ (fun _ => ?_))
      | exact ih0 _ _ _ _ _ _ _ _
      | exact ih1 _ _ _ _ _ _ _ _ _ _ _ _
      | exact ih2 _ _ _ _ _ _ _ _ _ _ _ _ _ _ _ _
      | exact ih3 _ _ _ _ _ _ _ _ _ _ _ _ _ _ _ _ _
      | exact ih4 _ _ _ _ _ _ _ _ _ _
      | exact monocoquelaw32_do.mono _ _ _ _ _ _ _ _ _
      | exact monocoquelaw32_told.mono _
      | exact LeO.none _
      | refine LeO.ite ?_ ?_
      | refine LeO.bind ?_ (fun _ => ?_)
def monocoquelaw32_LifeClones.T9 : Bool × List (List Nat × List Nat) := (true, [([], []), ([], []), ([], []), ([], []), ([2, 3], [2, 3]), ([4], [4]), ([0, 1, 5], [0, 1, 5]), ([6], [6]), ([7], [7]), ([7], [7]), ([8, 6, 0, 1, 2, 3, 4, 5, 6, 7, 8], [8])])
def monocoquelaw32_LifeClones.B9 : List Nat := [0, 0, 0, 0, 12, 28, 63, 127, 255, 255, 511]
theorem monocoquelaw32_LifeClones.tab9 : rtab .any (opsOf Try.f14 9) = monocoquelaw32_LifeClones.T9 := by kernel_rfl
theorem monocoquelaw32_LifeClones.bits9 : waitsOk monocoquelaw32_LifeClones.T9.2 monocoquelaw32_LifeClones.B9 = true := by kernel_rfl
def monocoquelaw32_LifeClones.T17 : Bool × List (List Nat × List Nat) := (true, [([], []), ([], []), ([], []), ([], []), ([2, 3], [2, 3]), ([4], [4]), ([0, 1, 5], [0, 1, 5]), ([6], [6]), ([7], [7]), ([7], [7]), ([8, 6, 0, 1, 2, 3, 4, 5, 6, 7, 8], [8])])
def monocoquelaw32_LifeClones.B17 : List Nat := [0, 0, 0, 0, 12, 28, 63, 127, 255, 255, 511]
theorem monocoquelaw32_LifeClones.tab17 : rtab .any (opsOf Try.f14 17) = monocoquelaw32_LifeClones.T17 := by kernel_rfl
theorem monocoquelaw32_LifeClones.bits17 : waitsOk monocoquelaw32_LifeClones.T17.2 monocoquelaw32_LifeClones.B17 = true := by kernel_rfl
def monocoquelaw32_LifeClones.T18 : Bool × List (List Nat × List Nat) := (true, [([], []), ([], []), ([0, 1], [0, 1]), ([2], [2]), ([3, 2], [3]), ([4], [4]), ([4], [4]), ([5, 6, 4, 4], [4, 5, 6]), ([7, 4], [4, 7]), ([4, 8], [4, 8]), ([9, 7], [9]), ([10], [10]), ([10], [10]), ([11, 12, 10, 10], [10, 11, 12]), ([10], [10]), ([10], [10]), ([14, 15, 10], [10, 14, 15]), ([13, 16, 10], [10, 13, 16]), ([10, 17], [10, 17])])
def monocoquelaw32_LifeClones.B18 : List Nat := [0, 0, 3, 7, 15, 31, 31, 127, 255, 511, 1023, 2047, 2047, 8191, 2047, 2047, 51199, 131071, 262143]
theorem monocoquelaw32_LifeClones.tab18 : rtab .any (opsOf Try.f14 18) = monocoquelaw32_LifeClones.T18 := by kernel_rfl
theorem monocoquelaw32_LifeClones.bits18 : waitsOk monocoquelaw32_LifeClones.T18.2 monocoquelaw32_LifeClones.B18 = true := by kernel_rfl
set_option maxHeartbeats 8000000 in
set_option maxRecDepth 100000 in
theorem monocoquelaw32_LifeClones.calls (k : Nat) (a0 : Int) (A1 : Option Addr) (c1 : Nat) (l1 : List Int) (A2 : Option Addr) (c2 : Nat) (l2 : List Int) (r : Bool) (w : World) (hr1 : Kd.C (Kd.int .i64) w A1 l1.length l1) (hc1 : l1.length ≤ c1) (hr2 : Kd.C (Kd.int .i64) w A2 l2.length l2) (hc2 : l2.length ≤ c2) (h : monocoquelaw32_LifeClones.f k a0 l1 l2 = some r) :
    Calls Try.prog 14 #[.int .i64 a0, .slice A1 l1.length c1, .slice A2 l2.length c2] w fun e w' => e = .returned (.bool r) ∧ Below w.heap.size w w' := by
  have hu58 := Try.underlying58
  have hu69 := Try.underlying69
  have HR1 := Aside0.mk hr1
  have HC1 := Aside0.mk hc1
  clear hr1 hc1
  have HR2 := Aside0.mk hr2
  have HC2 := Aside0.mk hc2
  clear hr2 hc2
  have HB := Aside0.mk (Below.refl w.heap.size w)
  have H : ((life_New.f (wrap64 (Int.tmod (IntKind.u64.wrap (a0)) 1001))).bind fun bt196 => ((monocoquelaw32_told.f k).bind fun t201 => (if t201 = true then ((monocoqueref32_New.f (wrap64 (Int.tmod (IntKind.u64.wrap (a0)) 1001))).bind fun bt202 => (monocoquelaw32_LifeClones.l0 k l1 l2 0 bt196.1 bt196.2.1 bt196.2.2.1 bt202.1 bt202.2.1 bt202.2.2.1 bt202.2.2.2)) else (some false)))) = some r := h
  clear h
  replace H := Option.bind_eq_some_iff.mp H
  obtain ⟨⟨t196, t197, t198, t200⟩, A40, H⟩ := H
  replace H : ((monocoquelaw32_told.f k).bind fun t201 => (if t201 = true then ((monocoqueref32_New.f (wrap64 (Int.tmod (IntKind.u64.wrap (a0)) 1001))).bind fun bt202 => (monocoquelaw32_LifeClones.l0 k l1 l2 0 t196 t197 t198 bt202.1 bt202.2.1 bt202.2.2.1 bt202.2.2.2)) else (some false))) = some r := H
  have A4 := Aside0.mk A40
  clear A40
  replace H := Option.bind_eq_some_iff.mp H
  obtain ⟨t201, A50, H⟩ := H
  replace H : (if t201 = true then ((monocoqueref32_New.f (wrap64 (Int.tmod (IntKind.u64.wrap (a0)) 1001))).bind fun bt202 => (monocoquelaw32_LifeClones.l0 k l1 l2 0 t196 t197 t198 bt202.1 bt202.2.1 bt202.2.2.1 bt202.2.2.2)) else (some false)) = some r := H
  have A5 := Aside0.mk A50
  clear A50
  by_cases c6 : t201 = true
  · subst c6
    have H1 : ((monocoqueref32_New.f (wrap64 (Int.tmod (IntKind.u64.wrap (a0)) 1001))).bind fun bt202 => (monocoquelaw32_LifeClones.l0 k l1 l2 0 t196 t197 t198 bt202.1 bt202.2.1 bt202.2.2.1 bt202.2.2.2)) = some r := by rw [if_pos rfl] at H; exact H
    clear H
    have H := H1
    clear H1
    replace H := Option.bind_eq_some_iff.mp H
    obtain ⟨⟨t202, t203, t204, t205⟩, A70, H⟩ := H
    replace H : (monocoquelaw32_LifeClones.l0 k l1 l2 0 t196 t197 t198 t202 t203 t204 t205) = some r := H
    have A7 := Aside0.mk A70
    clear A70
    have HC8 := Aside0.mk H
    clear H
    go_enter Try.func14, Try.ntmps14
    go_upto_block 0 with (first | ((with_reducible refine gate_callee (f := 29) rfl ?_); refine goesL_ (some 21) rfl rfl Try.func29 (by kernel_rfl) rfl #[.int .i64 (wrap64 (Int.tmod (IntKind.u64.wrap (a0)) 1001))] rfl (by (try simp only [List.map_toArray, List.map_cons, List.map_nil]); first | done | rfl | (simp only [List.length_drop, List.length_take]; rfl)) ?_; (with_reducible refine (life_New.calls (wrap64 (Int.tmod (IntKind.u64.wrap (a0)) 1001)) t196 t197 t198 t200 w _ ?side1 A4.out).mono ?_); (case side1 => repeat (first | (with_reducible first | exact HB.out | apply below_alloc | apply pw_below_drewN | apply below_drew1) | exact HB.out)); rintro e w9 ⟨g199, rfl, hi, hb, hb2, hge⟩; refine ⟨_, rfl, ?_⟩; have n0_ := Aside0.mk (hb); have n1_ := Aside0.mk (hi); clear HB; have HB := n0_; have HI199 := n1_; clear n0_ n1_; (try clear hb); (try clear hb2); (try clear hge); (try clear hk); (try clear hi)) | (go_at_call 30; (with_reducible refine (monocoquelaw32_told.calls k  true _ A5.out).mono ?_); rintro e w10 ⟨rfl, hb⟩; have n0_ := Aside0.mk (IsS89.below (by repeat (first | (with_reducible first | exact HI199.out | apply IsS89.alloc | apply IsS89.drewN | apply IsS89.drew | apply IsS89.set_0 | apply IsS89.set_1 | apply IsS89.set_2) | exact HI199.out)) hb); have n1_ := Aside0.mk (below_step (by repeat (first | (with_reducible first | exact HB.out | apply below_alloc | apply pw_below_drewN | apply below_drew1 | refine below_set ?_ (IsS89.ge HI199.out)) | exact HB.out)) hb); clear HI199; clear HB; have HI199 := n0_; have HB := n1_; clear n0_ n1_; (try clear hb); (try clear hb2); (try clear hge); (try clear hk); (try clear hi)) | ((with_reducible refine gate_callee (f := 36) rfl ?_); refine goesL_ (some 31) rfl rfl Try.func36 (by kernel_rfl) rfl #[.int .i64 (wrap64 (Int.tmod (IntKind.u64.wrap (a0)) 1001))] rfl (by (try simp only [List.map_toArray, List.map_cons, List.map_nil]); first | done | rfl | (simp only [List.length_drop, List.length_take]; rfl)) ?_; (with_reducible refine (monocoqueref32_New.calls (wrap64 (Int.tmod (IntKind.u64.wrap (a0)) 1001)) t202 t203 t204 t205 _ A7.out).mono ?_); rintro e w11 ⟨rfl, hb⟩; refine ⟨_, rfl, ?_⟩; have n0_ := Aside0.mk (IsS89.below (by repeat (first | (with_reducible first | exact HI199.out | apply IsS89.alloc | apply IsS89.drewN | apply IsS89.drew | apply IsS89.set_0 | apply IsS89.set_1 | apply IsS89.set_2) | exact HI199.out)) hb); have n1_ := Aside0.mk (below_step (by repeat (first | (with_reducible first | exact HB.out | apply below_alloc | apply pw_below_drewN | apply below_drew1 | refine below_set ?_ (IsS89.ge HI199.out)) | exact HB.out)) hb); clear HI199; clear HB; have HI199 := n0_; have HB := n1_; clear n0_ n1_; (try clear hb); (try clear hb2); (try clear hge); (try clear hk); (try clear hi)) | ((with_reducible refine gate_dst (N := 10) rfl ?_); refine box_event ?hg (N := 10) ?hd (cs := #[.int .i64 0, .int .i64 0, .int .i64 0, .int .i64 0]) (t := 69) ?hr ?_; (case hd => rfl); (case hg => rfl); (case hr => first | (go_simp; done) | (go_simp; rfl)); intro gb206 hg w12 hbox hb; have n0_ := Aside0.mk (IsS89.below (by repeat (first | (with_reducible first | exact HI199.out | apply IsS89.alloc | apply IsS89.drewN | apply IsS89.drew | apply IsS89.set_0 | apply IsS89.set_1 | apply IsS89.set_2) | exact HI199.out)) hb); have n1_ := Aside0.mk (below_step (by repeat (first | (with_reducible first | exact HB.out | apply below_alloc | apply pw_below_drewN | apply below_drew1 | refine below_set ?_ (IsS89.ge HI199.out)) | exact HB.out)) hb); have n2_ := Aside0.mk (hbox); have n3_ := Aside0.mk ((by rw [hg]; exact (below_size (by repeat (first | (with_reducible first | exact HB.out | apply below_alloc | apply pw_below_drewN | apply below_drew1 | refine below_set ?_ (IsS89.ge HI199.out)) | exact HB.out))) : w.heap.size ≤ gb206)); have n4_ := Aside0.mk ((by rw [hg]; exact (below_size (by repeat (first | (with_reducible first | exact HB.out | apply below_alloc | apply pw_below_drewN | apply below_drew1 | refine below_set ?_ (IsS89.ge HI199.out)) | exact HB.out))) : w.heap.size ≤ gb206)); have n5_ := Aside0.mk ((by rw [hg]; exact Nat.ne_of_lt (IsS89.lt (show IsS89 w _ g199 t196 t197 t198 from by repeat (first | (with_reducible first | exact HI199.out | apply IsS89.alloc | apply IsS89.drewN | apply IsS89.drew | apply IsS89.set_0 | apply IsS89.set_1 | apply IsS89.set_2) | exact HI199.out))) : g199 ≠ gb206)); have n6_ := Aside0.mk ((by rw [hg]; exact Nat.ne_of_gt (IsS89.lt (show IsS89 w _ g199 t196 t197 t198 from by repeat (first | (with_reducible first | exact HI199.out | apply IsS89.alloc | apply IsS89.drewN | apply IsS89.drew | apply IsS89.set_0 | apply IsS89.set_1 | apply IsS89.set_2) | exact HI199.out))) : gb206 ≠ g199)); clear HI199; clear HB; have HI199 := n0_; have HB := n1_; have BK206 := n2_; have GW206 := n3_; have GE206 := n4_; have NB199_206 := n5_; have NB206_199 := n6_; clear n0_ n1_ n2_ n3_ n4_ n5_ n6_; clear hb hbox hg; have hnb13 := NB206_199.out; have hnc13 := NB199_206.out; have hcz14_0 : w12.cell? ⟨gb206, 0, none⟩ = some (.int .i64 0) := (blk_cell BK206.out 0).trans rfl; have hcz14_1 : w12.cell? ⟨gb206, 1, none⟩ = some (.int .i64 0) := (blk_cell BK206.out 1).trans rfl; have hcz14_2 : w12.cell? ⟨gb206, 2, none⟩ = some (.int .i64 0) := (blk_cell BK206.out 2).trans rfl; have hcz14_3 : w12.cell? ⟨gb206, 3, none⟩ = some (.int .i64 0) := (blk_cell BK206.out 3).trans rfl; have hfz14_0 := blk_frozen BK206.out 0; have hfz14_1 := blk_frozen BK206.out 1; have hfz14_2 := blk_frozen BK206.out 2; have hfz14_3 := blk_frozen BK206.out 3))
    (try simp only [Act.put, List.setIfInBounds_toArray, List.set_cons_zero, List.set_cons_succ])
    go_cut [] (fun wc => ∃ (kq : Nat) (x200000_7 : Int) (x200001_7 : Int) (x200002_7 : Int) (x207000_7 : Int) (x207001_7 : Int) (x207002_7 : Int) (x207003_7 : Int), Aside0 (monocoquelaw32_LifeClones.j1 kq l2 x200000_7 x200001_7 x200002_7 x207000_7 x207001_7 x207002_7 x207003_7 = some r) ∧ Aside0 (kq ≤ k) ∧ Aside0 (wc.heap[gb206]? = some (.cells #[.int .i64 x207000_7, .int .i64 x207001_7, .int .i64 x207002_7, .int .i64 x207003_7] 69 (0, 0))) ∧ Aside0 (IsS89 w wc g199 x200000_7 x200001_7 x200002_7) ∧ Aside0 (Below w.heap.size w wc))
    case first =>
      have H := HC8.out
      clear HC8
      have H' := Aside0.mk H
      clear H
      go_wp2
      go_loopg [11] k (fun kq v11 w' => ∃ (x11_1 : Int) (x200000_1 : Int) (x200001_1 : Int) (x200002_1 : Int) (x207000_1 : Int) (x207001_1 : Int) (x207002_1 : Int) (x207003_1 : Int), v11 = .int .i64 x11_1 ∧ Aside0 (monocoquelaw32_LifeClones.l0 kq l1 l2 x11_1 x200000_1 x200001_1 x200002_1 x207000_1 x207001_1 x207002_1 x207003_1 = some r) ∧ Aside0 (kq ≤ k) ∧ Aside0 (w'.heap[gb206]? = some (.cells #[.int .i64 x207000_1, .int .i64 x207001_1, .int .i64 x207002_1, .int .i64 x207003_1] 69 (0, 0))) ∧ Aside0 (IsS89 w w' g199 x200000_1 x200001_1 x200002_1) ∧ Aside0 (Below w.heap.size w w'))
      case atStart => exact ⟨(0), (t196), (t197), (t198), (t202), (t203), (t204), (t205), (by first | rfl | (simp; done) | (simp [*]; done)), H', ⟨Nat.le_refl _⟩, ⟨by (with_reducible repeat (first | refine blk_drewN ?_ _ | refine blk_drew ?_ | refine blk_alloc ?_ _)); refine blk_put (cs := #[.int .i64 t202, .int .i64 t203, .int .i64 t204, .int .i64 0]) ?_ 3 _ rfl; (with_reducible repeat (first | refine blk_drewN ?_ _ | refine blk_drew ?_ | refine blk_alloc ?_ _)); refine blk_put (cs := #[.int .i64 t202, .int .i64 t203, .int .i64 0, .int .i64 0]) ?_ 2 _ rfl; (with_reducible repeat (first | refine blk_drewN ?_ _ | refine blk_drew ?_ | refine blk_alloc ?_ _)); refine blk_put (cs := #[.int .i64 t202, .int .i64 0, .int .i64 0, .int .i64 0]) ?_ 1 _ rfl; (with_reducible repeat (first | refine blk_drewN ?_ _ | refine blk_drew ?_ | refine blk_alloc ?_ _)); refine blk_put (cs := #[.int .i64 0, .int .i64 0, .int .i64 0, .int .i64 0]) ?_ 0 _ rfl; (with_reducible repeat (first | refine blk_drewN ?_ _ | refine blk_drew ?_ | refine blk_alloc ?_ _)); exact BK206.out⟩, ⟨by repeat (first | (with_reducible first | exact HI199.out | apply IsS89.alloc | apply IsS89.drewN | apply IsS89.drew | apply IsS89.set_0 | apply IsS89.set_1 | apply IsS89.set_2 | refine IsS89.far ?_ NB199_206.out _) | exact HI199.out)⟩, ⟨by repeat (first | (with_reducible first | exact HB.out | apply below_alloc | apply pw_below_drewN | apply below_drew1 | refine below_set ?_ (IsS89.ge HI199.out) | refine below_set ?_ GE206.out) | exact HB.out)⟩⟩
      case round =>
        clear H'
        try clear c1
        try clear c2
        try clear p2
        try clear c3
        try clear c6
        try clear p6
        try clear c13
        try clear c14
        try clear hcz14_0
        try clear hcz14_1
        try clear hcz14_2
        try clear hcz14_3
        try clear hfz14_0
        try clear hfz14_1
        try clear hfz14_2
        try clear hfz14_3
        obtain ⟨x11_1, x200000_1, x200001_1, x200002_1, x207000_1, x207001_1, x207002_1, x207003_1, rfl, HA, HK1, BK206, HI199, HB⟩ := hrel
        cases gk with
        | zero => exact absurd HA.out (by simp [monocoquelaw32_LifeClones.l0])
        | succ k1 =>
          have H := HA.out
          clear HA
          simp only [monocoquelaw32_LifeClones.l0] at H
          by_cases c15 : x11_1 < (l1.length : Int)
          · rw [if_pos c15] at H
            have c15b0 : decide (x11_1 < (l1.length : Int)) = true := decide_eq_true c15
            clear c15
            (first | rw [c15b0] | (simp only [i64_w, i32_w]; rw [c15b0]) | skip)
            by_cases c16 : x11_1 < 60
            · rw [if_pos c16] at H
              have c16b0 : decide (x11_1 < 60) = true := decide_eq_true c16
              clear c16
              by_cases c17 : 0 ≤ x11_1
              · rw [if_pos c17] at H
                have c17b0 : decide (0 ≤ x11_1) = true := decide_eq_true c17
                clear c17
                replace H := Option.bind_eq_some_iff.mp H
                obtain ⟨⟨t208, t209, t210, t211, t212, t213, t214, t215⟩, A180, H⟩ := H
                replace H : (monocoquelaw32_LifeClones.l0 k1 l1 l2 (wrap64 (x11_1 + 1)) t213 t214 t215 t208 t209 t210 t211) = some r := H
                have A18 := Aside0.mk A180
                clear A180
                have H' := Aside0.mk H
                clear H
                try go_wp2
                have n0_ := Aside0.mk (blk_drew BK206.out)
                have n1_ := Aside0.mk (IsS89.drew HI199.out)
                have n2_ := Aside0.mk (below_drew1 HB.out)
                clear BK206
                clear HI199
                clear HB
                have BK206 := n0_
                have HI199 := n1_
                have HB := n2_
                clear n0_ n1_ n2_
                have p207 : 0 ≤ (x11_1 : Int) := of_decide_eq_true (by first | (with_reducible assumption) | assumption)
                have q207 : x11_1 < (l1.length : Int) := of_decide_eq_true (by first | (with_reducible assumption) | assumption)
                obtain ⟨ad207, e207, hx207_0⟩ := Kd.at_int HR1.out x11_1 p207 q207
                have hw207_0 := hx207_0
                cases e207
                replace hx207_0 := (HB.out.cell (World.block_lt_of_cell? w _ hx207_0)).trans hx207_0
                replace p207 := eq_true p207
                replace q207 := eq_true q207
                refine start_ (n := 11) (S := fun w' => w'.cell? ⟨gb206, 0, none⟩ = some (.int .i64 x207000_1) ∧ w'.cell? ⟨gb206, 1, none⟩ = some (.int .i64 x207001_1) ∧ w'.cell? ⟨gb206, 2, none⟩ = some (.int .i64 x207002_1) ∧ w'.cell? ⟨gb206, 3, none⟩ = some (.int .i64 x207003_1) ∧ w'.cell? (ad207.add (x11_1).toNat) = some (.int .i64 (rd l1 x11_1))) (ds := [10]) #[false, false, false, false, false, false, false, false, false, false, false] (by kernel_rfl) rfl rfl ⟨(blk_cell BK206.out 0).trans rfl, (blk_cell BK206.out 1).trans rfl, (blk_cell BK206.out 2).trans rfl, (blk_cell BK206.out 3).trans rfl, ((HB.out.cell (World.block_lt_of_cell? w _ hw207_0)).trans hw207_0)⟩ (fun hHeld => ?_); refine with_tabW monocoquelaw32_LifeClones.tab9 monocoquelaw32_LifeClones.bits9 (fun HT_ HW_ => ?_)
                generalize wr.drew = w19 at BK206 HI199 HB hx207_0 hHeld ⊢
                refine pure_ (i := 0) (N := some 43) (v := ?_) (a' := ?_) #[true, false, false, false, false, false, false, false, false, false, false] rfl rfl (any_of HT_.out (by kernel_rfl)) (fun _ _ _ h => h) (Or.inl ⟨by rfl, ?_⟩) ?_ ?_
                rotate_left
                · intro w'
                  go_simp
                  with_reducible rfl
                rotate_left
                · simp only [Act.put, List.setIfInBounds_toArray, List.set_cons_zero, List.set_cons_succ, i64_w, i32_w]
                  rfl
                refine pure_ (i := 2) (N := some 45) (v := ?_) (a' := ?_) #[true, false, true, false, false, false, false, false, false, false, false] rfl rfl (any_of HT_.out (by kernel_rfl)) (fun _ _ _ h => h) (Or.inl ⟨by rfl, ?_⟩) ?_ ?_
                rotate_left
                · intro w'
                  go_simp
                  with_reducible rfl
                rotate_left
                · simp only [Act.put, List.setIfInBounds_toArray, List.set_cons_zero, List.set_cons_succ, i64_w, i32_w]
                  rfl
                refine pure_ (i := 3) (N := some 46) (v := ?_) (a' := ?_) #[true, false, true, true, false, false, false, false, false, false, false] rfl rfl (any_of HT_.out (by kernel_rfl)) (fun _ _ _ h => h) (Or.inl ⟨by rfl, ?_⟩) ?_ ?_
                rotate_left
                · intro w'
                  go_simp
                  with_reducible rfl
                rotate_left
                · simp only [Act.put, List.setIfInBounds_toArray, List.set_cons_zero, List.set_cons_succ, i64_w, i32_w]
                  rfl
                refine pure_ (i := 4) (N := some 47) (v := ?_) (a' := ?_) #[true, false, true, true, true, false, false, false, false, false, false] rfl rfl (any_of HT_.out (by kernel_rfl)) (fun _ _ _ h => h) (Or.inl ⟨by rfl, ?_⟩) ?_ ?_
                rotate_left
                · intro w'
                  go_simp
                  with_reducible rfl
                rotate_left
                · simp only [Act.put, List.setIfInBounds_toArray, List.set_cons_zero, List.set_cons_succ, i64_w, i32_w]
                  rfl
                refine take_ (i := 1) (N := some 44) (v := ?_) (a' := ?_) #[true, true, true, true, true, false, false, false, false, false, false] rfl rfl (take_ofW HT_.out HW_.out (by kernel_rfl)) (fun _ _ _ h => h) (Or.inl ⟨by rfl, ?_⟩) hHeld ?_ ?_
                rotate_left
                · rintro w' ⟨s0, s1, s2, s3, s4⟩
                  go_simp
                  with_reducible rfl
                rotate_left
                · simp only [Act.put, List.setIfInBounds_toArray, List.set_cons_zero, List.set_cons_succ, i64_w, i32_w]
                  rfl
                refine take_ (i := 5) (N := some 48) (v := ?_) (a' := ?_) #[true, true, true, true, true, true, false, false, false, false, false] rfl rfl (take_ofW HT_.out HW_.out (by kernel_rfl)) (fun _ _ _ h => h) (Or.inl ⟨by rfl, ?_⟩) hHeld ?_ ?_
                rotate_left
                · rintro w' ⟨s0, s1, s2, s3, s4⟩
                  go_simp
                  with_reducible rfl
                rotate_left
                · simp only [Act.put, List.setIfInBounds_toArray, List.set_cons_zero, List.set_cons_succ, i64_w, i32_w]
                  rfl
                refine one_ (i := 6) (N := some 49) #[true, true, true, true, true, true, true, false, false, false, false] rfl rfl (one_of HT_.out (by kernel_rfl)) (by decide) (fun K hK => ?_)
                refine goes_ Try.func37 (by kernel_rfl) rfl #[.pointer (some ⟨g199, 0, none⟩), .agg #[.int .i64 x207000_1, .int .i64 x207001_1, .int .i64 x207002_1, .int .i64 x207003_1], .int .i64 (rd l1 x11_1)] (by rfl) rfl rfl (by (try simp only [List.map_toArray, List.map_cons, List.map_nil]); first | done | rfl | (simp only [List.length_drop, List.length_take]; rfl)) ?_
                with_reducible refine (monocoquelaw32_do.calls k1 g199 x200000_1 x200001_1 x200002_1 x207000_1 x207001_1 x207002_1 x207003_1 (rd l1 x11_1) t208 t209 t210 t211 t212 t213 t214 t215 w _ ?side1 ?side2 A18.out).mono ?_
                (case side1 => repeat (first | (with_reducible first | exact HI199.out | apply IsS89.alloc | apply IsS89.drewN | apply IsS89.drew | apply IsS89.set_0 | apply IsS89.set_1 | apply IsS89.set_2 | refine IsS89.far ?_ NB199_206.out _) | exact HI199.out))
                (case side2 => repeat (first | (with_reducible first | exact HB.out | apply below_alloc | apply pw_below_drewN | apply below_drew1 | refine below_set ?_ (IsS89.ge HI199.out) | refine below_set ?_ GE206.out) | exact HB.out))
                rintro e w20 ⟨rfl, hi, hb, hk⟩
                refine ⟨_, rfl, ?_⟩
                have n0_ := Aside0.mk (KeepBut.blk hk (g' := gb206) (o := .cells #[.int .i64 x207000_1, .int .i64 x207001_1, .int .i64 x207002_1, .int .i64 x207003_1] 69 (0, 0)) (by (with_reducible repeat (first | refine blk_drewN ?_ _ | refine blk_drew ?_ | refine blk_alloc ?_ _)); exact BK206.out) NB206_199.out (by simp))
                have n1_ := Aside0.mk (hb)
                have n2_ := Aside0.mk (hi)
                clear BK206
                clear HB
                clear HI199
                have BK206 := n0_
                have HB := n1_
                have HI199 := n2_
                clear n0_ n1_ n2_
                (try clear hb)
                (try clear hb2)
                (try clear hge)
                (try clear hk)
                (try clear hi)
                refine hK.out _ _ ⟨(blk_cell BK206.out 0).trans rfl, (blk_cell BK206.out 1).trans rfl, (blk_cell BK206.out 2).trans rfl, (blk_cell BK206.out 3).trans rfl, ((HB.out.cell (World.block_lt_of_cell? w _ hw207_0)).trans hw207_0)⟩ (fun hHeld => ?_)
                clear hK K
                refine norm_ (a' := ?_) ?_ ?_
                rotate_left
                · show Act.put _ (some 49) _ = _
                  simp only [Act.put, List.setIfInBounds_toArray, List.set_cons_zero, List.set_cons_succ, i64_w, i32_w]
                  rfl
                refine pure_ (i := 7) (N := some 42) (v := ?_) (a' := ?_) #[true, true, true, true, true, true, true, true, false, false, false] rfl rfl (any_of HT_.out (by kernel_rfl)) (fun _ _ _ h => h) (Or.inl ⟨by rfl, ?_⟩) ?_ ?_
                rotate_left
                · intro w'
                  go_simp
                  with_reducible rfl
                rotate_left
                · simp only [Act.put, List.setIfInBounds_toArray, List.set_cons_zero, List.set_cons_succ, i64_w, i32_w]
                  rfl
                refine pure_ (i := 8) (N := some 50) (v := ?_) (a' := ?_) #[true, true, true, true, true, true, true, true, true, false, false] rfl rfl (any_of HT_.out (by kernel_rfl)) (fun _ _ _ h => h) (Or.inl ⟨by rfl, ?_⟩) ?_ ?_
                rotate_left
                · intro w'
                  go_simp
                  with_reducible rfl
                rotate_left
                · simp only [Act.put, List.setIfInBounds_toArray, List.set_cons_zero, List.set_cons_succ, i64_w, i32_w]
                  rfl
                refine pure_ (i := 9) (N := some 51) (v := ?_) (a' := ?_) #[true, true, true, true, true, true, true, true, true, true, false] rfl rfl (any_of HT_.out (by kernel_rfl)) (fun _ _ _ h => h) (Or.inl ⟨by rfl, ?_⟩) ?_ ?_
                rotate_left
                · intro w'
                  go_simp
                  with_reducible rfl
                rotate_left
                · simp only [Act.put, List.setIfInBounds_toArray, List.set_cons_zero, List.set_cons_succ, i64_w, i32_w]
                  rfl
                refine last_ (i := 10) (N := none) #[true, true, true, true, true, true, true, true, true, true, true] rfl rfl (one_of HT_.out (by kernel_rfl)) (by decide) (fun K hK => ?_)
                have hs21 : w20.cell? ⟨gb206, 0, none⟩ = some (.int .i64 x207000_1) := (blk_cell BK206.out 0).trans rfl
                have hfs21 := blk_frozen BK206.out 0
                have hs22 : w20.cell? ⟨gb206, 1, none⟩ = some (.int .i64 x207001_1) := (blk_cell BK206.out 1).trans rfl
                have hfs22 := blk_frozen BK206.out 1
                have hs23 : w20.cell? ⟨gb206, 2, none⟩ = some (.int .i64 x207002_1) := (blk_cell BK206.out 2).trans rfl
                have hfs23 := blk_frozen BK206.out 2
                have hs24 : w20.cell? ⟨gb206, 3, none⟩ = some (.int .i64 x207003_1) := (blk_cell BK206.out 3).trans rfl
                have hfs24 := blk_frozen BK206.out 3
                refine skip_ (w1 := ?_) (by rfl) rfl ?_ ?_
                rotate_left
                · go_simp
                  rfl
                refine hK.out _ _ ?_
                clear hK K
                refine done_ (done_of HT_.out (by kernel_rfl)) ?_
                try go_wp2
                go_roundg k1
                case measure => have := HK1.out; omega
                case rel => exact ⟨(wrap64 (x11_1 + 1)), (t213), (t214), (t215), (t208), (t209), (t210), (t211), (by first | rfl | (simp; done) | (simp [*]; done)), H', ⟨by have := HK1.out; omega⟩, ⟨by (with_reducible repeat (first | refine blk_drewN ?_ _ | refine blk_drew ?_ | refine blk_alloc ?_ _)); refine blk_put (cs := #[.int .i64 t208, .int .i64 t209, .int .i64 t210, .int .i64 x207003_1]) ?_ 3 _ rfl; (with_reducible repeat (first | refine blk_drewN ?_ _ | refine blk_drew ?_ | refine blk_alloc ?_ _)); refine blk_put (cs := #[.int .i64 t208, .int .i64 t209, .int .i64 x207002_1, .int .i64 x207003_1]) ?_ 2 _ rfl; (with_reducible repeat (first | refine blk_drewN ?_ _ | refine blk_drew ?_ | refine blk_alloc ?_ _)); refine blk_put (cs := #[.int .i64 t208, .int .i64 x207001_1, .int .i64 x207002_1, .int .i64 x207003_1]) ?_ 1 _ rfl; (with_reducible repeat (first | refine blk_drewN ?_ _ | refine blk_drew ?_ | refine blk_alloc ?_ _)); refine blk_put (cs := #[.int .i64 x207000_1, .int .i64 x207001_1, .int .i64 x207002_1, .int .i64 x207003_1]) ?_ 0 _ rfl; (with_reducible repeat (first | refine blk_drewN ?_ _ | refine blk_drew ?_ | refine blk_alloc ?_ _)); exact BK206.out⟩, ⟨by repeat (first | (with_reducible first | exact HI199.out | apply IsS89.alloc | apply IsS89.drewN | apply IsS89.drew | apply IsS89.set_0 | apply IsS89.set_1 | apply IsS89.set_2 | refine IsS89.far ?_ NB199_206.out _) | exact HI199.out)⟩, ⟨by repeat (first | (with_reducible first | exact HB.out | apply below_alloc | apply pw_below_drewN | apply below_drew1 | refine below_set ?_ (IsS89.ge HI199.out) | refine below_set ?_ GE206.out) | exact HB.out)⟩⟩
              · rw [if_neg c17] at H
                exact absurd H (by simp)
            · rw [if_neg c16] at H
              have c16b0 : decide (x11_1 < 60) = false := decide_eq_false c16
              clear c16
              have H' := Aside0.mk H
              clear H
              go_wp2
              go_meet
              case rel => exact ⟨_, (x200000_1), (x200001_1), (x200002_1), (x207000_1), (x207001_1), (x207002_1), (x207003_1), H', ⟨by have := HK1.out; first | omega | exact Nat.le_refl _⟩, ⟨by (with_reducible repeat (first | refine blk_drewN ?_ _ | refine blk_drew ?_ | refine blk_alloc ?_ _)); exact BK206.out⟩, ⟨by repeat (first | (with_reducible first | exact HI199.out | apply IsS89.alloc | apply IsS89.drewN | apply IsS89.drew | apply IsS89.set_0 | apply IsS89.set_1 | apply IsS89.set_2 | refine IsS89.far ?_ NB199_206.out _) | exact HI199.out)⟩, ⟨by repeat (first | (with_reducible first | exact HB.out | apply below_alloc | apply pw_below_drewN | apply below_drew1 | refine below_set ?_ (IsS89.ge HI199.out) | refine below_set ?_ GE206.out) | exact HB.out)⟩⟩
          · rw [if_neg c15] at H
            have c15b0 : decide (x11_1 < (l1.length : Int)) = false := decide_eq_false c15
            clear c15
            (first | rw [c15b0] | (simp only [i64_w, i32_w]; rw [c15b0]) | skip)
            have H' := Aside0.mk H
            clear H
            go_wp2
            go_meet
            case rel => exact ⟨_, (x200000_1), (x200001_1), (x200002_1), (x207000_1), (x207001_1), (x207002_1), (x207003_1), H', ⟨by have := HK1.out; first | omega | exact Nat.le_refl _⟩, ⟨by (with_reducible repeat (first | refine blk_drewN ?_ _ | refine blk_drew ?_ | refine blk_alloc ?_ _)); exact BK206.out⟩, ⟨by repeat (first | (with_reducible first | exact HI199.out | apply IsS89.alloc | apply IsS89.drewN | apply IsS89.drew | apply IsS89.set_0 | apply IsS89.set_1 | apply IsS89.set_2 | refine IsS89.far ?_ NB199_206.out _) | exact HI199.out)⟩, ⟨by repeat (first | (with_reducible first | exact HB.out | apply below_alloc | apply pw_below_drewN | apply below_drew1 | refine below_set ?_ (IsS89.ge HI199.out) | refine below_set ?_ GE206.out) | exact HB.out)⟩⟩
    case rest =>
      clear HC8
      try clear c1
      try clear c2
      try clear p2
      try clear q2
      try clear hx2
      try clear c3
      try clear c6
      try clear p6
      try clear c13
      try clear c14
      try clear c15
      try clear c15b0
      try clear c16
      try clear c16b0
      try clear c17
      try clear c17b0
      try clear p20
      try clear q20
      try clear hx20
      try clear hcz14_0
      try clear hcz14_1
      try clear hcz14_2
      try clear hcz14_3
      try clear hfz14_0
      try clear hfz14_1
      try clear hfz14_2
      try clear hfz14_3
      try clear hx207_0
      try clear p2
      try clear p207
      try clear p6
      try clear q207
      obtain ⟨kq, x200000_7, x200001_7, x200002_7, x207000_7, x207001_7, x207002_7, x207003_7, HA, HJ7, BK206, HI199, HB⟩ := hcut
      cases kq with
      | zero => exact absurd HA.out (by simp [monocoquelaw32_LifeClones.j1])
      | succ kj7 =>
        have H := HA.out
        clear HA
        simp only [monocoquelaw32_LifeClones.j1] at H
        replace H := Option.bind_eq_some_iff.mp H
        obtain ⟨⟨t216, t217, t218⟩, A250, H⟩ := H
        replace H : ((life_Life_Same.f t216 t217 t218 x200000_7 x200001_7 x200002_7).bind fun t220 => (if t220 = true then ((life_Life_Same.f x200000_7 x200001_7 x200002_7 t216 t217 t218).bind fun t221 => (if t221 = true then ((life_Life_Same_nil1.f x200000_7 x200001_7 x200002_7).bind fun bt222 => (monocoquelaw32_LifeClones.j2 kj7 l2 bt222.1 bt222.2.1 bt222.2.2.1 bt222.2.2.2 x207000_7 x207001_7 x207002_7 x207003_7 t216 t217 t218)) else (monocoquelaw32_LifeClones.j2 kj7 l2 true x200000_7 x200001_7 x200002_7 x207000_7 x207001_7 x207002_7 x207003_7 t216 t217 t218))) else (monocoquelaw32_LifeClones.j2 kj7 l2 true x200000_7 x200001_7 x200002_7 x207000_7 x207001_7 x207002_7 x207003_7 t216 t217 t218))) = some r := H
        have A25 := Aside0.mk A250
        clear A250
        have HC26 := Aside0.mk H
        clear H
        go_upto_region 11 with (first | ((with_reducible refine gate_callee (f := 40) rfl ?_); refine goesL_ (some 53) rfl rfl Try.func40 (by kernel_rfl) rfl #[.pointer (some ⟨g199, 0, none⟩)] rfl (by (try simp only [List.map_toArray, List.map_cons, List.map_nil]); first | done | rfl | (simp only [List.length_drop, List.length_take]; rfl)) ?_; (with_reducible refine (life_Life_Clone.calls g199 x200000_7 x200001_7 x200002_7 t216 t217 t218 w _ ?side1 ?side2 A25.out).mono ?_); (case side1 => repeat (first | (with_reducible first | exact HI199.out | apply IsS89.alloc | apply IsS89.drewN | apply IsS89.drew | apply IsS89.set_0 | apply IsS89.set_1 | apply IsS89.set_2 | refine IsS89.far ?_ NB199_206.out _) | exact HI199.out)); (case side2 => repeat (first | (with_reducible first | exact HB.out | apply below_alloc | apply pw_below_drewN | apply below_drew1 | refine below_set ?_ (IsS89.ge HI199.out) | refine below_set ?_ GE206.out) | exact HB.out)); rintro e w27 ⟨g219, rfl, hi, hb, hb2, hge⟩; refine ⟨_, rfl, ?_⟩; have n0_ := Aside0.mk (blk_below (g := gb206) (o := .cells #[.int .i64 x207000_7, .int .i64 x207001_7, .int .i64 x207002_7, .int .i64 x207003_7] 69 (0, 0)) (by (with_reducible repeat (first | refine blk_drewN ?_ _ | refine blk_drew ?_ | refine blk_alloc ?_ _)); exact BK206.out) hb2); have n1_ := Aside0.mk (IsS89.below (by repeat (first | (with_reducible first | exact HI199.out | apply IsS89.alloc | apply IsS89.drewN | apply IsS89.drew | apply IsS89.set_0 | apply IsS89.set_1 | apply IsS89.set_2 | refine IsS89.far ?_ NB199_206.out _) | exact HI199.out)) hb2); have n2_ := Aside0.mk (hb); have n3_ := Aside0.mk (hi); have n4_ := Aside0.mk ((Nat.ne_of_gt (Nat.lt_of_lt_of_le (IsS89.lt (show IsS89 w _ g199 x200000_7 x200001_7 x200002_7 from by repeat (first | (with_reducible first | exact HI199.out | apply IsS89.alloc | apply IsS89.drewN | apply IsS89.drew | apply IsS89.set_0 | apply IsS89.set_1 | apply IsS89.set_2 | refine IsS89.far ?_ NB199_206.out _) | exact HI199.out))) hge) : g219 ≠ g199)); have n5_ := Aside0.mk ((Ne.symm (Nat.ne_of_gt (Nat.lt_of_lt_of_le (IsS89.lt (show IsS89 w _ g199 x200000_7 x200001_7 x200002_7 from by repeat (first | (with_reducible first | exact HI199.out | apply IsS89.alloc | apply IsS89.drewN | apply IsS89.drew | apply IsS89.set_0 | apply IsS89.set_1 | apply IsS89.set_2 | refine IsS89.far ?_ NB199_206.out _) | exact HI199.out))) hge) : g219 ≠ g199) : g199 ≠ g219)); have n6_ := Aside0.mk (IsS89.ne_blk hi (blk_below (g := gb206) (o := .cells #[.int .i64 x207000_7, .int .i64 x207001_7, .int .i64 x207002_7, .int .i64 x207003_7] 69 (0, 0)) (by (with_reducible repeat (first | refine blk_drewN ?_ _ | refine blk_drew ?_ | refine blk_alloc ?_ _)); exact BK206.out) hb2) (by decide)); have n7_ := Aside0.mk (Ne.symm (IsS89.ne_blk hi (blk_below (g := gb206) (o := .cells #[.int .i64 x207000_7, .int .i64 x207001_7, .int .i64 x207002_7, .int .i64 x207003_7] 69 (0, 0)) (by (with_reducible repeat (first | refine blk_drewN ?_ _ | refine blk_drew ?_ | refine blk_alloc ?_ _)); exact BK206.out) hb2) (by decide))); clear BK206; clear HI199; clear HB; have BK206 := n0_; have HI199 := n1_; have HB := n2_; have HI219 := n3_; have NS219_199 := n4_; have NS199_219 := n5_; have NB219_206 := n6_; have NB206_219 := n7_; clear n0_ n1_ n2_ n3_ n4_ n5_ n6_ n7_; (try clear hb); (try clear hb2); (try clear hge); (try clear hk); (try clear hi)))
        (try simp only [Act.put, List.setIfInBounds_toArray, List.set_cons_zero, List.set_cons_succ])
        go_cut [76] (fun v76 wc => ∃ (kq : Nat) (x76_25 : Bool) (x200000_25 : Int) (x200001_25 : Int) (x200002_25 : Int) (x220000_25 : Int) (x220001_25 : Int) (x220002_25 : Int), v76 = .bool x76_25 ∧ Aside0 (monocoquelaw32_LifeClones.j2 kq l2 x76_25 x200000_25 x200001_25 x200002_25 x207000_7 x207001_7 x207002_7 x207003_7 x220000_25 x220001_25 x220002_25 = some r) ∧ Aside0 (kq ≤ kj7) ∧ Aside0 (wc.heap[gb206]? = some (.cells #[.int .i64 x207000_7, .int .i64 x207001_7, .int .i64 x207002_7, .int .i64 x207003_7] 69 (0, 0))) ∧ Aside0 (IsS89 w wc g199 x200000_25 x200001_25 x200002_25) ∧ Aside0 (IsS89 w wc g219 x220000_25 x220001_25 x220002_25) ∧ Aside0 (Below w.heap.size w wc))
        case first =>
          have H := HC26.out
          clear HC26
          replace H := Option.bind_eq_some_iff.mp H
          obtain ⟨t220, A280, H⟩ := H
          replace H : (if t220 = true then ((life_Life_Same.f x200000_7 x200001_7 x200002_7 t216 t217 t218).bind fun t221 => (if t221 = true then ((life_Life_Same_nil1.f x200000_7 x200001_7 x200002_7).bind fun bt222 => (monocoquelaw32_LifeClones.j2 kj7 l2 bt222.1 bt222.2.1 bt222.2.2.1 bt222.2.2.2 x207000_7 x207001_7 x207002_7 x207003_7 t216 t217 t218)) else (monocoquelaw32_LifeClones.j2 kj7 l2 true x200000_7 x200001_7 x200002_7 x207000_7 x207001_7 x207002_7 x207003_7 t216 t217 t218))) else (monocoquelaw32_LifeClones.j2 kj7 l2 true x200000_7 x200001_7 x200002_7 x207000_7 x207001_7 x207002_7 x207003_7 t216 t217 t218)) = some r := H
          have A28 := Aside0.mk A280
          clear A280
          by_cases c29 : t220 = true
          · subst c29
            have H1 : ((life_Life_Same.f x200000_7 x200001_7 x200002_7 t216 t217 t218).bind fun t221 => (if t221 = true then ((life_Life_Same_nil1.f x200000_7 x200001_7 x200002_7).bind fun bt222 => (monocoquelaw32_LifeClones.j2 kj7 l2 bt222.1 bt222.2.1 bt222.2.2.1 bt222.2.2.2 x207000_7 x207001_7 x207002_7 x207003_7 t216 t217 t218)) else (monocoquelaw32_LifeClones.j2 kj7 l2 true x200000_7 x200001_7 x200002_7 x207000_7 x207001_7 x207002_7 x207003_7 t216 t217 t218))) = some r := by rw [if_pos rfl] at H; exact H
            clear H
            have H := H1
            clear H1
            replace H := Option.bind_eq_some_iff.mp H
            obtain ⟨t221, A300, H⟩ := H
            replace H : (if t221 = true then ((life_Life_Same_nil1.f x200000_7 x200001_7 x200002_7).bind fun bt222 => (monocoquelaw32_LifeClones.j2 kj7 l2 bt222.1 bt222.2.1 bt222.2.2.1 bt222.2.2.2 x207000_7 x207001_7 x207002_7 x207003_7 t216 t217 t218)) else (monocoquelaw32_LifeClones.j2 kj7 l2 true x200000_7 x200001_7 x200002_7 x207000_7 x207001_7 x207002_7 x207003_7 t216 t217 t218)) = some r := H
            have A30 := Aside0.mk A300
            clear A300
            by_cases c31 : t221 = true
            · subst c31
              have H1 : ((life_Life_Same_nil1.f x200000_7 x200001_7 x200002_7).bind fun bt222 => (monocoquelaw32_LifeClones.j2 kj7 l2 bt222.1 bt222.2.1 bt222.2.2.1 bt222.2.2.2 x207000_7 x207001_7 x207002_7 x207003_7 t216 t217 t218)) = some r := by rw [if_pos rfl] at H; exact H
              clear H
              have H := H1
              clear H1
              replace H := Option.bind_eq_some_iff.mp H
              obtain ⟨⟨t222, t223, t224, t225⟩, A320, H⟩ := H
              replace H : (monocoquelaw32_LifeClones.j2 kj7 l2 t222 t223 t224 t225 x207000_7 x207001_7 x207002_7 x207003_7 t216 t217 t218) = some r := H
              have A32 := Aside0.mk A320
              clear A320
              have H' := Aside0.mk H
              clear H
              have hpe33 := eql_other (P := Try.prog) w27 Try.underlying58 info89 (by decide) NS219_199.out (show _ ∧ _ from HI219.out).1 (show _ ∧ _ from HI199.out).1
              go_wp2_with (first | (go_at_call 41; (with_reducible refine (life_Life_Same.calls g219 t216 t217 t218 g199 x200000_7 x200001_7 x200002_7 true w _ ?side1 ?side2 ?side3 A28.out).mono ?_); (case side1 => repeat (first | (with_reducible first | exact HI219.out | apply IsS89.alloc | apply IsS89.drewN | apply IsS89.drew | apply IsS89.set_0 | apply IsS89.set_1 | apply IsS89.set_2 | refine IsS89.far ?_ NB219_206.out _) | exact HI219.out)); (case side2 => repeat (first | (with_reducible first | exact HI199.out | apply IsS89.alloc | apply IsS89.drewN | apply IsS89.drew | apply IsS89.set_0 | apply IsS89.set_1 | apply IsS89.set_2 | refine IsS89.far ?_ NB199_206.out _) | exact HI199.out)); (case side3 => repeat (first | (with_reducible first | exact HB.out | apply below_alloc | apply pw_below_drewN | apply below_drew1 | refine below_set ?_ (IsS89.ge HI199.out) | refine below_set ?_ (IsS89.ge HI219.out) | refine below_set ?_ GE206.out) | exact HB.out)); rintro e w' ⟨rfl, ⟨nd, rfl⟩⟩) | (go_at_call 41; (with_reducible refine (life_Life_Same.calls g199 x200000_7 x200001_7 x200002_7 g219 t216 t217 t218 true w _ ?side1 ?side2 ?side3 A30.out).mono ?_); (case side1 => repeat (first | (with_reducible first | exact HI199.out | apply IsS89.alloc | apply IsS89.drewN | apply IsS89.drew | apply IsS89.set_0 | apply IsS89.set_1 | apply IsS89.set_2 | refine IsS89.far ?_ NB199_206.out _) | exact HI199.out)); (case side2 => repeat (first | (with_reducible first | exact HI219.out | apply IsS89.alloc | apply IsS89.drewN | apply IsS89.drew | apply IsS89.set_0 | apply IsS89.set_1 | apply IsS89.set_2 | refine IsS89.far ?_ NB219_206.out _) | exact HI219.out)); (case side3 => repeat (first | (with_reducible first | exact HB.out | apply below_alloc | apply pw_below_drewN | apply below_drew1 | refine below_set ?_ (IsS89.ge HI199.out) | refine below_set ?_ (IsS89.ge HI219.out) | refine below_set ?_ GE206.out) | exact HB.out)); rintro e w' ⟨rfl, ⟨nd, rfl⟩⟩) | (go_at_call 41; (with_reducible refine (life_Life_Same_nil1.calls g199 x200000_7 x200001_7 x200002_7  t222 t223 t224 t225 w _ ?side1 ?side2 A32.out).mono ?_); (case side1 => repeat (first | (with_reducible first | exact HI199.out | apply IsS89.alloc | apply IsS89.drewN | apply IsS89.drew | apply IsS89.set_0 | apply IsS89.set_1 | apply IsS89.set_2 | refine IsS89.far ?_ NB199_206.out _) | exact HI199.out)); (case side2 => repeat (first | (with_reducible first | exact HB.out | apply below_alloc | apply pw_below_drewN | apply below_drew1 | refine below_set ?_ (IsS89.ge HI199.out) | refine below_set ?_ (IsS89.ge HI219.out) | refine below_set ?_ GE206.out) | exact HB.out)); rintro e w34 ⟨rfl, hi, hb, hk⟩; have n0_ := Aside0.mk (KeepBut.blk hk (g' := gb206) (o := .cells #[.int .i64 x207000_7, .int .i64 x207001_7, .int .i64 x207002_7, .int .i64 x207003_7] 69 (0, 0)) (by (with_reducible repeat (first | refine blk_drewN ?_ _ | refine blk_drew ?_ | refine blk_alloc ?_ _)); exact BK206.out) NB206_199.out (by simp)); have n1_ := Aside0.mk (IsS89.other (show IsS89 w _ g219 t216 t217 t218 from by repeat (first | (with_reducible first | exact HI219.out | apply IsS89.alloc | apply IsS89.drewN | apply IsS89.drew | apply IsS89.set_0 | apply IsS89.set_1 | apply IsS89.set_2 | refine IsS89.far ?_ NB219_206.out _) | exact HI219.out)) hk NS219_199.out); have n2_ := Aside0.mk (hb); have n3_ := Aside0.mk (hi); clear BK206; clear HI219; clear HB; clear HI199; have BK206 := n0_; have HI219 := n1_; have HB := n2_; have HI199 := n3_; clear n0_ n1_ n2_ n3_; (try clear hb); (try clear hb2); (try clear hge); (try clear hk); (try clear hi)))
              go_meet
              case rel => exact ⟨_, (t222), (t223), (t224), (t225), (t216), (t217), (t218), (by first | rfl | (simp; done) | (simp [*]; done)), H', ⟨by have := HJ7.out; first | omega | exact Nat.le_refl _⟩, ⟨by (with_reducible repeat (first | refine blk_drewN ?_ _ | refine blk_drew ?_ | refine blk_alloc ?_ _)); exact BK206.out⟩, ⟨by repeat (first | (with_reducible first | exact HI199.out | apply IsS89.alloc | apply IsS89.drewN | apply IsS89.drew | apply IsS89.set_0 | apply IsS89.set_1 | apply IsS89.set_2 | refine IsS89.far ?_ NB199_206.out _) | exact HI199.out)⟩, ⟨by repeat (first | (with_reducible first | exact HI219.out | apply IsS89.alloc | apply IsS89.drewN | apply IsS89.drew | apply IsS89.set_0 | apply IsS89.set_1 | apply IsS89.set_2 | refine IsS89.far ?_ NB219_206.out _) | exact HI219.out)⟩, ⟨by repeat (first | (with_reducible first | exact HB.out | apply below_alloc | apply pw_below_drewN | apply below_drew1 | refine below_set ?_ (IsS89.ge HI199.out) | refine below_set ?_ (IsS89.ge HI219.out) | refine below_set ?_ GE206.out) | exact HB.out)⟩⟩
            · replace c31 := Bool.eq_false_iff.mpr c31
              subst c31
              have H1 : (monocoquelaw32_LifeClones.j2 kj7 l2 true x200000_7 x200001_7 x200002_7 x207000_7 x207001_7 x207002_7 x207003_7 t216 t217 t218) = some r := by rw [if_neg (show ¬ (false = true) by decide)] at H; exact H
              clear H
              have H := H1
              clear H1
              have H' := Aside0.mk H
              clear H
              have hpe35 := eql_other (P := Try.prog) w27 Try.underlying58 info89 (by decide) NS219_199.out (show _ ∧ _ from HI219.out).1 (show _ ∧ _ from HI199.out).1
              go_wp2_with (first | (go_at_call 41; (with_reducible refine (life_Life_Same.calls g219 t216 t217 t218 g199 x200000_7 x200001_7 x200002_7 true w _ ?side1 ?side2 ?side3 A28.out).mono ?_); (case side1 => repeat (first | (with_reducible first | exact HI219.out | apply IsS89.alloc | apply IsS89.drewN | apply IsS89.drew | apply IsS89.set_0 | apply IsS89.set_1 | apply IsS89.set_2 | refine IsS89.far ?_ NB219_206.out _) | exact HI219.out)); (case side2 => repeat (first | (with_reducible first | exact HI199.out | apply IsS89.alloc | apply IsS89.drewN | apply IsS89.drew | apply IsS89.set_0 | apply IsS89.set_1 | apply IsS89.set_2 | refine IsS89.far ?_ NB199_206.out _) | exact HI199.out)); (case side3 => repeat (first | (with_reducible first | exact HB.out | apply below_alloc | apply pw_below_drewN | apply below_drew1 | refine below_set ?_ (IsS89.ge HI199.out) | refine below_set ?_ (IsS89.ge HI219.out) | refine below_set ?_ GE206.out) | exact HB.out)); rintro e w' ⟨rfl, ⟨nd, rfl⟩⟩) | (go_at_call 41; (with_reducible refine (life_Life_Same.calls g199 x200000_7 x200001_7 x200002_7 g219 t216 t217 t218 false w _ ?side1 ?side2 ?side3 A30.out).mono ?_); (case side1 => repeat (first | (with_reducible first | exact HI199.out | apply IsS89.alloc | apply IsS89.drewN | apply IsS89.drew | apply IsS89.set_0 | apply IsS89.set_1 | apply IsS89.set_2 | refine IsS89.far ?_ NB199_206.out _) | exact HI199.out)); (case side2 => repeat (first | (with_reducible first | exact HI219.out | apply IsS89.alloc | apply IsS89.drewN | apply IsS89.drew | apply IsS89.set_0 | apply IsS89.set_1 | apply IsS89.set_2 | refine IsS89.far ?_ NB219_206.out _) | exact HI219.out)); (case side3 => repeat (first | (with_reducible first | exact HB.out | apply below_alloc | apply pw_below_drewN | apply below_drew1 | refine below_set ?_ (IsS89.ge HI199.out) | refine below_set ?_ (IsS89.ge HI219.out) | refine below_set ?_ GE206.out) | exact HB.out)); rintro e w' ⟨rfl, ⟨nd, rfl⟩⟩))
              go_meet
              case rel => exact ⟨_, (true), (x200000_7), (x200001_7), (x200002_7), (t216), (t217), (t218), (by first | rfl | (simp; done) | (simp [*]; done)), H', ⟨by have := HJ7.out; first | omega | exact Nat.le_refl _⟩, ⟨by (with_reducible repeat (first | refine blk_drewN ?_ _ | refine blk_drew ?_ | refine blk_alloc ?_ _)); exact BK206.out⟩, ⟨by repeat (first | (with_reducible first | exact HI199.out | apply IsS89.alloc | apply IsS89.drewN | apply IsS89.drew | apply IsS89.set_0 | apply IsS89.set_1 | apply IsS89.set_2 | refine IsS89.far ?_ NB199_206.out _) | exact HI199.out)⟩, ⟨by repeat (first | (with_reducible first | exact HI219.out | apply IsS89.alloc | apply IsS89.drewN | apply IsS89.drew | apply IsS89.set_0 | apply IsS89.set_1 | apply IsS89.set_2 | refine IsS89.far ?_ NB219_206.out _) | exact HI219.out)⟩, ⟨by repeat (first | (with_reducible first | exact HB.out | apply below_alloc | apply pw_below_drewN | apply below_drew1 | refine below_set ?_ (IsS89.ge HI199.out) | refine below_set ?_ (IsS89.ge HI219.out) | refine below_set ?_ GE206.out) | exact HB.out)⟩⟩
          · replace c29 := Bool.eq_false_iff.mpr c29
            subst c29
            have H1 : (monocoquelaw32_LifeClones.j2 kj7 l2 true x200000_7 x200001_7 x200002_7 x207000_7 x207001_7 x207002_7 x207003_7 t216 t217 t218) = some r := by rw [if_neg (show ¬ (false = true) by decide)] at H; exact H
            clear H
            have H := H1
            clear H1
            have H' := Aside0.mk H
            clear H
            have hpe36 := eql_other (P := Try.prog) w27 Try.underlying58 info89 (by decide) NS219_199.out (show _ ∧ _ from HI219.out).1 (show _ ∧ _ from HI199.out).1
            go_wp2_with (first | (go_at_call 41; (with_reducible refine (life_Life_Same.calls g219 t216 t217 t218 g199 x200000_7 x200001_7 x200002_7 false w _ ?side1 ?side2 ?side3 A28.out).mono ?_); (case side1 => repeat (first | (with_reducible first | exact HI219.out | apply IsS89.alloc | apply IsS89.drewN | apply IsS89.drew | apply IsS89.set_0 | apply IsS89.set_1 | apply IsS89.set_2 | refine IsS89.far ?_ NB219_206.out _) | exact HI219.out)); (case side2 => repeat (first | (with_reducible first | exact HI199.out | apply IsS89.alloc | apply IsS89.drewN | apply IsS89.drew | apply IsS89.set_0 | apply IsS89.set_1 | apply IsS89.set_2 | refine IsS89.far ?_ NB199_206.out _) | exact HI199.out)); (case side3 => repeat (first | (with_reducible first | exact HB.out | apply below_alloc | apply pw_below_drewN | apply below_drew1 | refine below_set ?_ (IsS89.ge HI199.out) | refine below_set ?_ (IsS89.ge HI219.out) | refine below_set ?_ GE206.out) | exact HB.out)); rintro e w' ⟨rfl, ⟨nd, rfl⟩⟩))
            go_meet
            case rel => exact ⟨_, (true), (x200000_7), (x200001_7), (x200002_7), (t216), (t217), (t218), (by first | rfl | (simp; done) | (simp [*]; done)), H', ⟨by have := HJ7.out; first | omega | exact Nat.le_refl _⟩, ⟨by (with_reducible repeat (first | refine blk_drewN ?_ _ | refine blk_drew ?_ | refine blk_alloc ?_ _)); exact BK206.out⟩, ⟨by repeat (first | (with_reducible first | exact HI199.out | apply IsS89.alloc | apply IsS89.drewN | apply IsS89.drew | apply IsS89.set_0 | apply IsS89.set_1 | apply IsS89.set_2 | refine IsS89.far ?_ NB199_206.out _) | exact HI199.out)⟩, ⟨by repeat (first | (with_reducible first | exact HI219.out | apply IsS89.alloc | apply IsS89.drewN | apply IsS89.drew | apply IsS89.set_0 | apply IsS89.set_1 | apply IsS89.set_2 | refine IsS89.far ?_ NB219_206.out _) | exact HI219.out)⟩, ⟨by repeat (first | (with_reducible first | exact HB.out | apply below_alloc | apply pw_below_drewN | apply below_drew1 | refine below_set ?_ (IsS89.ge HI199.out) | refine below_set ?_ (IsS89.ge HI219.out) | refine below_set ?_ GE206.out) | exact HB.out)⟩⟩
        case rest =>
          clear HC26
          try clear c1
          try clear c2
          try clear p2
          try clear q2
          try clear hx2
          try clear c3
          try clear c4
          try clear c6
          try clear p6
          try clear c13
          try clear c14
          try clear c15
          try clear c15b0
          try clear c16
          try clear c16b0
          try clear c17
          try clear c17b0
          try clear p20
          try clear q20
          try clear hx20
          try clear c29
          try clear c31
          try clear c36
          try clear hcz14_0
          try clear hcz14_1
          try clear hcz14_2
          try clear hcz14_3
          try clear hfz14_0
          try clear hfz14_1
          try clear hfz14_2
          try clear hfz14_3
          try clear hx207_0
          try clear p2
          try clear p20
          try clear p207
          try clear p6
          try clear q2
          try clear q20
          try clear q207
          obtain ⟨kq, x76_25, x200000_25, x200001_25, x200002_25, x220000_25, x220001_25, x220002_25, rfl, HA, HJ25, BK206, HI199, HI219, HB⟩ := hcut
          cases kq with
          | zero => exact absurd HA.out (by simp [monocoquelaw32_LifeClones.j2])
          | succ kj25 =>
            have H := HA.out
            clear HA
            simp only [monocoquelaw32_LifeClones.j2] at H
            by_cases c37 : x76_25 = true
            · subst c37
              have H1 : (some false) = some r := by rw [if_pos rfl] at H; exact H
              clear H
              have H := H1
              clear H1
              obtain rfl := Option.some.inj H
              go_wp2
              go_ret
              exact ⟨by first | rfl | (simp [errW_none, errW_some] <;> rfl) | (simp [*, errW_none, errW_some] <;> rfl), by repeat (first | (with_reducible first | exact HB.out | apply below_alloc | apply pw_below_drewN | apply below_drew1 | refine below_set ?_ (IsS89.ge HI199.out) | refine below_set ?_ (IsS89.ge HI219.out) | refine below_set ?_ GE206.out) | exact HB.out)⟩
            · replace c37 := Bool.eq_false_iff.mpr c37
              subst c37
              have H1 : (monocoquelaw32_LifeClones.l1 kj25 l2 0 x200000_25 x200001_25 x200002_25 x207000_7 x207001_7 x207002_7 x207003_7 x220000_25 x220001_25 x220002_25 x207000_7 x207001_7 x207002_7 x207003_7) = some r := by rw [if_neg (show ¬ (false = true) by decide)] at H; exact H
              clear H
              have H := H1
              clear H1
              have H' := Aside0.mk H
              clear H
              have hnb38 := NB206_199.out
              have hnc38 := NB199_206.out
              have hnb39 := NB206_219.out
              have hnc39 := NB219_206.out
              have hcz40_0 : wc.cell? ⟨gb206, 0, none⟩ = some (.int .i64 x207000_7) := (blk_cell BK206.out 0).trans rfl
              have hcz40_1 : wc.cell? ⟨gb206, 1, none⟩ = some (.int .i64 x207001_7) := (blk_cell BK206.out 1).trans rfl
              have hcz40_2 : wc.cell? ⟨gb206, 2, none⟩ = some (.int .i64 x207002_7) := (blk_cell BK206.out 2).trans rfl
              have hcz40_3 : wc.cell? ⟨gb206, 3, none⟩ = some (.int .i64 x207003_7) := (blk_cell BK206.out 3).trans rfl
              have hfz40_0 := blk_frozen BK206.out 0
              have hfz40_1 := blk_frozen BK206.out 1
              have hfz40_2 := blk_frozen BK206.out 2
              have hfz40_3 := blk_frozen BK206.out 3
              go_wp2_with (first | ((with_reducible refine gate_dst (N := 13) rfl ?_); refine box_event ?hg (N := 13) ?hd (cs := #[.int .i64 0, .int .i64 0, .int .i64 0, .int .i64 0]) (t := 69) ?hr ?_; (case hd => rfl); (case hg => rfl); (case hr => first | (go_simp; done) | (go_simp; rfl)); intro gb226 hg w41 hbox hb; have n0_ := Aside0.mk (blk_below (g := gb206) (o := .cells #[.int .i64 x207000_7, .int .i64 x207001_7, .int .i64 x207002_7, .int .i64 x207003_7] 69 (0, 0)) (by (with_reducible repeat (first | refine blk_drewN ?_ _ | refine blk_drew ?_ | refine blk_alloc ?_ _)); exact BK206.out) hb); have n1_ := Aside0.mk (IsS89.below (by repeat (first | (with_reducible first | exact HI199.out | apply IsS89.alloc | apply IsS89.drewN | apply IsS89.drew | apply IsS89.set_0 | apply IsS89.set_1 | apply IsS89.set_2 | refine IsS89.far ?_ NB199_206.out _) | exact HI199.out)) hb); have n2_ := Aside0.mk (IsS89.below (by repeat (first | (with_reducible first | exact HI219.out | apply IsS89.alloc | apply IsS89.drewN | apply IsS89.drew | apply IsS89.set_0 | apply IsS89.set_1 | apply IsS89.set_2 | refine IsS89.far ?_ NB219_206.out _) | exact HI219.out)) hb); have n3_ := Aside0.mk (below_step (by repeat (first | (with_reducible first | exact HB.out | apply below_alloc | apply pw_below_drewN | apply below_drew1 | refine below_set ?_ (IsS89.ge HI199.out) | refine below_set ?_ (IsS89.ge HI219.out) | refine below_set ?_ GE206.out) | exact HB.out)) hb); have n4_ := Aside0.mk (hbox); have n5_ := Aside0.mk ((by rw [hg]; exact (below_size (by repeat (first | (with_reducible first | exact HB.out | apply below_alloc | apply pw_below_drewN | apply below_drew1 | refine below_set ?_ (IsS89.ge HI199.out) | refine below_set ?_ (IsS89.ge HI219.out) | refine below_set ?_ GE206.out) | exact HB.out))) : w.heap.size ≤ gb226)); have n6_ := Aside0.mk ((by rw [hg]; exact (below_size (by repeat (first | (with_reducible first | exact HB.out | apply below_alloc | apply pw_below_drewN | apply below_drew1 | refine below_set ?_ (IsS89.ge HI199.out) | refine below_set ?_ (IsS89.ge HI219.out) | refine below_set ?_ GE206.out) | exact HB.out))) : w.heap.size ≤ gb226)); have n7_ := Aside0.mk ((by rw [hg]; exact Nat.ne_of_lt (blk_lt (g := gb206) (o := .cells #[.int .i64 x207000_7, .int .i64 x207001_7, .int .i64 x207002_7, .int .i64 x207003_7] 69 (0, 0)) (by (with_reducible repeat (first | refine blk_drewN ?_ _ | refine blk_drew ?_ | refine blk_alloc ?_ _)); exact BK206.out)) : gb206 ≠ gb226)); have n8_ := Aside0.mk ((by rw [hg]; exact Nat.ne_of_gt (blk_lt (g := gb206) (o := .cells #[.int .i64 x207000_7, .int .i64 x207001_7, .int .i64 x207002_7, .int .i64 x207003_7] 69 (0, 0)) (by (with_reducible repeat (first | refine blk_drewN ?_ _ | refine blk_drew ?_ | refine blk_alloc ?_ _)); exact BK206.out)) : gb226 ≠ gb206)); have n9_ := Aside0.mk ((by rw [hg]; exact Nat.ne_of_lt (IsS89.lt (show IsS89 w _ g199 x200000_25 x200001_25 x200002_25 from by repeat (first | (with_reducible first | exact HI199.out | apply IsS89.alloc | apply IsS89.drewN | apply IsS89.drew | apply IsS89.set_0 | apply IsS89.set_1 | apply IsS89.set_2 | refine IsS89.far ?_ NB199_206.out _) | exact HI199.out))) : g199 ≠ gb226)); have n10_ := Aside0.mk ((by rw [hg]; exact Nat.ne_of_gt (IsS89.lt (show IsS89 w _ g199 x200000_25 x200001_25 x200002_25 from by repeat (first | (with_reducible first | exact HI199.out | apply IsS89.alloc | apply IsS89.drewN | apply IsS89.drew | apply IsS89.set_0 | apply IsS89.set_1 | apply IsS89.set_2 | refine IsS89.far ?_ NB199_206.out _) | exact HI199.out))) : gb226 ≠ g199)); have n11_ := Aside0.mk ((by rw [hg]; exact Nat.ne_of_lt (IsS89.lt (show IsS89 w _ g219 x220000_25 x220001_25 x220002_25 from by repeat (first | (with_reducible first | exact HI219.out | apply IsS89.alloc | apply IsS89.drewN | apply IsS89.drew | apply IsS89.set_0 | apply IsS89.set_1 | apply IsS89.set_2 | refine IsS89.far ?_ NB219_206.out _) | exact HI219.out))) : g219 ≠ gb226)); have n12_ := Aside0.mk ((by rw [hg]; exact Nat.ne_of_gt (IsS89.lt (show IsS89 w _ g219 x220000_25 x220001_25 x220002_25 from by repeat (first | (with_reducible first | exact HI219.out | apply IsS89.alloc | apply IsS89.drewN | apply IsS89.drew | apply IsS89.set_0 | apply IsS89.set_1 | apply IsS89.set_2 | refine IsS89.far ?_ NB219_206.out _) | exact HI219.out))) : gb226 ≠ g219)); clear BK206; clear HI199; clear HI219; clear HB; have BK206 := n0_; have HI199 := n1_; have HI219 := n2_; have HB := n3_; have BK226 := n4_; have GW226 := n5_; have GE226 := n6_; have NB206_226 := n7_; have NB226_206 := n8_; have NB199_226 := n9_; have NB226_199 := n10_; have NB219_226 := n11_; have NB226_219 := n12_; clear n0_ n1_ n2_ n3_ n4_ n5_ n6_ n7_ n8_ n9_ n10_ n11_ n12_; clear hb hbox hg; have hnb42 := NB226_206.out; have hnc42 := NB206_226.out; have hnb43 := NB226_199.out; have hnc43 := NB199_226.out; have hnb44 := NB226_219.out; have hnc44 := NB219_226.out; have hcz45_0 : w41.cell? ⟨gb226, 0, none⟩ = some (.int .i64 0) := (blk_cell BK226.out 0).trans rfl; have hcz45_1 : w41.cell? ⟨gb226, 1, none⟩ = some (.int .i64 0) := (blk_cell BK226.out 1).trans rfl; have hcz45_2 : w41.cell? ⟨gb226, 2, none⟩ = some (.int .i64 0) := (blk_cell BK226.out 2).trans rfl; have hcz45_3 : w41.cell? ⟨gb226, 3, none⟩ = some (.int .i64 0) := (blk_cell BK226.out 3).trans rfl; have hfz45_0 := blk_frozen BK226.out 0; have hfz45_1 := blk_frozen BK226.out 1; have hfz45_2 := blk_frozen BK226.out 2; have hfz45_3 := blk_frozen BK226.out 3))
              go_loopg [14] kj25 (fun kq v14 w' => ∃ (x14_3 : Int) (x200000_3 : Int) (x200001_3 : Int) (x200002_3 : Int) (x220000_3 : Int) (x220001_3 : Int) (x220002_3 : Int) (x227000_3 : Int) (x227001_3 : Int) (x227002_3 : Int) (x227003_3 : Int), v14 = .int .i64 x14_3 ∧ Aside0 (monocoquelaw32_LifeClones.l1 kq l2 x14_3 x200000_3 x200001_3 x200002_3 x207000_7 x207001_7 x207002_7 x207003_7 x220000_3 x220001_3 x220002_3 x227000_3 x227001_3 x227002_3 x227003_3 = some r) ∧ Aside0 (kq ≤ kj25) ∧ Aside0 (w'.heap[gb206]? = some (.cells #[.int .i64 x207000_7, .int .i64 x207001_7, .int .i64 x207002_7, .int .i64 x207003_7] 69 (0, 0))) ∧ Aside0 (w'.heap[gb226]? = some (.cells #[.int .i64 x227000_3, .int .i64 x227001_3, .int .i64 x227002_3, .int .i64 x227003_3] 69 (0, 0))) ∧ Aside0 (IsS89 w w' g199 x200000_3 x200001_3 x200002_3) ∧ Aside0 (IsS89 w w' g219 x220000_3 x220001_3 x220002_3) ∧ Aside0 (Below w.heap.size w w'))
              case atStart => exact ⟨(0), (x200000_25), (x200001_25), (x200002_25), (x220000_25), (x220001_25), (x220002_25), (x207000_7), (x207001_7), (x207002_7), (x207003_7), (by first | rfl | (simp; done) | (simp [*]; done)), H', ⟨Nat.le_refl _⟩, ⟨by (with_reducible repeat (first | refine blk_drewN ?_ _ | refine blk_drew ?_ | refine blk_alloc ?_ _)); refine blk_far ?_ NB206_226.out _; (with_reducible repeat (first | refine blk_drewN ?_ _ | refine blk_drew ?_ | refine blk_alloc ?_ _)); refine blk_far ?_ NB206_226.out _; (with_reducible repeat (first | refine blk_drewN ?_ _ | refine blk_drew ?_ | refine blk_alloc ?_ _)); refine blk_far ?_ NB206_226.out _; (with_reducible repeat (first | refine blk_drewN ?_ _ | refine blk_drew ?_ | refine blk_alloc ?_ _)); refine blk_far ?_ NB206_226.out _; (with_reducible repeat (first | refine blk_drewN ?_ _ | refine blk_drew ?_ | refine blk_alloc ?_ _)); exact BK206.out⟩, ⟨by (with_reducible repeat (first | refine blk_drewN ?_ _ | refine blk_drew ?_ | refine blk_alloc ?_ _)); refine blk_put (cs := #[.int .i64 x207000_7, .int .i64 x207001_7, .int .i64 x207002_7, .int .i64 0]) ?_ 3 _ rfl; (with_reducible repeat (first | refine blk_drewN ?_ _ | refine blk_drew ?_ | refine blk_alloc ?_ _)); refine blk_put (cs := #[.int .i64 x207000_7, .int .i64 x207001_7, .int .i64 0, .int .i64 0]) ?_ 2 _ rfl; (with_reducible repeat (first | refine blk_drewN ?_ _ | refine blk_drew ?_ | refine blk_alloc ?_ _)); refine blk_put (cs := #[.int .i64 x207000_7, .int .i64 0, .int .i64 0, .int .i64 0]) ?_ 1 _ rfl; (with_reducible repeat (first | refine blk_drewN ?_ _ | refine blk_drew ?_ | refine blk_alloc ?_ _)); refine blk_put (cs := #[.int .i64 0, .int .i64 0, .int .i64 0, .int .i64 0]) ?_ 0 _ rfl; (with_reducible repeat (first | refine blk_drewN ?_ _ | refine blk_drew ?_ | refine blk_alloc ?_ _)); exact BK226.out⟩, ⟨by repeat (first | (with_reducible first | exact HI199.out | apply IsS89.alloc | apply IsS89.drewN | apply IsS89.drew | apply IsS89.set_0 | apply IsS89.set_1 | apply IsS89.set_2 | refine IsS89.far ?_ NB199_206.out _ | refine IsS89.far ?_ NB199_226.out _) | exact HI199.out)⟩, ⟨by repeat (first | (with_reducible first | exact HI219.out | apply IsS89.alloc | apply IsS89.drewN | apply IsS89.drew | apply IsS89.set_0 | apply IsS89.set_1 | apply IsS89.set_2 | refine IsS89.far ?_ NB219_206.out _ | refine IsS89.far ?_ NB219_226.out _) | exact HI219.out)⟩, ⟨by repeat (first | (with_reducible first | exact HB.out | apply below_alloc | apply pw_below_drewN | apply below_drew1 | refine below_set ?_ (IsS89.ge HI199.out) | refine below_set ?_ (IsS89.ge HI219.out) | refine below_set ?_ GE206.out | refine below_set ?_ GE226.out) | exact HB.out)⟩⟩
              case round =>
                clear H'
                try clear c1
                try clear c2
                try clear p2
                try clear q2
                try clear hx2
                try clear c3
                try clear c4
                try clear c6
                try clear p6
                try clear c13
                try clear c14
                try clear c15
                try clear c15b0
                try clear c16
                try clear c16b0
                try clear c17
                try clear c17b0
                try clear p20
                try clear q20
                try clear hx20
                try clear c29
                try clear c31
                try clear c36
                try clear c37
                try clear c38
                try clear c39
                try clear c40
                try clear c42
                try clear c43
                try clear c44
                try clear hcz14_0
                try clear hcz14_1
                try clear hcz14_2
                try clear hcz14_3
                try clear hcz40_0
                try clear hcz40_1
                try clear hcz40_2
                try clear hcz40_3
                try clear hcz45_0
                try clear hcz45_1
                try clear hcz45_2
                try clear hcz45_3
                try clear hfz14_0
                try clear hfz14_1
                try clear hfz14_2
                try clear hfz14_3
                try clear hfz40_0
                try clear hfz40_1
                try clear hfz40_2
                try clear hfz40_3
                try clear hfz45_0
                try clear hfz45_1
                try clear hfz45_2
                try clear hfz45_3
                try clear hx207_0
                try clear p2
                try clear p20
                try clear p207
                try clear p6
                try clear q2
                try clear q20
                try clear q207
                obtain ⟨x14_3, x200000_3, x200001_3, x200002_3, x220000_3, x220001_3, x220002_3, x227000_3, x227001_3, x227002_3, x227003_3, rfl, HA, HK3, BK206, BK226, HI199, HI219, HB⟩ := hrel
                cases gk with
                | zero => exact absurd HA.out (by simp [monocoquelaw32_LifeClones.l1])
                | succ k3 =>
                  have H := HA.out
                  clear HA
                  simp only [monocoquelaw32_LifeClones.l1] at H
                  have HC46 := Aside0.mk H
                  clear H
                  go_upto_region 15 with (fail)
                  go_cut [85] (fun v85 wc => ∃ (kq : Nat) (x85_45 : Bool), v85 = .bool x85_45 ∧ Aside0 (monocoquelaw32_LifeClones.j4 kq l2 x14_3 x85_45 x200000_3 x200001_3 x200002_3 x207000_7 x207001_7 x207002_7 x207003_7 x220000_3 x220001_3 x220002_3 x227000_3 x227001_3 x227002_3 x227003_3 = some r) ∧ Aside0 (kq ≤ k3) ∧ Aside0 (wc.heap[gb206]? = some (.cells #[.int .i64 x207000_7, .int .i64 x207001_7, .int .i64 x207002_7, .int .i64 x207003_7] 69 (0, 0))) ∧ Aside0 (wc.heap[gb226]? = some (.cells #[.int .i64 x227000_3, .int .i64 x227001_3, .int .i64 x227002_3, .int .i64 x227003_3] 69 (0, 0))) ∧ Aside0 (IsS89 w wc g199 x200000_3 x200001_3 x200002_3) ∧ Aside0 (IsS89 w wc g219 x220000_3 x220001_3 x220002_3) ∧ Aside0 (Below w.heap.size w wc))
                  case first =>
                    have H := HC46.out
                    clear HC46
                    by_cases c47 : x14_3 < (l2.length : Int)
                    · rw [if_pos c47] at H
                      have c47b0 : decide (x14_3 < (l2.length : Int)) = true := decide_eq_true c47
                      clear c47
                      (first | rw [c47b0] | (simp only [i64_w, i32_w]; rw [c47b0]) | skip)
                      have H' := Aside0.mk H
                      clear H
                      go_wp2
                      go_meet
                      case rel => exact ⟨_, (decide (x14_3 < 60)), (by first | rfl | (simp; done) | (simp [*]; done)), H', ⟨by have := HJ7.out; have := HJ25.out; have := HK3.out; first | omega | exact Nat.le_refl _⟩, ⟨by (with_reducible repeat (first | refine blk_drewN ?_ _ | refine blk_drew ?_ | refine blk_alloc ?_ _)); exact BK206.out⟩, ⟨by (with_reducible repeat (first | refine blk_drewN ?_ _ | refine blk_drew ?_ | refine blk_alloc ?_ _)); exact BK226.out⟩, ⟨by repeat (first | (with_reducible first | exact HI199.out | apply IsS89.alloc | apply IsS89.drewN | apply IsS89.drew | apply IsS89.set_0 | apply IsS89.set_1 | apply IsS89.set_2 | refine IsS89.far ?_ NB199_206.out _ | refine IsS89.far ?_ NB199_226.out _) | exact HI199.out)⟩, ⟨by repeat (first | (with_reducible first | exact HI219.out | apply IsS89.alloc | apply IsS89.drewN | apply IsS89.drew | apply IsS89.set_0 | apply IsS89.set_1 | apply IsS89.set_2 | refine IsS89.far ?_ NB219_206.out _ | refine IsS89.far ?_ NB219_226.out _) | exact HI219.out)⟩, ⟨by repeat (first | (with_reducible first | exact HB.out | apply below_alloc | apply pw_below_drewN | apply below_drew1 | refine below_set ?_ (IsS89.ge HI199.out) | refine below_set ?_ (IsS89.ge HI219.out) | refine below_set ?_ GE206.out | refine below_set ?_ GE226.out) | exact HB.out)⟩⟩
                    · rw [if_neg c47] at H
                      have c47b0 : decide (x14_3 < (l2.length : Int)) = false := decide_eq_false c47
                      clear c47
                      (first | rw [c47b0] | (simp only [i64_w, i32_w]; rw [c47b0]) | skip)
                      have H' := Aside0.mk H
                      clear H
                      go_wp2
                      go_meet
                      case rel => exact ⟨_, (false), (by first | rfl | (simp; done) | (simp [*]; done)), H', ⟨by have := HJ7.out; have := HJ25.out; have := HK3.out; first | omega | exact Nat.le_refl _⟩, ⟨by (with_reducible repeat (first | refine blk_drewN ?_ _ | refine blk_drew ?_ | refine blk_alloc ?_ _)); exact BK206.out⟩, ⟨by (with_reducible repeat (first | refine blk_drewN ?_ _ | refine blk_drew ?_ | refine blk_alloc ?_ _)); exact BK226.out⟩, ⟨by repeat (first | (with_reducible first | exact HI199.out | apply IsS89.alloc | apply IsS89.drewN | apply IsS89.drew | apply IsS89.set_0 | apply IsS89.set_1 | apply IsS89.set_2 | refine IsS89.far ?_ NB199_206.out _ | refine IsS89.far ?_ NB199_226.out _) | exact HI199.out)⟩, ⟨by repeat (first | (with_reducible first | exact HI219.out | apply IsS89.alloc | apply IsS89.drewN | apply IsS89.drew | apply IsS89.set_0 | apply IsS89.set_1 | apply IsS89.set_2 | refine IsS89.far ?_ NB219_206.out _ | refine IsS89.far ?_ NB219_226.out _) | exact HI219.out)⟩, ⟨by repeat (first | (with_reducible first | exact HB.out | apply below_alloc | apply pw_below_drewN | apply below_drew1 | refine below_set ?_ (IsS89.ge HI199.out) | refine below_set ?_ (IsS89.ge HI219.out) | refine below_set ?_ GE206.out | refine below_set ?_ GE226.out) | exact HB.out)⟩⟩
                  case rest =>
                    clear HC46
                    try clear c1
                    try clear c2
                    try clear p2
                    try clear q2
                    try clear hx2
                    try clear c3
                    try clear c4
                    try clear c6
                    try clear p6
                    try clear c13
                    try clear c14
                    try clear c15
                    try clear c15b0
                    try clear c16
                    try clear c16b0
                    try clear c17
                    try clear c17b0
                    try clear p20
                    try clear q20
                    try clear hx20
                    try clear c29
                    try clear c31
                    try clear c36
                    try clear c37
                    try clear c38
                    try clear c39
                    try clear c40
                    try clear c42
                    try clear c43
                    try clear c44
                    try clear c47
                    try clear c47b0
                    try clear hcz14_0
                    try clear hcz14_1
                    try clear hcz14_2
                    try clear hcz14_3
                    try clear hcz40_0
                    try clear hcz40_1
                    try clear hcz40_2
                    try clear hcz40_3
                    try clear hcz45_0
                    try clear hcz45_1
                    try clear hcz45_2
                    try clear hcz45_3
                    try clear hfz14_0
                    try clear hfz14_1
                    try clear hfz14_2
                    try clear hfz14_3
                    try clear hfz40_0
                    try clear hfz40_1
                    try clear hfz40_2
                    try clear hfz40_3
                    try clear hfz45_0
                    try clear hfz45_1
                    try clear hfz45_2
                    try clear hfz45_3
                    try clear hx207_0
                    try clear p2
                    try clear p20
                    try clear p207
                    try clear p6
                    try clear q2
                    try clear q20
                    try clear q207
                    obtain ⟨kq, x85_45, rfl, HA, HJ45, BK206, BK226, HI199, HI219, HB⟩ := hcut
                    cases kq with
                    | zero => exact absurd HA.out (by simp [monocoquelaw32_LifeClones.j4])
                    | succ kj45 =>
                      have H := HA.out
                      clear HA
                      simp only [monocoquelaw32_LifeClones.j4] at H
                      by_cases c48 : x85_45 = true
                      · subst c48
                        have H1 : (if 0 ≤ x14_3 then (if x14_3 < (l2.length : Int) then ((monocoquelaw32_do.f kj45 x220000_3 x220001_3 x220002_3 x227000_3 x227001_3 x227002_3 x227003_3 (rd l2 x14_3)).bind fun bt228 => ((monocoquelaw32_same.f x200000_3 x200001_3 x200002_3 x207000_7 x207001_7 x207002_7 x207003_7).bind fun bt236 => (if bt236.1 = true then ((monocoquelaw32_same.f bt228.2.2.2.2.2.1 bt228.2.2.2.2.2.2.1 bt228.2.2.2.2.2.2.2 bt228.1 bt228.2.1 bt228.2.2.1 bt228.2.2.2.1).bind fun bt240 => (if bt240.1 = true then ((life_Life_Same.f bt236.2.1 bt236.2.2.1 bt236.2.2.2 bt240.2.1 bt240.2.2.1 bt240.2.2.2).bind fun t244 => (if (t244 != (x207000_7 == bt228.1 && (x207001_7 == bt228.2.1 && (x207002_7 == bt228.2.2.1 && (x207003_7 == bt228.2.2.2.1))))) = true then (some false) else (monocoquelaw32_LifeClones.l1 kj45 l2 (wrap64 (x14_3 + 1)) bt236.2.1 bt236.2.2.1 bt236.2.2.2 x207000_7 x207001_7 x207002_7 x207003_7 bt240.2.1 bt240.2.2.1 bt240.2.2.2 bt228.1 bt228.2.1 bt228.2.2.1 bt228.2.2.2.1))) else (some false))) else (some false)))) else (none)) else (none)) = some r := by rw [if_pos rfl] at H; exact H
                        clear H
                        have H := H1
                        clear H1
                        by_cases c49 : 0 ≤ x14_3
                        · rw [if_pos c49] at H
                          have c49b0 : decide (0 ≤ x14_3) = true := decide_eq_true c49
                          clear c49
                          by_cases c50 : x14_3 < (l2.length : Int)
                          · rw [if_pos c50] at H
                            have c50b0 : decide (x14_3 < (l2.length : Int)) = true := decide_eq_true c50
                            clear c50
                            replace H := Option.bind_eq_some_iff.mp H
                            obtain ⟨⟨t228, t229, t230, t231, t232, t233, t234, t235⟩, A510, H⟩ := H
                            replace H : ((monocoquelaw32_same.f x200000_3 x200001_3 x200002_3 x207000_7 x207001_7 x207002_7 x207003_7).bind fun bt236 => (if bt236.1 = true then ((monocoquelaw32_same.f t233 t234 t235 t228 t229 t230 t231).bind fun bt240 => (if bt240.1 = true then ((life_Life_Same.f bt236.2.1 bt236.2.2.1 bt236.2.2.2 bt240.2.1 bt240.2.2.1 bt240.2.2.2).bind fun t244 => (if (t244 != (x207000_7 == t228 && (x207001_7 == t229 && (x207002_7 == t230 && (x207003_7 == t231))))) = true then (some false) else (monocoquelaw32_LifeClones.l1 kj45 l2 (wrap64 (x14_3 + 1)) bt236.2.1 bt236.2.2.1 bt236.2.2.2 x207000_7 x207001_7 x207002_7 x207003_7 bt240.2.1 bt240.2.2.1 bt240.2.2.2 t228 t229 t230 t231))) else (some false))) else (some false))) = some r := H
                            have A51 := Aside0.mk A510
                            clear A510
                            replace H := Option.bind_eq_some_iff.mp H
                            obtain ⟨⟨t236, t237, t238, t239⟩, A520, H⟩ := H
                            replace H : (if t236 = true then ((monocoquelaw32_same.f t233 t234 t235 t228 t229 t230 t231).bind fun bt240 => (if bt240.1 = true then ((life_Life_Same.f t237 t238 t239 bt240.2.1 bt240.2.2.1 bt240.2.2.2).bind fun t244 => (if (t244 != (x207000_7 == t228 && (x207001_7 == t229 && (x207002_7 == t230 && (x207003_7 == t231))))) = true then (some false) else (monocoquelaw32_LifeClones.l1 kj45 l2 (wrap64 (x14_3 + 1)) t237 t238 t239 x207000_7 x207001_7 x207002_7 x207003_7 bt240.2.1 bt240.2.2.1 bt240.2.2.2 t228 t229 t230 t231))) else (some false))) else (some false)) = some r := H
                            have A52 := Aside0.mk A520
                            clear A520
                            by_cases c53 : t236 = true
                            · subst c53
                              have H1 : ((monocoquelaw32_same.f t233 t234 t235 t228 t229 t230 t231).bind fun bt240 => (if bt240.1 = true then ((life_Life_Same.f t237 t238 t239 bt240.2.1 bt240.2.2.1 bt240.2.2.2).bind fun t244 => (if (t244 != (x207000_7 == t228 && (x207001_7 == t229 && (x207002_7 == t230 && (x207003_7 == t231))))) = true then (some false) else (monocoquelaw32_LifeClones.l1 kj45 l2 (wrap64 (x14_3 + 1)) t237 t238 t239 x207000_7 x207001_7 x207002_7 x207003_7 bt240.2.1 bt240.2.2.1 bt240.2.2.2 t228 t229 t230 t231))) else (some false))) = some r := by rw [if_pos rfl] at H; exact H
                              clear H
                              have H := H1
                              clear H1
                              replace H := Option.bind_eq_some_iff.mp H
                              obtain ⟨⟨t240, t241, t242, t243⟩, A540, H⟩ := H
                              replace H : (if t240 = true then ((life_Life_Same.f t237 t238 t239 t241 t242 t243).bind fun t244 => (if (t244 != (x207000_7 == t228 && (x207001_7 == t229 && (x207002_7 == t230 && (x207003_7 == t231))))) = true then (some false) else (monocoquelaw32_LifeClones.l1 kj45 l2 (wrap64 (x14_3 + 1)) t237 t238 t239 x207000_7 x207001_7 x207002_7 x207003_7 t241 t242 t243 t228 t229 t230 t231))) else (some false)) = some r := H
                              have A54 := Aside0.mk A540
                              clear A540
                              by_cases c55 : t240 = true
                              · subst c55
                                have H1 : ((life_Life_Same.f t237 t238 t239 t241 t242 t243).bind fun t244 => (if (t244 != (x207000_7 == t228 && (x207001_7 == t229 && (x207002_7 == t230 && (x207003_7 == t231))))) = true then (some false) else (monocoquelaw32_LifeClones.l1 kj45 l2 (wrap64 (x14_3 + 1)) t237 t238 t239 x207000_7 x207001_7 x207002_7 x207003_7 t241 t242 t243 t228 t229 t230 t231))) = some r := by rw [if_pos rfl] at H; exact H
                                clear H
                                have H := H1
                                clear H1
                                replace H := Option.bind_eq_some_iff.mp H
                                obtain ⟨t244, A560, H⟩ := H
                                replace H : (if (t244 != (x207000_7 == t228 && (x207001_7 == t229 && (x207002_7 == t230 && (x207003_7 == t231))))) = true then (some false) else (monocoquelaw32_LifeClones.l1 kj45 l2 (wrap64 (x14_3 + 1)) t237 t238 t239 x207000_7 x207001_7 x207002_7 x207003_7 t241 t242 t243 t228 t229 t230 t231)) = some r := H
                                have A56 := Aside0.mk A560
                                clear A560
                                by_cases c57 : (t244 != (x207000_7 == t228 && (x207001_7 == t229 && (x207002_7 == t230 && (x207003_7 == t231))))) = true
                                · rw [if_pos c57] at H
                                  have c57b0 : (t244 != (x207000_7 == t228 && (x207001_7 == t229 && (x207002_7 == t230 && (x207003_7 == t231))))) = true := c57
                                  (try (have c57b1 : decide (t244 = (x207000_7 == t228 && (x207001_7 == t229 && (x207002_7 == t230 && (x207003_7 == t231))))) = false := by simpa using c57))
                                  (try (have c57b2 : (t244 == (x207000_7 == t228 && (x207001_7 == t229 && (x207002_7 == t230 && (x207003_7 == t231))))) = false := by simpa using c57))
                                  (try (have c57b3 : ¬ (t244 = (x207000_7 == t228 && (x207001_7 == t229 && (x207002_7 == t230 && (x207003_7 == t231))))) := by simpa using c57))
                                  clear c57
                                  obtain rfl := Option.some.inj H
                                  try go_wp2
                                  have n0_ := Aside0.mk (blk_drew BK206.out)
                                  have n1_ := Aside0.mk (blk_drew BK226.out)
                                  have n2_ := Aside0.mk (IsS89.drew HI199.out)
                                  have n3_ := Aside0.mk (IsS89.drew HI219.out)
                                  have n4_ := Aside0.mk (below_drew1 HB.out)
                                  clear BK206
                                  clear BK226
                                  clear HI199
                                  clear HI219
                                  clear HB
                                  have BK206 := n0_
                                  have BK226 := n1_
                                  have HI199 := n2_
                                  have HI219 := n3_
                                  have HB := n4_
                                  clear n0_ n1_ n2_ n3_ n4_
                                  have p227 : 0 ≤ (x14_3 : Int) := of_decide_eq_true (by first | (with_reducible assumption) | assumption)
                                  have q227 : x14_3 < (l2.length : Int) := of_decide_eq_true (by first | (with_reducible assumption) | assumption)
                                  obtain ⟨ad227, e227, hx227_0⟩ := Kd.at_int HR2.out x14_3 p227 q227
                                  have hw227_0 := hx227_0
                                  cases e227
                                  replace hx227_0 := (HB.out.cell (World.block_lt_of_cell? w _ hx227_0)).trans hx227_0
                                  replace p227 := eq_true p227
                                  replace q227 := eq_true q227
                                  refine start_ (n := 11) (S := fun w' => w'.cell? ⟨gb226, 0, none⟩ = some (.int .i64 x227000_3) ∧ w'.cell? ⟨gb226, 1, none⟩ = some (.int .i64 x227001_3) ∧ w'.cell? ⟨gb226, 2, none⟩ = some (.int .i64 x227002_3) ∧ w'.cell? ⟨gb226, 3, none⟩ = some (.int .i64 x227003_3) ∧ w'.cell? (ad227.add (x14_3).toNat) = some (.int .i64 (rd l2 x14_3))) (ds := [10]) #[false, false, false, false, false, false, false, false, false, false, false] (by kernel_rfl) rfl rfl ⟨(blk_cell BK226.out 0).trans rfl, (blk_cell BK226.out 1).trans rfl, (blk_cell BK226.out 2).trans rfl, (blk_cell BK226.out 3).trans rfl, ((HB.out.cell (World.block_lt_of_cell? w _ hw227_0)).trans hw227_0)⟩ (fun hHeld => ?_); refine with_tabW monocoquelaw32_LifeClones.tab17 monocoquelaw32_LifeClones.bits17 (fun HT_ HW_ => ?_)
                                  generalize wc.drew = w58 at BK206 BK226 HI199 HI219 HB hx227_0 hHeld ⊢
                                  refine pure_ (i := 0) (N := some 89) (v := ?_) (a' := ?_) #[true, false, false, false, false, false, false, false, false, false, false] rfl rfl (any_of HT_.out (by kernel_rfl)) (fun _ _ _ h => h) (Or.inl ⟨by rfl, ?_⟩) ?_ ?_
                                  rotate_left
                                  · intro w'
                                    go_simp
                                    with_reducible rfl
                                  rotate_left
                                  · simp only [Act.put, List.setIfInBounds_toArray, List.set_cons_zero, List.set_cons_succ, i64_w, i32_w]
                                    rfl
                                  refine pure_ (i := 2) (N := some 91) (v := ?_) (a' := ?_) #[true, false, true, false, false, false, false, false, false, false, false] rfl rfl (any_of HT_.out (by kernel_rfl)) (fun _ _ _ h => h) (Or.inl ⟨by rfl, ?_⟩) ?_ ?_
                                  rotate_left
                                  · intro w'
                                    go_simp
                                    with_reducible rfl
                                  rotate_left
                                  · simp only [Act.put, List.setIfInBounds_toArray, List.set_cons_zero, List.set_cons_succ, i64_w, i32_w]
                                    rfl
                                  refine pure_ (i := 3) (N := some 92) (v := ?_) (a' := ?_) #[true, false, true, true, false, false, false, false, false, false, false] rfl rfl (any_of HT_.out (by kernel_rfl)) (fun _ _ _ h => h) (Or.inl ⟨by rfl, ?_⟩) ?_ ?_
                                  rotate_left
                                  · intro w'
                                    go_simp
                                    with_reducible rfl
                                  rotate_left
                                  · simp only [Act.put, List.setIfInBounds_toArray, List.set_cons_zero, List.set_cons_succ, i64_w, i32_w]
                                    rfl
                                  refine pure_ (i := 4) (N := some 93) (v := ?_) (a' := ?_) #[true, false, true, true, true, false, false, false, false, false, false] rfl rfl (any_of HT_.out (by kernel_rfl)) (fun _ _ _ h => h) (Or.inl ⟨by rfl, ?_⟩) ?_ ?_
                                  rotate_left
                                  · intro w'
                                    go_simp
                                    with_reducible rfl
                                  rotate_left
                                  · simp only [Act.put, List.setIfInBounds_toArray, List.set_cons_zero, List.set_cons_succ, i64_w, i32_w]
                                    rfl
                                  refine take_ (i := 1) (N := some 90) (v := ?_) (a' := ?_) #[true, true, true, true, true, false, false, false, false, false, false] rfl rfl (take_ofW HT_.out HW_.out (by kernel_rfl)) (fun _ _ _ h => h) (Or.inl ⟨by rfl, ?_⟩) hHeld ?_ ?_
                                  rotate_left
                                  · rintro w' ⟨s0, s1, s2, s3, s4⟩
                                    go_simp
                                    with_reducible rfl
                                  rotate_left
                                  · simp only [Act.put, List.setIfInBounds_toArray, List.set_cons_zero, List.set_cons_succ, i64_w, i32_w]
                                    rfl
                                  refine take_ (i := 5) (N := some 94) (v := ?_) (a' := ?_) #[true, true, true, true, true, true, false, false, false, false, false] rfl rfl (take_ofW HT_.out HW_.out (by kernel_rfl)) (fun _ _ _ h => h) (Or.inl ⟨by rfl, ?_⟩) hHeld ?_ ?_
                                  rotate_left
                                  · rintro w' ⟨s0, s1, s2, s3, s4⟩
                                    go_simp
                                    with_reducible rfl
                                  rotate_left
                                  · simp only [Act.put, List.setIfInBounds_toArray, List.set_cons_zero, List.set_cons_succ, i64_w, i32_w]
                                    rfl
                                  refine one_ (i := 6) (N := some 95) #[true, true, true, true, true, true, true, false, false, false, false] rfl rfl (one_of HT_.out (by kernel_rfl)) (by decide) (fun K hK => ?_)
                                  refine goes_ Try.func37 (by kernel_rfl) rfl #[.pointer (some ⟨g219, 0, none⟩), .agg #[.int .i64 x227000_3, .int .i64 x227001_3, .int .i64 x227002_3, .int .i64 x227003_3], .int .i64 (rd l2 x14_3)] (by rfl) rfl rfl (by (try simp only [List.map_toArray, List.map_cons, List.map_nil]); first | done | rfl | (simp only [List.length_drop, List.length_take]; rfl)) ?_
                                  with_reducible refine (monocoquelaw32_do.calls kj45 g219 x220000_3 x220001_3 x220002_3 x227000_3 x227001_3 x227002_3 x227003_3 (rd l2 x14_3) t228 t229 t230 t231 t232 t233 t234 t235 w _ ?side1 ?side2 A51.out).mono ?_
                                  (case side1 => repeat (first | (with_reducible first | exact HI219.out | apply IsS89.alloc | apply IsS89.drewN | apply IsS89.drew | apply IsS89.set_0 | apply IsS89.set_1 | apply IsS89.set_2 | refine IsS89.far ?_ NB219_206.out _ | refine IsS89.far ?_ NB219_226.out _) | exact HI219.out))
                                  (case side2 => repeat (first | (with_reducible first | exact HB.out | apply below_alloc | apply pw_below_drewN | apply below_drew1 | refine below_set ?_ (IsS89.ge HI199.out) | refine below_set ?_ (IsS89.ge HI219.out) | refine below_set ?_ GE206.out | refine below_set ?_ GE226.out) | exact HB.out))
                                  rintro e w59 ⟨rfl, hi, hb, hk⟩
                                  refine ⟨_, rfl, ?_⟩
                                  have n0_ := Aside0.mk (KeepBut.blk hk (g' := gb206) (o := .cells #[.int .i64 x207000_7, .int .i64 x207001_7, .int .i64 x207002_7, .int .i64 x207003_7] 69 (0, 0)) (by (with_reducible repeat (first | refine blk_drewN ?_ _ | refine blk_drew ?_ | refine blk_alloc ?_ _)); exact BK206.out) NB206_219.out (by simp))
                                  have n1_ := Aside0.mk (KeepBut.blk hk (g' := gb226) (o := .cells #[.int .i64 x227000_3, .int .i64 x227001_3, .int .i64 x227002_3, .int .i64 x227003_3] 69 (0, 0)) (by (with_reducible repeat (first | refine blk_drewN ?_ _ | refine blk_drew ?_ | refine blk_alloc ?_ _)); exact BK226.out) NB226_219.out (by simp))
                                  have n2_ := Aside0.mk (IsS89.other (show IsS89 w _ g199 x200000_3 x200001_3 x200002_3 from by repeat (first | (with_reducible first | exact HI199.out | apply IsS89.alloc | apply IsS89.drewN | apply IsS89.drew | apply IsS89.set_0 | apply IsS89.set_1 | apply IsS89.set_2 | refine IsS89.far ?_ NB199_206.out _ | refine IsS89.far ?_ NB199_226.out _) | exact HI199.out)) hk NS199_219.out)
                                  have n3_ := Aside0.mk (hb)
                                  have n4_ := Aside0.mk (hi)
                                  clear BK206
                                  clear BK226
                                  clear HI199
                                  clear HB
                                  clear HI219
                                  have BK206 := n0_
                                  have BK226 := n1_
                                  have HI199 := n2_
                                  have HB := n3_
                                  have HI219 := n4_
                                  clear n0_ n1_ n2_ n3_ n4_
                                  (try clear hb)
                                  (try clear hb2)
                                  (try clear hge)
                                  (try clear hk)
                                  (try clear hi)
                                  refine hK.out _ _ ⟨(blk_cell BK226.out 0).trans rfl, (blk_cell BK226.out 1).trans rfl, (blk_cell BK226.out 2).trans rfl, (blk_cell BK226.out 3).trans rfl, ((HB.out.cell (World.block_lt_of_cell? w _ hw227_0)).trans hw227_0)⟩ (fun hHeld => ?_)
                                  clear hK K
                                  refine norm_ (a' := ?_) ?_ ?_
                                  rotate_left
                                  · show Act.put _ (some 95) _ = _
                                    simp only [Act.put, List.setIfInBounds_toArray, List.set_cons_zero, List.set_cons_succ, i64_w, i32_w]
                                    rfl
                                  refine pure_ (i := 7) (N := some 88) (v := ?_) (a' := ?_) #[true, true, true, true, true, true, true, true, false, false, false] rfl rfl (any_of HT_.out (by kernel_rfl)) (fun _ _ _ h => h) (Or.inl ⟨by rfl, ?_⟩) ?_ ?_
                                  rotate_left
                                  · intro w'
                                    go_simp
                                    with_reducible rfl
                                  rotate_left
                                  · simp only [Act.put, List.setIfInBounds_toArray, List.set_cons_zero, List.set_cons_succ, i64_w, i32_w]
                                    rfl
                                  refine pure_ (i := 8) (N := some 96) (v := ?_) (a' := ?_) #[true, true, true, true, true, true, true, true, true, false, false] rfl rfl (any_of HT_.out (by kernel_rfl)) (fun _ _ _ h => h) (Or.inl ⟨by rfl, ?_⟩) ?_ ?_
                                  rotate_left
                                  · intro w'
                                    go_simp
                                    with_reducible rfl
                                  rotate_left
                                  · simp only [Act.put, List.setIfInBounds_toArray, List.set_cons_zero, List.set_cons_succ, i64_w, i32_w]
                                    rfl
                                  refine pure_ (i := 9) (N := some 97) (v := ?_) (a' := ?_) #[true, true, true, true, true, true, true, true, true, true, false] rfl rfl (any_of HT_.out (by kernel_rfl)) (fun _ _ _ h => h) (Or.inl ⟨by rfl, ?_⟩) ?_ ?_
                                  rotate_left
                                  · intro w'
                                    go_simp
                                    with_reducible rfl
                                  rotate_left
                                  · simp only [Act.put, List.setIfInBounds_toArray, List.set_cons_zero, List.set_cons_succ, i64_w, i32_w]
                                    rfl
                                  refine last_ (i := 10) (N := none) #[true, true, true, true, true, true, true, true, true, true, true] rfl rfl (one_of HT_.out (by kernel_rfl)) (by decide) (fun K hK => ?_)
                                  have hs60 : w59.cell? ⟨gb226, 0, none⟩ = some (.int .i64 x227000_3) := (blk_cell BK226.out 0).trans rfl
                                  have hfs60 := blk_frozen BK226.out 0
                                  have hns60_0 := NB206_226.out
                                  have hms60_0 := NB226_206.out
                                  have hs61 : w59.cell? ⟨gb226, 1, none⟩ = some (.int .i64 x227001_3) := (blk_cell BK226.out 1).trans rfl
                                  have hfs61 := blk_frozen BK226.out 1
                                  have hns61_0 := NB206_226.out
                                  have hms61_0 := NB226_206.out
                                  have hs62 : w59.cell? ⟨gb226, 2, none⟩ = some (.int .i64 x227002_3) := (blk_cell BK226.out 2).trans rfl
                                  have hfs62 := blk_frozen BK226.out 2
                                  have hns62_0 := NB206_226.out
                                  have hms62_0 := NB226_206.out
                                  have hs63 : w59.cell? ⟨gb226, 3, none⟩ = some (.int .i64 x227003_3) := (blk_cell BK226.out 3).trans rfl
                                  have hfs63 := blk_frozen BK226.out 3
                                  have hns63_0 := NB206_226.out
                                  have hms63_0 := NB226_206.out
                                  refine skip_ (w1 := ?_) (by rfl) rfl ?_ ?_
                                  rotate_left
                                  · go_simp
                                    rfl
                                  refine hK.out _ _ ?_
                                  clear hK K
                                  refine done_ (done_of HT_.out (by kernel_rfl)) ?_
                                  try go_wp2
                                  have n0_ : Aside0 (((((w59.setCell ⟨gb226, 0, none⟩ (.int .i64 t228)).setCell ⟨gb226, 1, none⟩ (.int .i64 t229)).setCell ⟨gb226, 2, none⟩ (.int .i64 t230)).setCell ⟨gb226, 3, none⟩ (.int .i64 t231)).heap[gb206]? = some (.cells #[.int .i64 x207000_7, .int .i64 x207001_7, .int .i64 x207002_7, .int .i64 x207003_7] 69 (0, 0))) := ⟨by (with_reducible repeat (first | refine blk_drewN ?_ _ | refine blk_drew ?_ | refine blk_alloc ?_ _)); refine blk_far ?_ NB206_226.out _; (with_reducible repeat (first | refine blk_drewN ?_ _ | refine blk_drew ?_ | refine blk_alloc ?_ _)); refine blk_far ?_ NB206_226.out _; (with_reducible repeat (first | refine blk_drewN ?_ _ | refine blk_drew ?_ | refine blk_alloc ?_ _)); refine blk_far ?_ NB206_226.out _; (with_reducible repeat (first | refine blk_drewN ?_ _ | refine blk_drew ?_ | refine blk_alloc ?_ _)); refine blk_far ?_ NB206_226.out _; (with_reducible repeat (first | refine blk_drewN ?_ _ | refine blk_drew ?_ | refine blk_alloc ?_ _)); exact BK206.out⟩
                                  have n1_ : Aside0 (((((w59.setCell ⟨gb226, 0, none⟩ (.int .i64 t228)).setCell ⟨gb226, 1, none⟩ (.int .i64 t229)).setCell ⟨gb226, 2, none⟩ (.int .i64 t230)).setCell ⟨gb226, 3, none⟩ (.int .i64 t231)).heap[gb226]? = some (.cells #[.int .i64 t228, .int .i64 t229, .int .i64 t230, .int .i64 t231] 69 (0, 0))) := ⟨by (with_reducible repeat (first | refine blk_drewN ?_ _ | refine blk_drew ?_ | refine blk_alloc ?_ _)); refine blk_put (cs := #[.int .i64 t228, .int .i64 t229, .int .i64 t230, .int .i64 x227003_3]) ?_ 3 _ rfl; (with_reducible repeat (first | refine blk_drewN ?_ _ | refine blk_drew ?_ | refine blk_alloc ?_ _)); refine blk_put (cs := #[.int .i64 t228, .int .i64 t229, .int .i64 x227002_3, .int .i64 x227003_3]) ?_ 2 _ rfl; (with_reducible repeat (first | refine blk_drewN ?_ _ | refine blk_drew ?_ | refine blk_alloc ?_ _)); refine blk_put (cs := #[.int .i64 t228, .int .i64 x227001_3, .int .i64 x227002_3, .int .i64 x227003_3]) ?_ 1 _ rfl; (with_reducible repeat (first | refine blk_drewN ?_ _ | refine blk_drew ?_ | refine blk_alloc ?_ _)); refine blk_put (cs := #[.int .i64 x227000_3, .int .i64 x227001_3, .int .i64 x227002_3, .int .i64 x227003_3]) ?_ 0 _ rfl; (with_reducible repeat (first | refine blk_drewN ?_ _ | refine blk_drew ?_ | refine blk_alloc ?_ _)); exact BK226.out⟩
                                  have n2_ : Aside0 (IsS89 w ((((w59.setCell ⟨gb226, 0, none⟩ (.int .i64 t228)).setCell ⟨gb226, 1, none⟩ (.int .i64 t229)).setCell ⟨gb226, 2, none⟩ (.int .i64 t230)).setCell ⟨gb226, 3, none⟩ (.int .i64 t231)) g199 x200000_3 x200001_3 x200002_3) := ⟨by repeat (first | (with_reducible first | exact HI199.out | apply IsS89.alloc | apply IsS89.drewN | apply IsS89.drew | apply IsS89.set_0 | apply IsS89.set_1 | apply IsS89.set_2 | refine IsS89.far ?_ NB199_206.out _ | refine IsS89.far ?_ NB199_226.out _) | exact HI199.out)⟩
                                  have n3_ : Aside0 (IsS89 w ((((w59.setCell ⟨gb226, 0, none⟩ (.int .i64 t228)).setCell ⟨gb226, 1, none⟩ (.int .i64 t229)).setCell ⟨gb226, 2, none⟩ (.int .i64 t230)).setCell ⟨gb226, 3, none⟩ (.int .i64 t231)) g219 t233 t234 t235) := ⟨by repeat (first | (with_reducible first | exact HI219.out | apply IsS89.alloc | apply IsS89.drewN | apply IsS89.drew | apply IsS89.set_0 | apply IsS89.set_1 | apply IsS89.set_2 | refine IsS89.far ?_ NB219_206.out _ | refine IsS89.far ?_ NB219_226.out _) | exact HI219.out)⟩
                                  have n4_ : Aside0 (Below w.heap.size w ((((w59.setCell ⟨gb226, 0, none⟩ (.int .i64 t228)).setCell ⟨gb226, 1, none⟩ (.int .i64 t229)).setCell ⟨gb226, 2, none⟩ (.int .i64 t230)).setCell ⟨gb226, 3, none⟩ (.int .i64 t231))) := ⟨by repeat (first | (with_reducible first | exact HB.out | apply below_alloc | apply pw_below_drewN | apply below_drew1 | refine below_set ?_ (IsS89.ge HI199.out) | refine below_set ?_ (IsS89.ge HI219.out) | refine below_set ?_ GE206.out | refine below_set ?_ GE226.out) | exact HB.out)⟩
                                  (try clear BK206)
                                  (try clear BK226)
                                  (try clear HI199)
                                  (try clear HI219)
                                  (try clear HB)
                                  generalize ((((w59.setCell ⟨gb226, 0, none⟩ (.int .i64 t228)).setCell ⟨gb226, 1, none⟩ (.int .i64 t229)).setCell ⟨gb226, 2, none⟩ (.int .i64 t230)).setCell ⟨gb226, 3, none⟩ (.int .i64 t231)) = w64 at n0_ n1_ n2_ n3_ n4_ ⊢
                                  have BK206 := n0_
                                  have BK226 := n1_
                                  have HI199 := n2_
                                  have HI219 := n3_
                                  have HB := n4_
                                  clear n0_ n1_ n2_ n3_ n4_
                                  have n0_ := Aside0.mk (blk_drew BK206.out)
                                  have n1_ := Aside0.mk (blk_drew BK226.out)
                                  have n2_ := Aside0.mk (IsS89.drew HI199.out)
                                  have n3_ := Aside0.mk (IsS89.drew HI219.out)
                                  have n4_ := Aside0.mk (below_drew1 HB.out)
                                  clear BK206
                                  clear BK226
                                  clear HI199
                                  clear HI219
                                  clear HB
                                  have BK206 := n0_
                                  have BK226 := n1_
                                  have HI199 := n2_
                                  have HI219 := n3_
                                  have HB := n4_
                                  clear n0_ n1_ n2_ n3_ n4_
                                  refine start_ (n := 19) (S := fun w' => w'.cell? ⟨gb206, 0, none⟩ = some (.int .i64 x207000_7) ∧ w'.cell? ⟨gb206, 1, none⟩ = some (.int .i64 x207001_7) ∧ w'.cell? ⟨gb206, 2, none⟩ = some (.int .i64 x207002_7) ∧ w'.cell? ⟨gb206, 3, none⟩ = some (.int .i64 x207003_7) ∧ w'.cell? ⟨gb226, 0, none⟩ = some (.int .i64 t228) ∧ w'.cell? ⟨gb226, 1, none⟩ = some (.int .i64 t229) ∧ w'.cell? ⟨gb226, 2, none⟩ = some (.int .i64 t230) ∧ w'.cell? ⟨gb226, 3, none⟩ = some (.int .i64 t231)) (ds := []) #[false, false, false, false, false, false, false, false, false, false, false, false, false, false, false, false, false, false, false] (by kernel_rfl) rfl rfl ⟨(blk_cell BK206.out 0).trans rfl, (blk_cell BK206.out 1).trans rfl, (blk_cell BK206.out 2).trans rfl, (blk_cell BK206.out 3).trans rfl, (blk_cell BK226.out 0).trans rfl, (blk_cell BK226.out 1).trans rfl, (blk_cell BK226.out 2).trans rfl, (blk_cell BK226.out 3).trans rfl⟩ (fun hHeld => ?_); refine with_tabW monocoquelaw32_LifeClones.tab18 monocoquelaw32_LifeClones.bits18 (fun HT_ HW_ => ?_)
                                  generalize w64.drew = w65 at BK206 BK226 HI199 HI219 HB hHeld ⊢
                                  refine pure_ (i := 0) (N := some 98) (v := ?_) (a' := ?_) #[true, false, false, false, false, false, false, false, false, false, false, false, false, false, false, false, false, false, false] rfl rfl (any_of HT_.out (by kernel_rfl)) (fun _ _ _ h => h) (Or.inl ⟨by rfl, ?_⟩) ?_ ?_
                                  rotate_left
                                  · intro w'
                                    go_simp
                                    with_reducible rfl
                                  rotate_left
                                  · simp only [Act.put, List.setIfInBounds_toArray, List.set_cons_zero, List.set_cons_succ, i64_w, i32_w]
                                    rfl
                                  refine take_ (i := 1) (N := some 99) (v := ?_) (a' := ?_) #[true, true, false, false, false, false, false, false, false, false, false, false, false, false, false, false, false, false, false] rfl rfl (take_ofW HT_.out HW_.out (by kernel_rfl)) (fun _ _ _ h => h) (Or.inl ⟨by rfl, ?_⟩) hHeld ?_ ?_
                                  rotate_left
                                  · rintro w' ⟨s0, s1, s2, s3, s4, s5, s6, s7⟩
                                    go_simp
                                    with_reducible rfl
                                  rotate_left
                                  · simp only [Act.put, List.setIfInBounds_toArray, List.set_cons_zero, List.set_cons_succ, i64_w, i32_w]
                                    rfl
                                  refine one_ (i := 2) (N := some 100) #[true, true, true, false, false, false, false, false, false, false, false, false, false, false, false, false, false, false, false] rfl rfl (one_of HT_.out (by kernel_rfl)) (by decide) (fun K hK => ?_)
                                  refine goes_ Try.func38 (by kernel_rfl) rfl #[.pointer (some ⟨g199, 0, none⟩), .agg #[.int .i64 x207000_7, .int .i64 x207001_7, .int .i64 x207002_7, .int .i64 x207003_7]] (by rfl) rfl rfl (by (try simp only [List.map_toArray, List.map_cons, List.map_nil]); first | done | rfl | (simp only [List.length_drop, List.length_take]; rfl)) ?_
                                  with_reducible refine (monocoquelaw32_same.calls g199 x200000_3 x200001_3 x200002_3 x207000_7 x207001_7 x207002_7 x207003_7 true t237 t238 t239 w _ ?side1 ?side2 A52.out).mono ?_
                                  (case side1 => repeat (first | (with_reducible first | exact HI199.out | apply IsS89.alloc | apply IsS89.drewN | apply IsS89.drew | apply IsS89.set_0 | apply IsS89.set_1 | apply IsS89.set_2 | refine IsS89.far ?_ NB199_206.out _ | refine IsS89.far ?_ NB199_226.out _) | exact HI199.out))
                                  (case side2 => repeat (first | (with_reducible first | exact HB.out | apply below_alloc | apply pw_below_drewN | apply below_drew1 | refine below_set ?_ (IsS89.ge HI199.out) | refine below_set ?_ (IsS89.ge HI219.out) | refine below_set ?_ GE206.out | refine below_set ?_ GE226.out) | exact HB.out))
                                  rintro e w66 ⟨rfl, hi, hb, hk⟩
                                  refine ⟨_, rfl, ?_⟩
                                  have n0_ := Aside0.mk (KeepBut.blk hk (g' := gb206) (o := .cells #[.int .i64 x207000_7, .int .i64 x207001_7, .int .i64 x207002_7, .int .i64 x207003_7] 69 (0, 0)) (by (with_reducible repeat (first | refine blk_drewN ?_ _ | refine blk_drew ?_ | refine blk_alloc ?_ _)); exact BK206.out) NB206_199.out (by simp))
                                  have n1_ := Aside0.mk (KeepBut.blk hk (g' := gb226) (o := .cells #[.int .i64 t228, .int .i64 t229, .int .i64 t230, .int .i64 t231] 69 (0, 0)) (by (with_reducible repeat (first | refine blk_drewN ?_ _ | refine blk_drew ?_ | refine blk_alloc ?_ _)); exact BK226.out) NB226_199.out (by simp))
                                  have n2_ := Aside0.mk (IsS89.other (show IsS89 w _ g219 t233 t234 t235 from by repeat (first | (with_reducible first | exact HI219.out | apply IsS89.alloc | apply IsS89.drewN | apply IsS89.drew | apply IsS89.set_0 | apply IsS89.set_1 | apply IsS89.set_2 | refine IsS89.far ?_ NB219_206.out _ | refine IsS89.far ?_ NB219_226.out _) | exact HI219.out)) hk NS219_199.out)
                                  have n3_ := Aside0.mk (hb)
                                  have n4_ := Aside0.mk (hi)
                                  clear BK206
                                  clear BK226
                                  clear HI219
                                  clear HB
                                  clear HI199
                                  have BK206 := n0_
                                  have BK226 := n1_
                                  have HI219 := n2_
                                  have HB := n3_
                                  have HI199 := n4_
                                  clear n0_ n1_ n2_ n3_ n4_
                                  (try clear hb)
                                  (try clear hb2)
                                  (try clear hge)
                                  (try clear hk)
                                  (try clear hi)
                                  refine hK.out _ _ ⟨(blk_cell BK206.out 0).trans rfl, (blk_cell BK206.out 1).trans rfl, (blk_cell BK206.out 2).trans rfl, (blk_cell BK206.out 3).trans rfl, (blk_cell BK226.out 0).trans rfl, (blk_cell BK226.out 1).trans rfl, (blk_cell BK226.out 2).trans rfl, (blk_cell BK226.out 3).trans rfl⟩ (fun hHeld => ?_)
                                  clear hK K
                                  refine norm_ (a' := ?_) ?_ ?_
                                  rotate_left
                                  · show Act.put _ (some 100) _ = _
                                    simp only [Act.put, List.setIfInBounds_toArray, List.set_cons_zero, List.set_cons_succ, i64_w, i32_w]
                                    rfl
                                  refine pure_ (i := 3) (N := some 101) (v := ?_) (a' := ?_) #[true, true, true, true, false, false, false, false, false, false, false, false, false, false, false, false, false, false, false] rfl rfl (any_of HT_.out (by kernel_rfl)) (fun _ _ _ h => h) (Or.inl ⟨by rfl, ?_⟩) ?_ ?_
                                  rotate_left
                                  · intro w'
                                    go_simp
                                    with_reducible rfl
                                  rotate_left
                                  · simp only [Act.put, List.setIfInBounds_toArray, List.set_cons_zero, List.set_cons_succ, i64_w, i32_w]
                                    rfl
                                  refine pure_ (i := 4) (N := some 102) (v := ?_) (a' := ?_) #[true, true, true, true, true, false, false, false, false, false, false, false, false, false, false, false, false, false, false] rfl rfl (any_of HT_.out (by kernel_rfl)) (fun _ _ _ h => h) (Or.inl ⟨by rfl, ?_⟩) ?_ ?_
                                  rotate_left
                                  · intro w'
                                    go_simp
                                    with_reducible rfl
                                  rotate_left
                                  · simp only [Act.put, List.setIfInBounds_toArray, List.set_cons_zero, List.set_cons_succ, i64_w, i32_w]
                                    rfl
                                  refine pure_ (i := 5) (N := some 103) (v := ?_) (a' := ?_) #[true, true, true, true, true, true, false, false, false, false, false, false, false, false, false, false, false, false, false] rfl rfl (any_of HT_.out (by kernel_rfl)) (fun _ _ _ h => h) (Or.inl ⟨by rfl, ?_⟩) ?_ ?_
                                  rotate_left
                                  · intro w'
                                    go_simp
                                    with_reducible rfl
                                  rotate_left
                                  · simp only [Act.put, List.setIfInBounds_toArray, List.set_cons_zero, List.set_cons_succ, i64_w, i32_w]
                                    rfl
                                  refine take_ (i := 6) (N := some 104) (v := ?_) (a' := ?_) #[true, true, true, true, true, true, true, false, false, false, false, false, false, false, false, false, false, false, false] rfl rfl (take_ofW HT_.out HW_.out (by kernel_rfl)) (fun _ _ _ h => h) (Or.inl ⟨by rfl, ?_⟩) hHeld ?_ ?_
                                  rotate_left
                                  · rintro w' ⟨s0, s1, s2, s3, s4, s5, s6, s7⟩
                                    go_simp
                                    with_reducible rfl
                                  rotate_left
                                  · simp only [Act.put, List.setIfInBounds_toArray, List.set_cons_zero, List.set_cons_succ, i64_w, i32_w]
                                    rfl
                                  refine one_ (i := 7) (N := some 105) #[true, true, true, true, true, true, true, true, false, false, false, false, false, false, false, false, false, false, false] rfl rfl (one_of HT_.out (by kernel_rfl)) (by decide) (fun K hK => ?_)
                                  refine goes_ Try.func38 (by kernel_rfl) rfl #[.pointer (some ⟨g219, 0, none⟩), .agg #[.int .i64 t228, .int .i64 t229, .int .i64 t230, .int .i64 t231]] (by rfl) rfl rfl (by (try simp only [List.map_toArray, List.map_cons, List.map_nil]); first | done | rfl | (simp only [List.length_drop, List.length_take]; rfl)) ?_
                                  with_reducible refine (monocoquelaw32_same.calls g219 t233 t234 t235 t228 t229 t230 t231 true t241 t242 t243 w _ ?side1 ?side2 A54.out).mono ?_
                                  (case side1 => repeat (first | (with_reducible first | exact HI219.out | apply IsS89.alloc | apply IsS89.drewN | apply IsS89.drew | apply IsS89.set_0 | apply IsS89.set_1 | apply IsS89.set_2 | refine IsS89.far ?_ NB219_206.out _ | refine IsS89.far ?_ NB219_226.out _) | exact HI219.out))
                                  (case side2 => repeat (first | (with_reducible first | exact HB.out | apply below_alloc | apply pw_below_drewN | apply below_drew1 | refine below_set ?_ (IsS89.ge HI199.out) | refine below_set ?_ (IsS89.ge HI219.out) | refine below_set ?_ GE206.out | refine below_set ?_ GE226.out) | exact HB.out))
                                  rintro e w67 ⟨rfl, hi, hb, hk⟩
                                  refine ⟨_, rfl, ?_⟩
                                  have n0_ := Aside0.mk (KeepBut.blk hk (g' := gb206) (o := .cells #[.int .i64 x207000_7, .int .i64 x207001_7, .int .i64 x207002_7, .int .i64 x207003_7] 69 (0, 0)) (by (with_reducible repeat (first | refine blk_drewN ?_ _ | refine blk_drew ?_ | refine blk_alloc ?_ _)); exact BK206.out) NB206_219.out (by simp))
                                  have n1_ := Aside0.mk (KeepBut.blk hk (g' := gb226) (o := .cells #[.int .i64 t228, .int .i64 t229, .int .i64 t230, .int .i64 t231] 69 (0, 0)) (by (with_reducible repeat (first | refine blk_drewN ?_ _ | refine blk_drew ?_ | refine blk_alloc ?_ _)); exact BK226.out) NB226_219.out (by simp))
                                  have n2_ := Aside0.mk (IsS89.other (show IsS89 w _ g199 t237 t238 t239 from by repeat (first | (with_reducible first | exact HI199.out | apply IsS89.alloc | apply IsS89.drewN | apply IsS89.drew | apply IsS89.set_0 | apply IsS89.set_1 | apply IsS89.set_2 | refine IsS89.far ?_ NB199_206.out _ | refine IsS89.far ?_ NB199_226.out _) | exact HI199.out)) hk NS199_219.out)
                                  have n3_ := Aside0.mk (hb)
                                  have n4_ := Aside0.mk (hi)
                                  clear BK206
                                  clear BK226
                                  clear HI199
                                  clear HB
                                  clear HI219
                                  have BK206 := n0_
                                  have BK226 := n1_
                                  have HI199 := n2_
                                  have HB := n3_
                                  have HI219 := n4_
                                  clear n0_ n1_ n2_ n3_ n4_
                                  (try clear hb)
                                  (try clear hb2)
                                  (try clear hge)
                                  (try clear hk)
                                  (try clear hi)
                                  refine hK.out _ _ ⟨(blk_cell BK206.out 0).trans rfl, (blk_cell BK206.out 1).trans rfl, (blk_cell BK206.out 2).trans rfl, (blk_cell BK206.out 3).trans rfl, (blk_cell BK226.out 0).trans rfl, (blk_cell BK226.out 1).trans rfl, (blk_cell BK226.out 2).trans rfl, (blk_cell BK226.out 3).trans rfl⟩ (fun hHeld => ?_)
                                  clear hK K
                                  refine norm_ (a' := ?_) ?_ ?_
                                  rotate_left
                                  · show Act.put _ (some 105) _ = _
                                    simp only [Act.put, List.setIfInBounds_toArray, List.set_cons_zero, List.set_cons_succ, i64_w, i32_w]
                                    rfl
                                  refine pure_ (i := 8) (N := some 106) (v := ?_) (a' := ?_) #[true, true, true, true, true, true, true, true, true, false, false, false, false, false, false, false, false, false, false] rfl rfl (any_of HT_.out (by kernel_rfl)) (fun _ _ _ h => h) (Or.inl ⟨by rfl, ?_⟩) ?_ ?_
                                  rotate_left
                                  · intro w'
                                    go_simp
                                    with_reducible rfl
                                  rotate_left
                                  · simp only [Act.put, List.setIfInBounds_toArray, List.set_cons_zero, List.set_cons_succ, i64_w, i32_w]
                                    rfl
                                  refine pure_ (i := 9) (N := some 107) (v := ?_) (a' := ?_) #[true, true, true, true, true, true, true, true, true, true, false, false, false, false, false, false, false, false, false] rfl rfl (any_of HT_.out (by kernel_rfl)) (fun _ _ _ h => h) (Or.inl ⟨by rfl, ?_⟩) ?_ ?_
                                  rotate_left
                                  · intro w'
                                    go_simp
                                    with_reducible rfl
                                  rotate_left
                                  · simp only [Act.put, List.setIfInBounds_toArray, List.set_cons_zero, List.set_cons_succ, i64_w, i32_w]
                                    rfl
                                  refine pure_ (i := 10) (N := some 108) (v := ?_) (a' := ?_) #[true, true, true, true, true, true, true, true, true, true, true, false, false, false, false, false, false, false, false] rfl rfl (any_of HT_.out (by kernel_rfl)) (fun _ _ _ h => h) (Or.inl ⟨by rfl, ?_⟩) ?_ ?_
                                  rotate_left
                                  · intro w'
                                    go_simp
                                    with_reducible rfl
                                  rotate_left
                                  · simp only [Act.put, List.setIfInBounds_toArray, List.set_cons_zero, List.set_cons_succ, i64_w, i32_w]
                                    rfl
                                  refine pure_ (i := 11) (N := some 109) (v := ?_) (a' := ?_) #[true, true, true, true, true, true, true, true, true, true, true, true, false, false, false, false, false, false, false] rfl rfl (any_of HT_.out (by kernel_rfl)) (fun _ _ _ h => h) (Or.inl ⟨by rfl, ?_⟩) ?_ ?_
                                  rotate_left
                                  · intro w'
                                    go_simp
                                    with_reducible rfl
                                  rotate_left
                                  · simp only [Act.put, List.setIfInBounds_toArray, List.set_cons_zero, List.set_cons_succ, i64_w, i32_w]
                                    rfl
                                  refine pure_ (i := 12) (N := some 110) (v := ?_) (a' := ?_) #[true, true, true, true, true, true, true, true, true, true, true, true, true, false, false, false, false, false, false] rfl rfl (any_of HT_.out (by kernel_rfl)) (fun _ _ _ h => h) (Or.inl ⟨by rfl, ?_⟩) ?_ ?_
                                  rotate_left
                                  · intro w'
                                    go_simp
                                    with_reducible rfl
                                  rotate_left
                                  · simp only [Act.put, List.setIfInBounds_toArray, List.set_cons_zero, List.set_cons_succ, i64_w, i32_w]
                                    rfl
                                  refine take_ (i := 14) (N := some 112) (v := ?_) (a' := ?_) #[true, true, true, true, true, true, true, true, true, true, true, true, true, false, true, false, false, false, false] rfl rfl (take_ofW HT_.out HW_.out (by kernel_rfl)) (fun _ _ _ h => h) (Or.inl ⟨by rfl, ?_⟩) hHeld ?_ ?_
                                  rotate_left
                                  · rintro w' ⟨s0, s1, s2, s3, s4, s5, s6, s7⟩
                                    go_simp
                                    with_reducible rfl
                                  rotate_left
                                  · simp only [Act.put, List.setIfInBounds_toArray, List.set_cons_zero, List.set_cons_succ, i64_w, i32_w]
                                    rfl
                                  refine take_ (i := 15) (N := some 113) (v := ?_) (a' := ?_) #[true, true, true, true, true, true, true, true, true, true, true, true, true, false, true, true, false, false, false] rfl rfl (take_ofW HT_.out HW_.out (by kernel_rfl)) (fun _ _ _ h => h) (Or.inl ⟨by rfl, ?_⟩) hHeld ?_ ?_
                                  rotate_left
                                  · rintro w' ⟨s0, s1, s2, s3, s4, s5, s6, s7⟩
                                    go_simp
                                    with_reducible rfl
                                  rotate_left
                                  · simp only [Act.put, List.setIfInBounds_toArray, List.set_cons_zero, List.set_cons_succ, i64_w, i32_w]
                                    rfl
                                  refine pure_ (i := 16) (N := some 114) (v := ?_) (a' := ?_) #[true, true, true, true, true, true, true, true, true, true, true, true, true, false, true, true, true, false, false] rfl rfl (any_of HT_.out (by kernel_rfl)) (fun _ _ _ h => h) (Or.inl ⟨by rfl, ?_⟩) ?_ ?_
                                  rotate_left
                                  · intro w'
                                    go_simp
                                    with_reducible rfl
                                  rotate_left
                                  · simp only [Act.put, List.setIfInBounds_toArray, List.set_cons_zero, List.set_cons_succ, i64_w, i32_w]
                                    rfl
                                  refine one_ (i := 13) (N := some 111) #[true, true, true, true, true, true, true, true, true, true, true, true, true, true, true, true, true, false, false] rfl rfl (one_of HT_.out (by kernel_rfl)) (by decide) (fun K hK => ?_)
                                  refine goes_ Try.func41 (by kernel_rfl) rfl #[.pointer (some ⟨g199, 0, none⟩), .pointer (some ⟨g219, 0, none⟩)] (by rfl) rfl rfl (by (try simp only [List.map_toArray, List.map_cons, List.map_nil]); first | done | rfl | (simp only [List.length_drop, List.length_take]; rfl)) ?_
                                  with_reducible refine (life_Life_Same.calls g199 t237 t238 t239 g219 t241 t242 t243 t244 w _ ?side1 ?side2 ?side3 A56.out).mono ?_
                                  (case side1 => repeat (first | (with_reducible first | exact HI199.out | apply IsS89.alloc | apply IsS89.drewN | apply IsS89.drew | apply IsS89.set_0 | apply IsS89.set_1 | apply IsS89.set_2 | refine IsS89.far ?_ NB199_206.out _ | refine IsS89.far ?_ NB199_226.out _) | exact HI199.out))
                                  (case side2 => repeat (first | (with_reducible first | exact HI219.out | apply IsS89.alloc | apply IsS89.drewN | apply IsS89.drew | apply IsS89.set_0 | apply IsS89.set_1 | apply IsS89.set_2 | refine IsS89.far ?_ NB219_206.out _ | refine IsS89.far ?_ NB219_226.out _) | exact HI219.out))
                                  (case side3 => repeat (first | (with_reducible first | exact HB.out | apply below_alloc | apply pw_below_drewN | apply below_drew1 | refine below_set ?_ (IsS89.ge HI199.out) | refine below_set ?_ (IsS89.ge HI219.out) | refine below_set ?_ GE206.out | refine below_set ?_ GE226.out) | exact HB.out))
                                  rintro e w' ⟨rfl, ⟨nd, rfl⟩⟩
                                  refine ⟨_, rfl, ?_⟩
                                  refine hK.out _ _ ⟨(blk_cell BK206.out 0).trans rfl, (blk_cell BK206.out 1).trans rfl, (blk_cell BK206.out 2).trans rfl, (blk_cell BK206.out 3).trans rfl, (blk_cell BK226.out 0).trans rfl, (blk_cell BK226.out 1).trans rfl, (blk_cell BK226.out 2).trans rfl, (blk_cell BK226.out 3).trans rfl⟩ (fun hHeld => ?_)
                                  clear hK K
                                  refine norm_ (a' := ?_) ?_ ?_
                                  rotate_left
                                  · show Act.put _ (some 111) _ = _
                                    simp only [Act.put, List.setIfInBounds_toArray, List.set_cons_zero, List.set_cons_succ, i64_w, i32_w]
                                    rfl
                                  refine pure_ (i := 17) (N := some 115) (v := ?_) (a' := ?_) #[true, true, true, true, true, true, true, true, true, true, true, true, true, true, true, true, true, true, false] rfl rfl (any_of HT_.out (by kernel_rfl)) (fun _ _ _ h => h) (Or.inl ⟨by rfl, ?_⟩) ?_ ?_
                                  rotate_left
                                  · intro w'
                                    go_simp
                                    with_reducible rfl
                                  rotate_left
                                  · simp only [Act.put, List.setIfInBounds_toArray, List.set_cons_zero, List.set_cons_succ, i64_w, i32_w]
                                    rfl
                                  refine pure_ (i := 18) (N := some 116) (v := ?_) (a' := ?_) #[true, true, true, true, true, true, true, true, true, true, true, true, true, true, true, true, true, true, true] rfl rfl (any_of HT_.out (by kernel_rfl)) (fun _ _ _ h => h) (Or.inl ⟨by rfl, ?_⟩) ?_ ?_
                                  rotate_left
                                  · intro w'
                                    go_simp
                                    with_reducible rfl
                                  rotate_left
                                  · simp only [Act.put, List.setIfInBounds_toArray, List.set_cons_zero, List.set_cons_succ, i64_w, i32_w]
                                    rfl
                                  refine done_ (done_of HT_.out (by kernel_rfl)) ?_
                                  try go_wp2
                                  go_ret
                                  exact ⟨by first | rfl | (simp [errW_none, errW_some] <;> rfl) | (simp [*, errW_none, errW_some] <;> rfl), by repeat (first | (with_reducible first | exact HB.out | apply below_alloc | apply pw_below_drewN | apply below_drew1 | refine below_set ?_ (IsS89.ge HI199.out) | refine below_set ?_ (IsS89.ge HI219.out) | refine below_set ?_ GE206.out | refine below_set ?_ GE226.out) | exact HB.out)⟩
                                · rw [if_neg c57] at H
                                  have c57b0 : (t244 != (x207000_7 == t228 && (x207001_7 == t229 && (x207002_7 == t230 && (x207003_7 == t231))))) = false := by simpa using c57
                                  (try (have c57b1 : decide (t244 = (x207000_7 == t228 && (x207001_7 == t229 && (x207002_7 == t230 && (x207003_7 == t231))))) = true := by simpa using c57))
                                  (try (have c57b2 : (t244 == (x207000_7 == t228 && (x207001_7 == t229 && (x207002_7 == t230 && (x207003_7 == t231))))) = true := by simpa using c57))
                                  clear c57
                                  have H' := Aside0.mk H
                                  clear H
                                  try go_wp2
                                  have n0_ := Aside0.mk (blk_drew BK206.out)
                                  have n1_ := Aside0.mk (blk_drew BK226.out)
                                  have n2_ := Aside0.mk (IsS89.drew HI199.out)
                                  have n3_ := Aside0.mk (IsS89.drew HI219.out)
                                  have n4_ := Aside0.mk (below_drew1 HB.out)
                                  clear BK206
                                  clear BK226
                                  clear HI199
                                  clear HI219
                                  clear HB
                                  have BK206 := n0_
                                  have BK226 := n1_
                                  have HI199 := n2_
                                  have HI219 := n3_
                                  have HB := n4_
                                  clear n0_ n1_ n2_ n3_ n4_
                                  have p227 : 0 ≤ (x14_3 : Int) := of_decide_eq_true (by first | (with_reducible assumption) | assumption)
                                  have q227 : x14_3 < (l2.length : Int) := of_decide_eq_true (by first | (with_reducible assumption) | assumption)
                                  obtain ⟨ad227, e227, hx227_0⟩ := Kd.at_int HR2.out x14_3 p227 q227
                                  have hw227_0 := hx227_0
                                  cases e227
                                  replace hx227_0 := (HB.out.cell (World.block_lt_of_cell? w _ hx227_0)).trans hx227_0
                                  replace p227 := eq_true p227
                                  replace q227 := eq_true q227
                                  refine start_ (n := 11) (S := fun w' => w'.cell? ⟨gb226, 0, none⟩ = some (.int .i64 x227000_3) ∧ w'.cell? ⟨gb226, 1, none⟩ = some (.int .i64 x227001_3) ∧ w'.cell? ⟨gb226, 2, none⟩ = some (.int .i64 x227002_3) ∧ w'.cell? ⟨gb226, 3, none⟩ = some (.int .i64 x227003_3) ∧ w'.cell? (ad227.add (x14_3).toNat) = some (.int .i64 (rd l2 x14_3))) (ds := [10]) #[false, false, false, false, false, false, false, false, false, false, false] (by kernel_rfl) rfl rfl ⟨(blk_cell BK226.out 0).trans rfl, (blk_cell BK226.out 1).trans rfl, (blk_cell BK226.out 2).trans rfl, (blk_cell BK226.out 3).trans rfl, ((HB.out.cell (World.block_lt_of_cell? w _ hw227_0)).trans hw227_0)⟩ (fun hHeld => ?_); refine with_tabW monocoquelaw32_LifeClones.tab17 monocoquelaw32_LifeClones.bits17 (fun HT_ HW_ => ?_)
                                  generalize wc.drew = w68 at BK206 BK226 HI199 HI219 HB hx227_0 hHeld ⊢
                                  refine pure_ (i := 0) (N := some 89) (v := ?_) (a' := ?_) #[true, false, false, false, false, false, false, false, false, false, false] rfl rfl (any_of HT_.out (by kernel_rfl)) (fun _ _ _ h => h) (Or.inl ⟨by rfl, ?_⟩) ?_ ?_
                                  rotate_left
                                  · intro w'
                                    go_simp
                                    with_reducible rfl
                                  rotate_left
                                  · simp only [Act.put, List.setIfInBounds_toArray, List.set_cons_zero, List.set_cons_succ, i64_w, i32_w]
                                    rfl
                                  refine pure_ (i := 2) (N := some 91) (v := ?_) (a' := ?_) #[true, false, true, false, false, false, false, false, false, false, false] rfl rfl (any_of HT_.out (by kernel_rfl)) (fun _ _ _ h => h) (Or.inl ⟨by rfl, ?_⟩) ?_ ?_
                                  rotate_left
                                  · intro w'
                                    go_simp
                                    with_reducible rfl
                                  rotate_left
                                  · simp only [Act.put, List.setIfInBounds_toArray, List.set_cons_zero, List.set_cons_succ, i64_w, i32_w]
                                    rfl
                                  refine pure_ (i := 3) (N := some 92) (v := ?_) (a' := ?_) #[true, false, true, true, false, false, false, false, false, false, false] rfl rfl (any_of HT_.out (by kernel_rfl)) (fun _ _ _ h => h) (Or.inl ⟨by rfl, ?_⟩) ?_ ?_
                                  rotate_left
                                  · intro w'
                                    go_simp
                                    with_reducible rfl
                                  rotate_left
                                  · simp only [Act.put, List.setIfInBounds_toArray, List.set_cons_zero, List.set_cons_succ, i64_w, i32_w]
                                    rfl
                                  refine pure_ (i := 4) (N := some 93) (v := ?_) (a' := ?_) #[true, false, true, true, true, false, false, false, false, false, false] rfl rfl (any_of HT_.out (by kernel_rfl)) (fun _ _ _ h => h) (Or.inl ⟨by rfl, ?_⟩) ?_ ?_
                                  rotate_left
                                  · intro w'
                                    go_simp
                                    with_reducible rfl
                                  rotate_left
                                  · simp only [Act.put, List.setIfInBounds_toArray, List.set_cons_zero, List.set_cons_succ, i64_w, i32_w]
                                    rfl
                                  refine take_ (i := 1) (N := some 90) (v := ?_) (a' := ?_) #[true, true, true, true, true, false, false, false, false, false, false] rfl rfl (take_ofW HT_.out HW_.out (by kernel_rfl)) (fun _ _ _ h => h) (Or.inl ⟨by rfl, ?_⟩) hHeld ?_ ?_
                                  rotate_left
                                  · rintro w' ⟨s0, s1, s2, s3, s4⟩
                                    go_simp
                                    with_reducible rfl
                                  rotate_left
                                  · simp only [Act.put, List.setIfInBounds_toArray, List.set_cons_zero, List.set_cons_succ, i64_w, i32_w]
                                    rfl
                                  refine take_ (i := 5) (N := some 94) (v := ?_) (a' := ?_) #[true, true, true, true, true, true, false, false, false, false, false] rfl rfl (take_ofW HT_.out HW_.out (by kernel_rfl)) (fun _ _ _ h => h) (Or.inl ⟨by rfl, ?_⟩) hHeld ?_ ?_
                                  rotate_left
                                  · rintro w' ⟨s0, s1, s2, s3, s4⟩
                                    go_simp
                                    with_reducible rfl
                                  rotate_left
                                  · simp only [Act.put, List.setIfInBounds_toArray, List.set_cons_zero, List.set_cons_succ, i64_w, i32_w]
                                    rfl
                                  refine one_ (i := 6) (N := some 95) #[true, true, true, true, true, true, true, false, false, false, false] rfl rfl (one_of HT_.out (by kernel_rfl)) (by decide) (fun K hK => ?_)
                                  refine goes_ Try.func37 (by kernel_rfl) rfl #[.pointer (some ⟨g219, 0, none⟩), .agg #[.int .i64 x227000_3, .int .i64 x227001_3, .int .i64 x227002_3, .int .i64 x227003_3], .int .i64 (rd l2 x14_3)] (by rfl) rfl rfl (by (try simp only [List.map_toArray, List.map_cons, List.map_nil]); first | done | rfl | (simp only [List.length_drop, List.length_take]; rfl)) ?_
                                  with_reducible refine (monocoquelaw32_do.calls kj45 g219 x220000_3 x220001_3 x220002_3 x227000_3 x227001_3 x227002_3 x227003_3 (rd l2 x14_3) t228 t229 t230 t231 t232 t233 t234 t235 w _ ?side1 ?side2 A51.out).mono ?_
                                  (case side1 => repeat (first | (with_reducible first | exact HI219.out | apply IsS89.alloc | apply IsS89.drewN | apply IsS89.drew | apply IsS89.set_0 | apply IsS89.set_1 | apply IsS89.set_2 | refine IsS89.far ?_ NB219_206.out _ | refine IsS89.far ?_ NB219_226.out _) | exact HI219.out))
                                  (case side2 => repeat (first | (with_reducible first | exact HB.out | apply below_alloc | apply pw_below_drewN | apply below_drew1 | refine below_set ?_ (IsS89.ge HI199.out) | refine below_set ?_ (IsS89.ge HI219.out) | refine below_set ?_ GE206.out | refine below_set ?_ GE226.out) | exact HB.out))
                                  rintro e w69 ⟨rfl, hi, hb, hk⟩
                                  refine ⟨_, rfl, ?_⟩
                                  have n0_ := Aside0.mk (KeepBut.blk hk (g' := gb206) (o := .cells #[.int .i64 x207000_7, .int .i64 x207001_7, .int .i64 x207002_7, .int .i64 x207003_7] 69 (0, 0)) (by (with_reducible repeat (first | refine blk_drewN ?_ _ | refine blk_drew ?_ | refine blk_alloc ?_ _)); exact BK206.out) NB206_219.out (by simp))
                                  have n1_ := Aside0.mk (KeepBut.blk hk (g' := gb226) (o := .cells #[.int .i64 x227000_3, .int .i64 x227001_3, .int .i64 x227002_3, .int .i64 x227003_3] 69 (0, 0)) (by (with_reducible repeat (first | refine blk_drewN ?_ _ | refine blk_drew ?_ | refine blk_alloc ?_ _)); exact BK226.out) NB226_219.out (by simp))
                                  have n2_ := Aside0.mk (IsS89.other (show IsS89 w _ g199 x200000_3 x200001_3 x200002_3 from by repeat (first | (with_reducible first | exact HI199.out | apply IsS89.alloc | apply IsS89.drewN | apply IsS89.drew | apply IsS89.set_0 | apply IsS89.set_1 | apply IsS89.set_2 | refine IsS89.far ?_ NB199_206.out _ | refine IsS89.far ?_ NB199_226.out _) | exact HI199.out)) hk NS199_219.out)
                                  have n3_ := Aside0.mk (hb)
                                  have n4_ := Aside0.mk (hi)
                                  clear BK206
                                  clear BK226
                                  clear HI199
                                  clear HB
                                  clear HI219
                                  have BK206 := n0_
                                  have BK226 := n1_
                                  have HI199 := n2_
                                  have HB := n3_
                                  have HI219 := n4_
                                  clear n0_ n1_ n2_ n3_ n4_
                                  (try clear hb)
                                  (try clear hb2)
                                  (try clear hge)
                                  (try clear hk)
                                  (try clear hi)
                                  refine hK.out _ _ ⟨(blk_cell BK226.out 0).trans rfl, (blk_cell BK226.out 1).trans rfl, (blk_cell BK226.out 2).trans rfl, (blk_cell BK226.out 3).trans rfl, ((HB.out.cell (World.block_lt_of_cell? w _ hw227_0)).trans hw227_0)⟩ (fun hHeld => ?_)
                                  clear hK K
                                  refine norm_ (a' := ?_) ?_ ?_
                                  rotate_left
                                  · show Act.put _ (some 95) _ = _
                                    simp only [Act.put, List.setIfInBounds_toArray, List.set_cons_zero, List.set_cons_succ, i64_w, i32_w]
                                    rfl
                                  refine pure_ (i := 7) (N := some 88) (v := ?_) (a' := ?_) #[true, true, true, true, true, true, true, true, false, false, false] rfl rfl (any_of HT_.out (by kernel_rfl)) (fun _ _ _ h => h) (Or.inl ⟨by rfl, ?_⟩) ?_ ?_
                                  rotate_left
                                  · intro w'
                                    go_simp
                                    with_reducible rfl
                                  rotate_left
                                  · simp only [Act.put, List.setIfInBounds_toArray, List.set_cons_zero, List.set_cons_succ, i64_w, i32_w]
                                    rfl
                                  refine pure_ (i := 8) (N := some 96) (v := ?_) (a' := ?_) #[true, true, true, true, true, true, true, true, true, false, false] rfl rfl (any_of HT_.out (by kernel_rfl)) (fun _ _ _ h => h) (Or.inl ⟨by rfl, ?_⟩) ?_ ?_
                                  rotate_left
                                  · intro w'
                                    go_simp
                                    with_reducible rfl
                                  rotate_left
                                  · simp only [Act.put, List.setIfInBounds_toArray, List.set_cons_zero, List.set_cons_succ, i64_w, i32_w]
                                    rfl
                                  refine pure_ (i := 9) (N := some 97) (v := ?_) (a' := ?_) #[true, true, true, true, true, true, true, true, true, true, false] rfl rfl (any_of HT_.out (by kernel_rfl)) (fun _ _ _ h => h) (Or.inl ⟨by rfl, ?_⟩) ?_ ?_
                                  rotate_left
                                  · intro w'
                                    go_simp
                                    with_reducible rfl
                                  rotate_left
                                  · simp only [Act.put, List.setIfInBounds_toArray, List.set_cons_zero, List.set_cons_succ, i64_w, i32_w]
                                    rfl
                                  refine last_ (i := 10) (N := none) #[true, true, true, true, true, true, true, true, true, true, true] rfl rfl (one_of HT_.out (by kernel_rfl)) (by decide) (fun K hK => ?_)
                                  have hs70 : w69.cell? ⟨gb226, 0, none⟩ = some (.int .i64 x227000_3) := (blk_cell BK226.out 0).trans rfl
                                  have hfs70 := blk_frozen BK226.out 0
                                  have hns70_0 := NB206_226.out
                                  have hms70_0 := NB226_206.out
                                  have hs71 : w69.cell? ⟨gb226, 1, none⟩ = some (.int .i64 x227001_3) := (blk_cell BK226.out 1).trans rfl
                                  have hfs71 := blk_frozen BK226.out 1
                                  have hns71_0 := NB206_226.out
                                  have hms71_0 := NB226_206.out
                                  have hs72 : w69.cell? ⟨gb226, 2, none⟩ = some (.int .i64 x227002_3) := (blk_cell BK226.out 2).trans rfl
                                  have hfs72 := blk_frozen BK226.out 2
                                  have hns72_0 := NB206_226.out
                                  have hms72_0 := NB226_206.out
                                  have hs73 : w69.cell? ⟨gb226, 3, none⟩ = some (.int .i64 x227003_3) := (blk_cell BK226.out 3).trans rfl
                                  have hfs73 := blk_frozen BK226.out 3
                                  have hns73_0 := NB206_226.out
                                  have hms73_0 := NB226_206.out
                                  refine skip_ (w1 := ?_) (by rfl) rfl ?_ ?_
                                  rotate_left
                                  · go_simp
                                    rfl
                                  refine hK.out _ _ ?_
                                  clear hK K
                                  refine done_ (done_of HT_.out (by kernel_rfl)) ?_
                                  try go_wp2
                                  have n0_ : Aside0 (((((w69.setCell ⟨gb226, 0, none⟩ (.int .i64 t228)).setCell ⟨gb226, 1, none⟩ (.int .i64 t229)).setCell ⟨gb226, 2, none⟩ (.int .i64 t230)).setCell ⟨gb226, 3, none⟩ (.int .i64 t231)).heap[gb206]? = some (.cells #[.int .i64 x207000_7, .int .i64 x207001_7, .int .i64 x207002_7, .int .i64 x207003_7] 69 (0, 0))) := ⟨by (with_reducible repeat (first | refine blk_drewN ?_ _ | refine blk_drew ?_ | refine blk_alloc ?_ _)); refine blk_far ?_ NB206_226.out _; (with_reducible repeat (first | refine blk_drewN ?_ _ | refine blk_drew ?_ | refine blk_alloc ?_ _)); refine blk_far ?_ NB206_226.out _; (with_reducible repeat (first | refine blk_drewN ?_ _ | refine blk_drew ?_ | refine blk_alloc ?_ _)); refine blk_far ?_ NB206_226.out _; (with_reducible repeat (first | refine blk_drewN ?_ _ | refine blk_drew ?_ | refine blk_alloc ?_ _)); refine blk_far ?_ NB206_226.out _; (with_reducible repeat (first | refine blk_drewN ?_ _ | refine blk_drew ?_ | refine blk_alloc ?_ _)); exact BK206.out⟩
                                  have n1_ : Aside0 (((((w69.setCell ⟨gb226, 0, none⟩ (.int .i64 t228)).setCell ⟨gb226, 1, none⟩ (.int .i64 t229)).setCell ⟨gb226, 2, none⟩ (.int .i64 t230)).setCell ⟨gb226, 3, none⟩ (.int .i64 t231)).heap[gb226]? = some (.cells #[.int .i64 t228, .int .i64 t229, .int .i64 t230, .int .i64 t231] 69 (0, 0))) := ⟨by (with_reducible repeat (first | refine blk_drewN ?_ _ | refine blk_drew ?_ | refine blk_alloc ?_ _)); refine blk_put (cs := #[.int .i64 t228, .int .i64 t229, .int .i64 t230, .int .i64 x227003_3]) ?_ 3 _ rfl; (with_reducible repeat (first | refine blk_drewN ?_ _ | refine blk_drew ?_ | refine blk_alloc ?_ _)); refine blk_put (cs := #[.int .i64 t228, .int .i64 t229, .int .i64 x227002_3, .int .i64 x227003_3]) ?_ 2 _ rfl; (with_reducible repeat (first | refine blk_drewN ?_ _ | refine blk_drew ?_ | refine blk_alloc ?_ _)); refine blk_put (cs := #[.int .i64 t228, .int .i64 x227001_3, .int .i64 x227002_3, .int .i64 x227003_3]) ?_ 1 _ rfl; (with_reducible repeat (first | refine blk_drewN ?_ _ | refine blk_drew ?_ | refine blk_alloc ?_ _)); refine blk_put (cs := #[.int .i64 x227000_3, .int .i64 x227001_3, .int .i64 x227002_3, .int .i64 x227003_3]) ?_ 0 _ rfl; (with_reducible repeat (first | refine blk_drewN ?_ _ | refine blk_drew ?_ | refine blk_alloc ?_ _)); exact BK226.out⟩
                                  have n2_ : Aside0 (IsS89 w ((((w69.setCell ⟨gb226, 0, none⟩ (.int .i64 t228)).setCell ⟨gb226, 1, none⟩ (.int .i64 t229)).setCell ⟨gb226, 2, none⟩ (.int .i64 t230)).setCell ⟨gb226, 3, none⟩ (.int .i64 t231)) g199 x200000_3 x200001_3 x200002_3) := ⟨by repeat (first | (with_reducible first | exact HI199.out | apply IsS89.alloc | apply IsS89.drewN | apply IsS89.drew | apply IsS89.set_0 | apply IsS89.set_1 | apply IsS89.set_2 | refine IsS89.far ?_ NB199_206.out _ | refine IsS89.far ?_ NB199_226.out _) | exact HI199.out)⟩
                                  have n3_ : Aside0 (IsS89 w ((((w69.setCell ⟨gb226, 0, none⟩ (.int .i64 t228)).setCell ⟨gb226, 1, none⟩ (.int .i64 t229)).setCell ⟨gb226, 2, none⟩ (.int .i64 t230)).setCell ⟨gb226, 3, none⟩ (.int .i64 t231)) g219 t233 t234 t235) := ⟨by repeat (first | (with_reducible first | exact HI219.out | apply IsS89.alloc | apply IsS89.drewN | apply IsS89.drew | apply IsS89.set_0 | apply IsS89.set_1 | apply IsS89.set_2 | refine IsS89.far ?_ NB219_206.out _ | refine IsS89.far ?_ NB219_226.out _) | exact HI219.out)⟩
                                  have n4_ : Aside0 (Below w.heap.size w ((((w69.setCell ⟨gb226, 0, none⟩ (.int .i64 t228)).setCell ⟨gb226, 1, none⟩ (.int .i64 t229)).setCell ⟨gb226, 2, none⟩ (.int .i64 t230)).setCell ⟨gb226, 3, none⟩ (.int .i64 t231))) := ⟨by repeat (first | (with_reducible first | exact HB.out | apply below_alloc | apply pw_below_drewN | apply below_drew1 | refine below_set ?_ (IsS89.ge HI199.out) | refine below_set ?_ (IsS89.ge HI219.out) | refine below_set ?_ GE206.out | refine below_set ?_ GE226.out) | exact HB.out)⟩
                                  (try clear BK206)
                                  (try clear BK226)
                                  (try clear HI199)
                                  (try clear HI219)
                                  (try clear HB)
                                  generalize ((((w69.setCell ⟨gb226, 0, none⟩ (.int .i64 t228)).setCell ⟨gb226, 1, none⟩ (.int .i64 t229)).setCell ⟨gb226, 2, none⟩ (.int .i64 t230)).setCell ⟨gb226, 3, none⟩ (.int .i64 t231)) = w74 at n0_ n1_ n2_ n3_ n4_ ⊢
                                  have BK206 := n0_
                                  have BK226 := n1_
                                  have HI199 := n2_
                                  have HI219 := n3_
                                  have HB := n4_
                                  clear n0_ n1_ n2_ n3_ n4_
                                  have n0_ := Aside0.mk (blk_drew BK206.out)
                                  have n1_ := Aside0.mk (blk_drew BK226.out)
                                  have n2_ := Aside0.mk (IsS89.drew HI199.out)
                                  have n3_ := Aside0.mk (IsS89.drew HI219.out)
                                  have n4_ := Aside0.mk (below_drew1 HB.out)
                                  clear BK206
                                  clear BK226
                                  clear HI199
                                  clear HI219
                                  clear HB
                                  have BK206 := n0_
                                  have BK226 := n1_
                                  have HI199 := n2_
                                  have HI219 := n3_
                                  have HB := n4_
                                  clear n0_ n1_ n2_ n3_ n4_
                                  refine start_ (n := 19) (S := fun w' => w'.cell? ⟨gb206, 0, none⟩ = some (.int .i64 x207000_7) ∧ w'.cell? ⟨gb206, 1, none⟩ = some (.int .i64 x207001_7) ∧ w'.cell? ⟨gb206, 2, none⟩ = some (.int .i64 x207002_7) ∧ w'.cell? ⟨gb206, 3, none⟩ = some (.int .i64 x207003_7) ∧ w'.cell? ⟨gb226, 0, none⟩ = some (.int .i64 t228) ∧ w'.cell? ⟨gb226, 1, none⟩ = some (.int .i64 t229) ∧ w'.cell? ⟨gb226, 2, none⟩ = some (.int .i64 t230) ∧ w'.cell? ⟨gb226, 3, none⟩ = some (.int .i64 t231)) (ds := []) #[false, false, false, false, false, false, false, false, false, false, false, false, false, false, false, false, false, false, false] (by kernel_rfl) rfl rfl ⟨(blk_cell BK206.out 0).trans rfl, (blk_cell BK206.out 1).trans rfl, (blk_cell BK206.out 2).trans rfl, (blk_cell BK206.out 3).trans rfl, (blk_cell BK226.out 0).trans rfl, (blk_cell BK226.out 1).trans rfl, (blk_cell BK226.out 2).trans rfl, (blk_cell BK226.out 3).trans rfl⟩ (fun hHeld => ?_); refine with_tabW monocoquelaw32_LifeClones.tab18 monocoquelaw32_LifeClones.bits18 (fun HT_ HW_ => ?_)
                                  generalize w74.drew = w75 at BK206 BK226 HI199 HI219 HB hHeld ⊢
                                  refine pure_ (i := 0) (N := some 98) (v := ?_) (a' := ?_) #[true, false, false, false, false, false, false, false, false, false, false, false, false, false, false, false, false, false, false] rfl rfl (any_of HT_.out (by kernel_rfl)) (fun _ _ _ h => h) (Or.inl ⟨by rfl, ?_⟩) ?_ ?_
                                  rotate_left
                                  · intro w'
                                    go_simp
                                    with_reducible rfl
                                  rotate_left
                                  · simp only [Act.put, List.setIfInBounds_toArray, List.set_cons_zero, List.set_cons_succ, i64_w, i32_w]
                                    rfl
                                  refine take_ (i := 1) (N := some 99) (v := ?_) (a' := ?_) #[true, true, false, false, false, false, false, false, false, false, false, false, false, false, false, false, false, false, false] rfl rfl (take_ofW HT_.out HW_.out (by kernel_rfl)) (fun _ _ _ h => h) (Or.inl ⟨by rfl, ?_⟩) hHeld ?_ ?_
                                  rotate_left
                                  · rintro w' ⟨s0, s1, s2, s3, s4, s5, s6, s7⟩
                                    go_simp
                                    with_reducible rfl
                                  rotate_left
                                  · simp only [Act.put, List.setIfInBounds_toArray, List.set_cons_zero, List.set_cons_succ, i64_w, i32_w]
                                    rfl
                                  refine one_ (i := 2) (N := some 100) #[true, true, true, false, false, false, false, false, false, false, false, false, false, false, false, false, false, false, false] rfl rfl (one_of HT_.out (by kernel_rfl)) (by decide) (fun K hK => ?_)
                                  refine goes_ Try.func38 (by kernel_rfl) rfl #[.pointer (some ⟨g199, 0, none⟩), .agg #[.int .i64 x207000_7, .int .i64 x207001_7, .int .i64 x207002_7, .int .i64 x207003_7]] (by rfl) rfl rfl (by (try simp only [List.map_toArray, List.map_cons, List.map_nil]); first | done | rfl | (simp only [List.length_drop, List.length_take]; rfl)) ?_
                                  with_reducible refine (monocoquelaw32_same.calls g199 x200000_3 x200001_3 x200002_3 x207000_7 x207001_7 x207002_7 x207003_7 true t237 t238 t239 w _ ?side1 ?side2 A52.out).mono ?_
                                  (case side1 => repeat (first | (with_reducible first | exact HI199.out | apply IsS89.alloc | apply IsS89.drewN | apply IsS89.drew | apply IsS89.set_0 | apply IsS89.set_1 | apply IsS89.set_2 | refine IsS89.far ?_ NB199_206.out _ | refine IsS89.far ?_ NB199_226.out _) | exact HI199.out))
                                  (case side2 => repeat (first | (with_reducible first | exact HB.out | apply below_alloc | apply pw_below_drewN | apply below_drew1 | refine below_set ?_ (IsS89.ge HI199.out) | refine below_set ?_ (IsS89.ge HI219.out) | refine below_set ?_ GE206.out | refine below_set ?_ GE226.out) | exact HB.out))
                                  rintro e w76 ⟨rfl, hi, hb, hk⟩
                                  refine ⟨_, rfl, ?_⟩
                                  have n0_ := Aside0.mk (KeepBut.blk hk (g' := gb206) (o := .cells #[.int .i64 x207000_7, .int .i64 x207001_7, .int .i64 x207002_7, .int .i64 x207003_7] 69 (0, 0)) (by (with_reducible repeat (first | refine blk_drewN ?_ _ | refine blk_drew ?_ | refine blk_alloc ?_ _)); exact BK206.out) NB206_199.out (by simp))
                                  have n1_ := Aside0.mk (KeepBut.blk hk (g' := gb226) (o := .cells #[.int .i64 t228, .int .i64 t229, .int .i64 t230, .int .i64 t231] 69 (0, 0)) (by (with_reducible repeat (first | refine blk_drewN ?_ _ | refine blk_drew ?_ | refine blk_alloc ?_ _)); exact BK226.out) NB226_199.out (by simp))
                                  have n2_ := Aside0.mk (IsS89.other (show IsS89 w _ g219 t233 t234 t235 from by repeat (first | (with_reducible first | exact HI219.out | apply IsS89.alloc | apply IsS89.drewN | apply IsS89.drew | apply IsS89.set_0 | apply IsS89.set_1 | apply IsS89.set_2 | refine IsS89.far ?_ NB219_206.out _ | refine IsS89.far ?_ NB219_226.out _) | exact HI219.out)) hk NS219_199.out)
                                  have n3_ := Aside0.mk (hb)
                                  have n4_ := Aside0.mk (hi)
                                  clear BK206
                                  clear BK226
                                  clear HI219
                                  clear HB
                                  clear HI199
                                  have BK206 := n0_
                                  have BK226 := n1_
                                  have HI219 := n2_
                                  have HB := n3_
                                  have HI199 := n4_
                                  clear n0_ n1_ n2_ n3_ n4_
                                  (try clear hb)
                                  (try clear hb2)
                                  (try clear hge)
                                  (try clear hk)
                                  (try clear hi)
                                  refine hK.out _ _ ⟨(blk_cell BK206.out 0).trans rfl, (blk_cell BK206.out 1).trans rfl, (blk_cell BK206.out 2).trans rfl, (blk_cell BK206.out 3).trans rfl, (blk_cell BK226.out 0).trans rfl, (blk_cell BK226.out 1).trans rfl, (blk_cell BK226.out 2).trans rfl, (blk_cell BK226.out 3).trans rfl⟩ (fun hHeld => ?_)
                                  clear hK K
                                  refine norm_ (a' := ?_) ?_ ?_
                                  rotate_left
                                  · show Act.put _ (some 100) _ = _
                                    simp only [Act.put, List.setIfInBounds_toArray, List.set_cons_zero, List.set_cons_succ, i64_w, i32_w]
                                    rfl
                                  refine pure_ (i := 3) (N := some 101) (v := ?_) (a' := ?_) #[true, true, true, true, false, false, false, false, false, false, false, false, false, false, false, false, false, false, false] rfl rfl (any_of HT_.out (by kernel_rfl)) (fun _ _ _ h => h) (Or.inl ⟨by rfl, ?_⟩) ?_ ?_
                                  rotate_left
                                  · intro w'
                                    go_simp
                                    with_reducible rfl
                                  rotate_left
                                  · simp only [Act.put, List.setIfInBounds_toArray, List.set_cons_zero, List.set_cons_succ, i64_w, i32_w]
                                    rfl
                                  refine pure_ (i := 4) (N := some 102) (v := ?_) (a' := ?_) #[true, true, true, true, true, false, false, false, false, false, false, false, false, false, false, false, false, false, false] rfl rfl (any_of HT_.out (by kernel_rfl)) (fun _ _ _ h => h) (Or.inl ⟨by rfl, ?_⟩) ?_ ?_
                                  rotate_left
                                  · intro w'
                                    go_simp
                                    with_reducible rfl
                                  rotate_left
                                  · simp only [Act.put, List.setIfInBounds_toArray, List.set_cons_zero, List.set_cons_succ, i64_w, i32_w]
                                    rfl
                                  refine pure_ (i := 5) (N := some 103) (v := ?_) (a' := ?_) #[true, true, true, true, true, true, false, false, false, false, false, false, false, false, false, false, false, false, false] rfl rfl (any_of HT_.out (by kernel_rfl)) (fun _ _ _ h => h) (Or.inl ⟨by rfl, ?_⟩) ?_ ?_
                                  rotate_left
                                  · intro w'
                                    go_simp
                                    with_reducible rfl
                                  rotate_left
                                  · simp only [Act.put, List.setIfInBounds_toArray, List.set_cons_zero, List.set_cons_succ, i64_w, i32_w]
                                    rfl
                                  refine take_ (i := 6) (N := some 104) (v := ?_) (a' := ?_) #[true, true, true, true, true, true, true, false, false, false, false, false, false, false, false, false, false, false, false] rfl rfl (take_ofW HT_.out HW_.out (by kernel_rfl)) (fun _ _ _ h => h) (Or.inl ⟨by rfl, ?_⟩) hHeld ?_ ?_
                                  rotate_left
                                  · rintro w' ⟨s0, s1, s2, s3, s4, s5, s6, s7⟩
                                    go_simp
                                    with_reducible rfl
                                  rotate_left
                                  · simp only [Act.put, List.setIfInBounds_toArray, List.set_cons_zero, List.set_cons_succ, i64_w, i32_w]
                                    rfl
                                  refine one_ (i := 7) (N := some 105) #[true, true, true, true, true, true, true, true, false, false, false, false, false, false, false, false, false, false, false] rfl rfl (one_of HT_.out (by kernel_rfl)) (by decide) (fun K hK => ?_)
                                  refine goes_ Try.func38 (by kernel_rfl) rfl #[.pointer (some ⟨g219, 0, none⟩), .agg #[.int .i64 t228, .int .i64 t229, .int .i64 t230, .int .i64 t231]] (by rfl) rfl rfl (by (try simp only [List.map_toArray, List.map_cons, List.map_nil]); first | done | rfl | (simp only [List.length_drop, List.length_take]; rfl)) ?_
                                  with_reducible refine (monocoquelaw32_same.calls g219 t233 t234 t235 t228 t229 t230 t231 true t241 t242 t243 w _ ?side1 ?side2 A54.out).mono ?_
                                  (case side1 => repeat (first | (with_reducible first | exact HI219.out | apply IsS89.alloc | apply IsS89.drewN | apply IsS89.drew | apply IsS89.set_0 | apply IsS89.set_1 | apply IsS89.set_2 | refine IsS89.far ?_ NB219_206.out _ | refine IsS89.far ?_ NB219_226.out _) | exact HI219.out))
                                  (case side2 => repeat (first | (with_reducible first | exact HB.out | apply below_alloc | apply pw_below_drewN | apply below_drew1 | refine below_set ?_ (IsS89.ge HI199.out) | refine below_set ?_ (IsS89.ge HI219.out) | refine below_set ?_ GE206.out | refine below_set ?_ GE226.out) | exact HB.out))
                                  rintro e w77 ⟨rfl, hi, hb, hk⟩
                                  refine ⟨_, rfl, ?_⟩
                                  have n0_ := Aside0.mk (KeepBut.blk hk (g' := gb206) (o := .cells #[.int .i64 x207000_7, .int .i64 x207001_7, .int .i64 x207002_7, .int .i64 x207003_7] 69 (0, 0)) (by (with_reducible repeat (first | refine blk_drewN ?_ _ | refine blk_drew ?_ | refine blk_alloc ?_ _)); exact BK206.out) NB206_219.out (by simp))
                                  have n1_ := Aside0.mk (KeepBut.blk hk (g' := gb226) (o := .cells #[.int .i64 t228, .int .i64 t229, .int .i64 t230, .int .i64 t231] 69 (0, 0)) (by (with_reducible repeat (first | refine blk_drewN ?_ _ | refine blk_drew ?_ | refine blk_alloc ?_ _)); exact BK226.out) NB226_219.out (by simp))
                                  have n2_ := Aside0.mk (IsS89.other (show IsS89 w _ g199 t237 t238 t239 from by repeat (first | (with_reducible first | exact HI199.out | apply IsS89.alloc | apply IsS89.drewN | apply IsS89.drew | apply IsS89.set_0 | apply IsS89.set_1 | apply IsS89.set_2 | refine IsS89.far ?_ NB199_206.out _ | refine IsS89.far ?_ NB199_226.out _) | exact HI199.out)) hk NS199_219.out)
                                  have n3_ := Aside0.mk (hb)
                                  have n4_ := Aside0.mk (hi)
                                  clear BK206
                                  clear BK226
                                  clear HI199
                                  clear HB
                                  clear HI219
                                  have BK206 := n0_
                                  have BK226 := n1_
                                  have HI199 := n2_
                                  have HB := n3_
                                  have HI219 := n4_
                                  clear n0_ n1_ n2_ n3_ n4_
                                  (try clear hb)
                                  (try clear hb2)
                                  (try clear hge)
                                  (try clear hk)
                                  (try clear hi)
                                  refine hK.out _ _ ⟨(blk_cell BK206.out 0).trans rfl, (blk_cell BK206.out 1).trans rfl, (blk_cell BK206.out 2).trans rfl, (blk_cell BK206.out 3).trans rfl, (blk_cell BK226.out 0).trans rfl, (blk_cell BK226.out 1).trans rfl, (blk_cell BK226.out 2).trans rfl, (blk_cell BK226.out 3).trans rfl⟩ (fun hHeld => ?_)
                                  clear hK K
                                  refine norm_ (a' := ?_) ?_ ?_
                                  rotate_left
                                  · show Act.put _ (some 105) _ = _
                                    simp only [Act.put, List.setIfInBounds_toArray, List.set_cons_zero, List.set_cons_succ, i64_w, i32_w]
                                    rfl
                                  refine pure_ (i := 8) (N := some 106) (v := ?_) (a' := ?_) #[true, true, true, true, true, true, true, true, true, false, false, false, false, false, false, false, false, false, false] rfl rfl (any_of HT_.out (by kernel_rfl)) (fun _ _ _ h => h) (Or.inl ⟨by rfl, ?_⟩) ?_ ?_
                                  rotate_left
                                  · intro w'
                                    go_simp
                                    with_reducible rfl
                                  rotate_left
                                  · simp only [Act.put, List.setIfInBounds_toArray, List.set_cons_zero, List.set_cons_succ, i64_w, i32_w]
                                    rfl
                                  refine pure_ (i := 9) (N := some 107) (v := ?_) (a' := ?_) #[true, true, true, true, true, true, true, true, true, true, false, false, false, false, false, false, false, false, false] rfl rfl (any_of HT_.out (by kernel_rfl)) (fun _ _ _ h => h) (Or.inl ⟨by rfl, ?_⟩) ?_ ?_
                                  rotate_left
                                  · intro w'
                                    go_simp
                                    with_reducible rfl
                                  rotate_left
                                  · simp only [Act.put, List.setIfInBounds_toArray, List.set_cons_zero, List.set_cons_succ, i64_w, i32_w]
                                    rfl
                                  refine pure_ (i := 10) (N := some 108) (v := ?_) (a' := ?_) #[true, true, true, true, true, true, true, true, true, true, true, false, false, false, false, false, false, false, false] rfl rfl (any_of HT_.out (by kernel_rfl)) (fun _ _ _ h => h) (Or.inl ⟨by rfl, ?_⟩) ?_ ?_
                                  rotate_left
                                  · intro w'
                                    go_simp
                                    with_reducible rfl
                                  rotate_left
                                  · simp only [Act.put, List.setIfInBounds_toArray, List.set_cons_zero, List.set_cons_succ, i64_w, i32_w]
                                    rfl
                                  refine pure_ (i := 11) (N := some 109) (v := ?_) (a' := ?_) #[true, true, true, true, true, true, true, true, true, true, true, true, false, false, false, false, false, false, false] rfl rfl (any_of HT_.out (by kernel_rfl)) (fun _ _ _ h => h) (Or.inl ⟨by rfl, ?_⟩) ?_ ?_
                                  rotate_left
                                  · intro w'
                                    go_simp
                                    with_reducible rfl
                                  rotate_left
                                  · simp only [Act.put, List.setIfInBounds_toArray, List.set_cons_zero, List.set_cons_succ, i64_w, i32_w]
                                    rfl
                                  refine pure_ (i := 12) (N := some 110) (v := ?_) (a' := ?_) #[true, true, true, true, true, true, true, true, true, true, true, true, true, false, false, false, false, false, false] rfl rfl (any_of HT_.out (by kernel_rfl)) (fun _ _ _ h => h) (Or.inl ⟨by rfl, ?_⟩) ?_ ?_
                                  rotate_left
                                  · intro w'
                                    go_simp
                                    with_reducible rfl
                                  rotate_left
                                  · simp only [Act.put, List.setIfInBounds_toArray, List.set_cons_zero, List.set_cons_succ, i64_w, i32_w]
                                    rfl
                                  refine take_ (i := 14) (N := some 112) (v := ?_) (a' := ?_) #[true, true, true, true, true, true, true, true, true, true, true, true, true, false, true, false, false, false, false] rfl rfl (take_ofW HT_.out HW_.out (by kernel_rfl)) (fun _ _ _ h => h) (Or.inl ⟨by rfl, ?_⟩) hHeld ?_ ?_
                                  rotate_left
                                  · rintro w' ⟨s0, s1, s2, s3, s4, s5, s6, s7⟩
                                    go_simp
                                    with_reducible rfl
                                  rotate_left
                                  · simp only [Act.put, List.setIfInBounds_toArray, List.set_cons_zero, List.set_cons_succ, i64_w, i32_w]
                                    rfl
                                  refine take_ (i := 15) (N := some 113) (v := ?_) (a' := ?_) #[true, true, true, true, true, true, true, true, true, true, true, true, true, false, true, true, false, false, false] rfl rfl (take_ofW HT_.out HW_.out (by kernel_rfl)) (fun _ _ _ h => h) (Or.inl ⟨by rfl, ?_⟩) hHeld ?_ ?_
                                  rotate_left
                                  · rintro w' ⟨s0, s1, s2, s3, s4, s5, s6, s7⟩
                                    go_simp
                                    with_reducible rfl
                                  rotate_left
                                  · simp only [Act.put, List.setIfInBounds_toArray, List.set_cons_zero, List.set_cons_succ, i64_w, i32_w]
                                    rfl
                                  refine pure_ (i := 16) (N := some 114) (v := ?_) (a' := ?_) #[true, true, true, true, true, true, true, true, true, true, true, true, true, false, true, true, true, false, false] rfl rfl (any_of HT_.out (by kernel_rfl)) (fun _ _ _ h => h) (Or.inl ⟨by rfl, ?_⟩) ?_ ?_
                                  rotate_left
                                  · intro w'
                                    go_simp
                                    with_reducible rfl
                                  rotate_left
                                  · simp only [Act.put, List.setIfInBounds_toArray, List.set_cons_zero, List.set_cons_succ, i64_w, i32_w]
                                    rfl
                                  refine one_ (i := 13) (N := some 111) #[true, true, true, true, true, true, true, true, true, true, true, true, true, true, true, true, true, false, false] rfl rfl (one_of HT_.out (by kernel_rfl)) (by decide) (fun K hK => ?_)
                                  refine goes_ Try.func41 (by kernel_rfl) rfl #[.pointer (some ⟨g199, 0, none⟩), .pointer (some ⟨g219, 0, none⟩)] (by rfl) rfl rfl (by (try simp only [List.map_toArray, List.map_cons, List.map_nil]); first | done | rfl | (simp only [List.length_drop, List.length_take]; rfl)) ?_
                                  with_reducible refine (life_Life_Same.calls g199 t237 t238 t239 g219 t241 t242 t243 t244 w _ ?side1 ?side2 ?side3 A56.out).mono ?_
                                  (case side1 => repeat (first | (with_reducible first | exact HI199.out | apply IsS89.alloc | apply IsS89.drewN | apply IsS89.drew | apply IsS89.set_0 | apply IsS89.set_1 | apply IsS89.set_2 | refine IsS89.far ?_ NB199_206.out _ | refine IsS89.far ?_ NB199_226.out _) | exact HI199.out))
                                  (case side2 => repeat (first | (with_reducible first | exact HI219.out | apply IsS89.alloc | apply IsS89.drewN | apply IsS89.drew | apply IsS89.set_0 | apply IsS89.set_1 | apply IsS89.set_2 | refine IsS89.far ?_ NB219_206.out _ | refine IsS89.far ?_ NB219_226.out _) | exact HI219.out))
                                  (case side3 => repeat (first | (with_reducible first | exact HB.out | apply below_alloc | apply pw_below_drewN | apply below_drew1 | refine below_set ?_ (IsS89.ge HI199.out) | refine below_set ?_ (IsS89.ge HI219.out) | refine below_set ?_ GE206.out | refine below_set ?_ GE226.out) | exact HB.out))
                                  rintro e w' ⟨rfl, ⟨nd, rfl⟩⟩
                                  refine ⟨_, rfl, ?_⟩
                                  refine hK.out _ _ ⟨(blk_cell BK206.out 0).trans rfl, (blk_cell BK206.out 1).trans rfl, (blk_cell BK206.out 2).trans rfl, (blk_cell BK206.out 3).trans rfl, (blk_cell BK226.out 0).trans rfl, (blk_cell BK226.out 1).trans rfl, (blk_cell BK226.out 2).trans rfl, (blk_cell BK226.out 3).trans rfl⟩ (fun hHeld => ?_)
                                  clear hK K
                                  refine norm_ (a' := ?_) ?_ ?_
                                  rotate_left
                                  · show Act.put _ (some 111) _ = _
                                    simp only [Act.put, List.setIfInBounds_toArray, List.set_cons_zero, List.set_cons_succ, i64_w, i32_w]
                                    rfl
                                  refine pure_ (i := 17) (N := some 115) (v := ?_) (a' := ?_) #[true, true, true, true, true, true, true, true, true, true, true, true, true, true, true, true, true, true, false] rfl rfl (any_of HT_.out (by kernel_rfl)) (fun _ _ _ h => h) (Or.inl ⟨by rfl, ?_⟩) ?_ ?_
                                  rotate_left
                                  · intro w'
                                    go_simp
                                    with_reducible rfl
                                  rotate_left
                                  · simp only [Act.put, List.setIfInBounds_toArray, List.set_cons_zero, List.set_cons_succ, i64_w, i32_w]
                                    rfl
                                  refine pure_ (i := 18) (N := some 116) (v := ?_) (a' := ?_) #[true, true, true, true, true, true, true, true, true, true, true, true, true, true, true, true, true, true, true] rfl rfl (any_of HT_.out (by kernel_rfl)) (fun _ _ _ h => h) (Or.inl ⟨by rfl, ?_⟩) ?_ ?_
                                  rotate_left
                                  · intro w'
                                    go_simp
                                    with_reducible rfl
                                  rotate_left
                                  · simp only [Act.put, List.setIfInBounds_toArray, List.set_cons_zero, List.set_cons_succ, i64_w, i32_w]
                                    rfl
                                  refine done_ (done_of HT_.out (by kernel_rfl)) ?_
                                  try go_wp2
                                  go_roundg kj45
                                  case measure => have := HJ7.out; have := HJ25.out; have := HK3.out; have := HJ45.out; omega
                                  case rel => exact ⟨(wrap64 (x14_3 + 1)), (t237), (t238), (t239), (t241), (t242), (t243), (t228), (t229), (t230), (t231), (by first | rfl | (simp; done) | (simp [*]; done)), H', ⟨by have := HJ7.out; have := HJ25.out; have := HK3.out; have := HJ45.out; omega⟩, ⟨by (with_reducible repeat (first | refine blk_drewN ?_ _ | refine blk_drew ?_ | refine blk_alloc ?_ _)); exact BK206.out⟩, ⟨by (with_reducible repeat (first | refine blk_drewN ?_ _ | refine blk_drew ?_ | refine blk_alloc ?_ _)); exact BK226.out⟩, ⟨by repeat (first | (with_reducible first | exact HI199.out | apply IsS89.alloc | apply IsS89.drewN | apply IsS89.drew | apply IsS89.set_0 | apply IsS89.set_1 | apply IsS89.set_2 | refine IsS89.far ?_ NB199_206.out _ | refine IsS89.far ?_ NB199_226.out _) | exact HI199.out)⟩, ⟨by repeat (first | (with_reducible first | exact HI219.out | apply IsS89.alloc | apply IsS89.drewN | apply IsS89.drew | apply IsS89.set_0 | apply IsS89.set_1 | apply IsS89.set_2 | refine IsS89.far ?_ NB219_206.out _ | refine IsS89.far ?_ NB219_226.out _) | exact HI219.out)⟩, ⟨by repeat (first | (with_reducible first | exact HB.out | apply below_alloc | apply pw_below_drewN | apply below_drew1 | refine below_set ?_ (IsS89.ge HI199.out) | refine below_set ?_ (IsS89.ge HI219.out) | refine below_set ?_ GE206.out | refine below_set ?_ GE226.out) | exact HB.out)⟩⟩
                              · replace c55 := Bool.eq_false_iff.mpr c55
                                subst c55
                                have H1 : (some false) = some r := by rw [if_neg (show ¬ (false = true) by decide)] at H; exact H
                                clear H
                                have H := H1
                                clear H1
                                obtain rfl := Option.some.inj H
                                try go_wp2
                                have n0_ := Aside0.mk (blk_drew BK206.out)
                                have n1_ := Aside0.mk (blk_drew BK226.out)
                                have n2_ := Aside0.mk (IsS89.drew HI199.out)
                                have n3_ := Aside0.mk (IsS89.drew HI219.out)
                                have n4_ := Aside0.mk (below_drew1 HB.out)
                                clear BK206
                                clear BK226
                                clear HI199
                                clear HI219
                                clear HB
                                have BK206 := n0_
                                have BK226 := n1_
                                have HI199 := n2_
                                have HI219 := n3_
                                have HB := n4_
                                clear n0_ n1_ n2_ n3_ n4_
                                have p227 : 0 ≤ (x14_3 : Int) := of_decide_eq_true (by first | (with_reducible assumption) | assumption)
                                have q227 : x14_3 < (l2.length : Int) := of_decide_eq_true (by first | (with_reducible assumption) | assumption)
                                obtain ⟨ad227, e227, hx227_0⟩ := Kd.at_int HR2.out x14_3 p227 q227
                                have hw227_0 := hx227_0
                                cases e227
                                replace hx227_0 := (HB.out.cell (World.block_lt_of_cell? w _ hx227_0)).trans hx227_0
                                replace p227 := eq_true p227
                                replace q227 := eq_true q227
                                refine start_ (n := 11) (S := fun w' => w'.cell? ⟨gb226, 0, none⟩ = some (.int .i64 x227000_3) ∧ w'.cell? ⟨gb226, 1, none⟩ = some (.int .i64 x227001_3) ∧ w'.cell? ⟨gb226, 2, none⟩ = some (.int .i64 x227002_3) ∧ w'.cell? ⟨gb226, 3, none⟩ = some (.int .i64 x227003_3) ∧ w'.cell? (ad227.add (x14_3).toNat) = some (.int .i64 (rd l2 x14_3))) (ds := [10]) #[false, false, false, false, false, false, false, false, false, false, false] (by kernel_rfl) rfl rfl ⟨(blk_cell BK226.out 0).trans rfl, (blk_cell BK226.out 1).trans rfl, (blk_cell BK226.out 2).trans rfl, (blk_cell BK226.out 3).trans rfl, ((HB.out.cell (World.block_lt_of_cell? w _ hw227_0)).trans hw227_0)⟩ (fun hHeld => ?_); refine with_tabW monocoquelaw32_LifeClones.tab17 monocoquelaw32_LifeClones.bits17 (fun HT_ HW_ => ?_)
                                generalize wc.drew = w78 at BK206 BK226 HI199 HI219 HB hx227_0 hHeld ⊢
                                refine pure_ (i := 0) (N := some 89) (v := ?_) (a' := ?_) #[true, false, false, false, false, false, false, false, false, false, false] rfl rfl (any_of HT_.out (by kernel_rfl)) (fun _ _ _ h => h) (Or.inl ⟨by rfl, ?_⟩) ?_ ?_
                                rotate_left
                                · intro w'
                                  go_simp
                                  with_reducible rfl
                                rotate_left
                                · simp only [Act.put, List.setIfInBounds_toArray, List.set_cons_zero, List.set_cons_succ, i64_w, i32_w]
                                  rfl
                                refine pure_ (i := 2) (N := some 91) (v := ?_) (a' := ?_) #[true, false, true, false, false, false, false, false, false, false, false] rfl rfl (any_of HT_.out (by kernel_rfl)) (fun _ _ _ h => h) (Or.inl ⟨by rfl, ?_⟩) ?_ ?_
                                rotate_left
                                · intro w'
                                  go_simp
                                  with_reducible rfl
                                rotate_left
                                · simp only [Act.put, List.setIfInBounds_toArray, List.set_cons_zero, List.set_cons_succ, i64_w, i32_w]
                                  rfl
                                refine pure_ (i := 3) (N := some 92) (v := ?_) (a' := ?_) #[true, false, true, true, false, false, false, false, false, false, false] rfl rfl (any_of HT_.out (by kernel_rfl)) (fun _ _ _ h => h) (Or.inl ⟨by rfl, ?_⟩) ?_ ?_
                                rotate_left
                                · intro w'
                                  go_simp
                                  with_reducible rfl
                                rotate_left
                                · simp only [Act.put, List.setIfInBounds_toArray, List.set_cons_zero, List.set_cons_succ, i64_w, i32_w]
                                  rfl
                                refine pure_ (i := 4) (N := some 93) (v := ?_) (a' := ?_) #[true, false, true, true, true, false, false, false, false, false, false] rfl rfl (any_of HT_.out (by kernel_rfl)) (fun _ _ _ h => h) (Or.inl ⟨by rfl, ?_⟩) ?_ ?_
                                rotate_left
                                · intro w'
                                  go_simp
                                  with_reducible rfl
                                rotate_left
                                · simp only [Act.put, List.setIfInBounds_toArray, List.set_cons_zero, List.set_cons_succ, i64_w, i32_w]
                                  rfl
                                refine take_ (i := 1) (N := some 90) (v := ?_) (a' := ?_) #[true, true, true, true, true, false, false, false, false, false, false] rfl rfl (take_ofW HT_.out HW_.out (by kernel_rfl)) (fun _ _ _ h => h) (Or.inl ⟨by rfl, ?_⟩) hHeld ?_ ?_
                                rotate_left
                                · rintro w' ⟨s0, s1, s2, s3, s4⟩
                                  go_simp
                                  with_reducible rfl
                                rotate_left
                                · simp only [Act.put, List.setIfInBounds_toArray, List.set_cons_zero, List.set_cons_succ, i64_w, i32_w]
                                  rfl
                                refine take_ (i := 5) (N := some 94) (v := ?_) (a' := ?_) #[true, true, true, true, true, true, false, false, false, false, false] rfl rfl (take_ofW HT_.out HW_.out (by kernel_rfl)) (fun _ _ _ h => h) (Or.inl ⟨by rfl, ?_⟩) hHeld ?_ ?_
                                rotate_left
                                · rintro w' ⟨s0, s1, s2, s3, s4⟩
                                  go_simp
                                  with_reducible rfl
                                rotate_left
                                · simp only [Act.put, List.setIfInBounds_toArray, List.set_cons_zero, List.set_cons_succ, i64_w, i32_w]
                                  rfl
                                refine one_ (i := 6) (N := some 95) #[true, true, true, true, true, true, true, false, false, false, false] rfl rfl (one_of HT_.out (by kernel_rfl)) (by decide) (fun K hK => ?_)
                                refine goes_ Try.func37 (by kernel_rfl) rfl #[.pointer (some ⟨g219, 0, none⟩), .agg #[.int .i64 x227000_3, .int .i64 x227001_3, .int .i64 x227002_3, .int .i64 x227003_3], .int .i64 (rd l2 x14_3)] (by rfl) rfl rfl (by (try simp only [List.map_toArray, List.map_cons, List.map_nil]); first | done | rfl | (simp only [List.length_drop, List.length_take]; rfl)) ?_
                                with_reducible refine (monocoquelaw32_do.calls kj45 g219 x220000_3 x220001_3 x220002_3 x227000_3 x227001_3 x227002_3 x227003_3 (rd l2 x14_3) t228 t229 t230 t231 t232 t233 t234 t235 w _ ?side1 ?side2 A51.out).mono ?_
                                (case side1 => repeat (first | (with_reducible first | exact HI219.out | apply IsS89.alloc | apply IsS89.drewN | apply IsS89.drew | apply IsS89.set_0 | apply IsS89.set_1 | apply IsS89.set_2 | refine IsS89.far ?_ NB219_206.out _ | refine IsS89.far ?_ NB219_226.out _) | exact HI219.out))
                                (case side2 => repeat (first | (with_reducible first | exact HB.out | apply below_alloc | apply pw_below_drewN | apply below_drew1 | refine below_set ?_ (IsS89.ge HI199.out) | refine below_set ?_ (IsS89.ge HI219.out) | refine below_set ?_ GE206.out | refine below_set ?_ GE226.out) | exact HB.out))
                                rintro e w79 ⟨rfl, hi, hb, hk⟩
                                refine ⟨_, rfl, ?_⟩
                                have n0_ := Aside0.mk (KeepBut.blk hk (g' := gb206) (o := .cells #[.int .i64 x207000_7, .int .i64 x207001_7, .int .i64 x207002_7, .int .i64 x207003_7] 69 (0, 0)) (by (with_reducible repeat (first | refine blk_drewN ?_ _ | refine blk_drew ?_ | refine blk_alloc ?_ _)); exact BK206.out) NB206_219.out (by simp))
                                have n1_ := Aside0.mk (KeepBut.blk hk (g' := gb226) (o := .cells #[.int .i64 x227000_3, .int .i64 x227001_3, .int .i64 x227002_3, .int .i64 x227003_3] 69 (0, 0)) (by (with_reducible repeat (first | refine blk_drewN ?_ _ | refine blk_drew ?_ | refine blk_alloc ?_ _)); exact BK226.out) NB226_219.out (by simp))
                                have n2_ := Aside0.mk (IsS89.other (show IsS89 w _ g199 x200000_3 x200001_3 x200002_3 from by repeat (first | (with_reducible first | exact HI199.out | apply IsS89.alloc | apply IsS89.drewN | apply IsS89.drew | apply IsS89.set_0 | apply IsS89.set_1 | apply IsS89.set_2 | refine IsS89.far ?_ NB199_206.out _ | refine IsS89.far ?_ NB199_226.out _) | exact HI199.out)) hk NS199_219.out)
                                have n3_ := Aside0.mk (hb)
                                have n4_ := Aside0.mk (hi)
                                clear BK206
                                clear BK226
                                clear HI199
                                clear HB
                                clear HI219
                                have BK206 := n0_
                                have BK226 := n1_
                                have HI199 := n2_
                                have HB := n3_
                                have HI219 := n4_
                                clear n0_ n1_ n2_ n3_ n4_
                                (try clear hb)
                                (try clear hb2)
                                (try clear hge)
                                (try clear hk)
                                (try clear hi)
                                refine hK.out _ _ ⟨(blk_cell BK226.out 0).trans rfl, (blk_cell BK226.out 1).trans rfl, (blk_cell BK226.out 2).trans rfl, (blk_cell BK226.out 3).trans rfl, ((HB.out.cell (World.block_lt_of_cell? w _ hw227_0)).trans hw227_0)⟩ (fun hHeld => ?_)
                                clear hK K
                                refine norm_ (a' := ?_) ?_ ?_
                                rotate_left
                                · show Act.put _ (some 95) _ = _
                                  simp only [Act.put, List.setIfInBounds_toArray, List.set_cons_zero, List.set_cons_succ, i64_w, i32_w]
                                  rfl
                                refine pure_ (i := 7) (N := some 88) (v := ?_) (a' := ?_) #[true, true, true, true, true, true, true, true, false, false, false] rfl rfl (any_of HT_.out (by kernel_rfl)) (fun _ _ _ h => h) (Or.inl ⟨by rfl, ?_⟩) ?_ ?_
                                rotate_left
                                · intro w'
                                  go_simp
                                  with_reducible rfl
                                rotate_left
                                · simp only [Act.put, List.setIfInBounds_toArray, List.set_cons_zero, List.set_cons_succ, i64_w, i32_w]
                                  rfl
                                refine pure_ (i := 8) (N := some 96) (v := ?_) (a' := ?_) #[true, true, true, true, true, true, true, true, true, false, false] rfl rfl (any_of HT_.out (by kernel_rfl)) (fun _ _ _ h => h) (Or.inl ⟨by rfl, ?_⟩) ?_ ?_
                                rotate_left
                                · intro w'
                                  go_simp
                                  with_reducible rfl
                                rotate_left
                                · simp only [Act.put, List.setIfInBounds_toArray, List.set_cons_zero, List.set_cons_succ, i64_w, i32_w]
                                  rfl
                                refine pure_ (i := 9) (N := some 97) (v := ?_) (a' := ?_) #[true, true, true, true, true, true, true, true, true, true, false] rfl rfl (any_of HT_.out (by kernel_rfl)) (fun _ _ _ h => h) (Or.inl ⟨by rfl, ?_⟩) ?_ ?_
                                rotate_left
                                · intro w'
                                  go_simp
                                  with_reducible rfl
                                rotate_left
                                · simp only [Act.put, List.setIfInBounds_toArray, List.set_cons_zero, List.set_cons_succ, i64_w, i32_w]
                                  rfl
                                refine last_ (i := 10) (N := none) #[true, true, true, true, true, true, true, true, true, true, true] rfl rfl (one_of HT_.out (by kernel_rfl)) (by decide) (fun K hK => ?_)
                                have hs80 : w79.cell? ⟨gb226, 0, none⟩ = some (.int .i64 x227000_3) := (blk_cell BK226.out 0).trans rfl
                                have hfs80 := blk_frozen BK226.out 0
                                have hns80_0 := NB206_226.out
                                have hms80_0 := NB226_206.out
                                have hs81 : w79.cell? ⟨gb226, 1, none⟩ = some (.int .i64 x227001_3) := (blk_cell BK226.out 1).trans rfl
                                have hfs81 := blk_frozen BK226.out 1
                                have hns81_0 := NB206_226.out
                                have hms81_0 := NB226_206.out
                                have hs82 : w79.cell? ⟨gb226, 2, none⟩ = some (.int .i64 x227002_3) := (blk_cell BK226.out 2).trans rfl
                                have hfs82 := blk_frozen BK226.out 2
                                have hns82_0 := NB206_226.out
                                have hms82_0 := NB226_206.out
                                have hs83 : w79.cell? ⟨gb226, 3, none⟩ = some (.int .i64 x227003_3) := (blk_cell BK226.out 3).trans rfl
                                have hfs83 := blk_frozen BK226.out 3
                                have hns83_0 := NB206_226.out
                                have hms83_0 := NB226_206.out
                                refine skip_ (w1 := ?_) (by rfl) rfl ?_ ?_
                                rotate_left
                                · go_simp
                                  rfl
                                refine hK.out _ _ ?_
                                clear hK K
                                refine done_ (done_of HT_.out (by kernel_rfl)) ?_
                                try go_wp2
                                have n0_ : Aside0 (((((w79.setCell ⟨gb226, 0, none⟩ (.int .i64 t228)).setCell ⟨gb226, 1, none⟩ (.int .i64 t229)).setCell ⟨gb226, 2, none⟩ (.int .i64 t230)).setCell ⟨gb226, 3, none⟩ (.int .i64 t231)).heap[gb206]? = some (.cells #[.int .i64 x207000_7, .int .i64 x207001_7, .int .i64 x207002_7, .int .i64 x207003_7] 69 (0, 0))) := ⟨by (with_reducible repeat (first | refine blk_drewN ?_ _ | refine blk_drew ?_ | refine blk_alloc ?_ _)); refine blk_far ?_ NB206_226.out _; (with_reducible repeat (first | refine blk_drewN ?_ _ | refine blk_drew ?_ | refine blk_alloc ?_ _)); refine blk_far ?_ NB206_226.out _; (with_reducible repeat (first | refine blk_drewN ?_ _ | refine blk_drew ?_ | refine blk_alloc ?_ _)); refine blk_far ?_ NB206_226.out _; (with_reducible repeat (first | refine blk_drewN ?_ _ | refine blk_drew ?_ | refine blk_alloc ?_ _)); refine blk_far ?_ NB206_226.out _; (with_reducible repeat (first | refine blk_drewN ?_ _ | refine blk_drew ?_ | refine blk_alloc ?_ _)); exact BK206.out⟩
                                have n1_ : Aside0 (((((w79.setCell ⟨gb226, 0, none⟩ (.int .i64 t228)).setCell ⟨gb226, 1, none⟩ (.int .i64 t229)).setCell ⟨gb226, 2, none⟩ (.int .i64 t230)).setCell ⟨gb226, 3, none⟩ (.int .i64 t231)).heap[gb226]? = some (.cells #[.int .i64 t228, .int .i64 t229, .int .i64 t230, .int .i64 t231] 69 (0, 0))) := ⟨by (with_reducible repeat (first | refine blk_drewN ?_ _ | refine blk_drew ?_ | refine blk_alloc ?_ _)); refine blk_put (cs := #[.int .i64 t228, .int .i64 t229, .int .i64 t230, .int .i64 x227003_3]) ?_ 3 _ rfl; (with_reducible repeat (first | refine blk_drewN ?_ _ | refine blk_drew ?_ | refine blk_alloc ?_ _)); refine blk_put (cs := #[.int .i64 t228, .int .i64 t229, .int .i64 x227002_3, .int .i64 x227003_3]) ?_ 2 _ rfl; (with_reducible repeat (first | refine blk_drewN ?_ _ | refine blk_drew ?_ | refine blk_alloc ?_ _)); refine blk_put (cs := #[.int .i64 t228, .int .i64 x227001_3, .int .i64 x227002_3, .int .i64 x227003_3]) ?_ 1 _ rfl; (with_reducible repeat (first | refine blk_drewN ?_ _ | refine blk_drew ?_ | refine blk_alloc ?_ _)); refine blk_put (cs := #[.int .i64 x227000_3, .int .i64 x227001_3, .int .i64 x227002_3, .int .i64 x227003_3]) ?_ 0 _ rfl; (with_reducible repeat (first | refine blk_drewN ?_ _ | refine blk_drew ?_ | refine blk_alloc ?_ _)); exact BK226.out⟩
                                have n2_ : Aside0 (IsS89 w ((((w79.setCell ⟨gb226, 0, none⟩ (.int .i64 t228)).setCell ⟨gb226, 1, none⟩ (.int .i64 t229)).setCell ⟨gb226, 2, none⟩ (.int .i64 t230)).setCell ⟨gb226, 3, none⟩ (.int .i64 t231)) g199 x200000_3 x200001_3 x200002_3) := ⟨by repeat (first | (with_reducible first | exact HI199.out | apply IsS89.alloc | apply IsS89.drewN | apply IsS89.drew | apply IsS89.set_0 | apply IsS89.set_1 | apply IsS89.set_2 | refine IsS89.far ?_ NB199_206.out _ | refine IsS89.far ?_ NB199_226.out _) | exact HI199.out)⟩
                                have n3_ : Aside0 (IsS89 w ((((w79.setCell ⟨gb226, 0, none⟩ (.int .i64 t228)).setCell ⟨gb226, 1, none⟩ (.int .i64 t229)).setCell ⟨gb226, 2, none⟩ (.int .i64 t230)).setCell ⟨gb226, 3, none⟩ (.int .i64 t231)) g219 t233 t234 t235) := ⟨by repeat (first | (with_reducible first | exact HI219.out | apply IsS89.alloc | apply IsS89.drewN | apply IsS89.drew | apply IsS89.set_0 | apply IsS89.set_1 | apply IsS89.set_2 | refine IsS89.far ?_ NB219_206.out _ | refine IsS89.far ?_ NB219_226.out _) | exact HI219.out)⟩
                                have n4_ : Aside0 (Below w.heap.size w ((((w79.setCell ⟨gb226, 0, none⟩ (.int .i64 t228)).setCell ⟨gb226, 1, none⟩ (.int .i64 t229)).setCell ⟨gb226, 2, none⟩ (.int .i64 t230)).setCell ⟨gb226, 3, none⟩ (.int .i64 t231))) := ⟨by repeat (first | (with_reducible first | exact HB.out | apply below_alloc | apply pw_below_drewN | apply below_drew1 | refine below_set ?_ (IsS89.ge HI199.out) | refine below_set ?_ (IsS89.ge HI219.out) | refine below_set ?_ GE206.out | refine below_set ?_ GE226.out) | exact HB.out)⟩
                                (try clear BK206)
                                (try clear BK226)
                                (try clear HI199)
                                (try clear HI219)
                                (try clear HB)
                                generalize ((((w79.setCell ⟨gb226, 0, none⟩ (.int .i64 t228)).setCell ⟨gb226, 1, none⟩ (.int .i64 t229)).setCell ⟨gb226, 2, none⟩ (.int .i64 t230)).setCell ⟨gb226, 3, none⟩ (.int .i64 t231)) = w84 at n0_ n1_ n2_ n3_ n4_ ⊢
                                have BK206 := n0_
                                have BK226 := n1_
                                have HI199 := n2_
                                have HI219 := n3_
                                have HB := n4_
                                clear n0_ n1_ n2_ n3_ n4_
                                have n0_ := Aside0.mk (blk_drew BK206.out)
                                have n1_ := Aside0.mk (blk_drew BK226.out)
                                have n2_ := Aside0.mk (IsS89.drew HI199.out)
                                have n3_ := Aside0.mk (IsS89.drew HI219.out)
                                have n4_ := Aside0.mk (below_drew1 HB.out)
                                clear BK206
                                clear BK226
                                clear HI199
                                clear HI219
                                clear HB
                                have BK206 := n0_
                                have BK226 := n1_
                                have HI199 := n2_
                                have HI219 := n3_
                                have HB := n4_
                                clear n0_ n1_ n2_ n3_ n4_
                                refine start_ (n := 19) (S := fun w' => w'.cell? ⟨gb206, 0, none⟩ = some (.int .i64 x207000_7) ∧ w'.cell? ⟨gb206, 1, none⟩ = some (.int .i64 x207001_7) ∧ w'.cell? ⟨gb206, 2, none⟩ = some (.int .i64 x207002_7) ∧ w'.cell? ⟨gb206, 3, none⟩ = some (.int .i64 x207003_7) ∧ w'.cell? ⟨gb226, 0, none⟩ = some (.int .i64 t228) ∧ w'.cell? ⟨gb226, 1, none⟩ = some (.int .i64 t229) ∧ w'.cell? ⟨gb226, 2, none⟩ = some (.int .i64 t230) ∧ w'.cell? ⟨gb226, 3, none⟩ = some (.int .i64 t231)) (ds := []) #[false, false, false, false, false, false, false, false, false, false, false, false, false, false, false, false, false, false, false] (by kernel_rfl) rfl rfl ⟨(blk_cell BK206.out 0).trans rfl, (blk_cell BK206.out 1).trans rfl, (blk_cell BK206.out 2).trans rfl, (blk_cell BK206.out 3).trans rfl, (blk_cell BK226.out 0).trans rfl, (blk_cell BK226.out 1).trans rfl, (blk_cell BK226.out 2).trans rfl, (blk_cell BK226.out 3).trans rfl⟩ (fun hHeld => ?_); refine with_tabW monocoquelaw32_LifeClones.tab18 monocoquelaw32_LifeClones.bits18 (fun HT_ HW_ => ?_)
                                generalize w84.drew = w85 at BK206 BK226 HI199 HI219 HB hHeld ⊢
                                refine pure_ (i := 0) (N := some 98) (v := ?_) (a' := ?_) #[true, false, false, false, false, false, false, false, false, false, false, false, false, false, false, false, false, false, false] rfl rfl (any_of HT_.out (by kernel_rfl)) (fun _ _ _ h => h) (Or.inl ⟨by rfl, ?_⟩) ?_ ?_
                                rotate_left
                                · intro w'
                                  go_simp
                                  with_reducible rfl
                                rotate_left
                                · simp only [Act.put, List.setIfInBounds_toArray, List.set_cons_zero, List.set_cons_succ, i64_w, i32_w]
                                  rfl
                                refine take_ (i := 1) (N := some 99) (v := ?_) (a' := ?_) #[true, true, false, false, false, false, false, false, false, false, false, false, false, false, false, false, false, false, false] rfl rfl (take_ofW HT_.out HW_.out (by kernel_rfl)) (fun _ _ _ h => h) (Or.inl ⟨by rfl, ?_⟩) hHeld ?_ ?_
                                rotate_left
                                · rintro w' ⟨s0, s1, s2, s3, s4, s5, s6, s7⟩
                                  go_simp
                                  with_reducible rfl
                                rotate_left
                                · simp only [Act.put, List.setIfInBounds_toArray, List.set_cons_zero, List.set_cons_succ, i64_w, i32_w]
                                  rfl
                                refine one_ (i := 2) (N := some 100) #[true, true, true, false, false, false, false, false, false, false, false, false, false, false, false, false, false, false, false] rfl rfl (one_of HT_.out (by kernel_rfl)) (by decide) (fun K hK => ?_)
                                refine goes_ Try.func38 (by kernel_rfl) rfl #[.pointer (some ⟨g199, 0, none⟩), .agg #[.int .i64 x207000_7, .int .i64 x207001_7, .int .i64 x207002_7, .int .i64 x207003_7]] (by rfl) rfl rfl (by (try simp only [List.map_toArray, List.map_cons, List.map_nil]); first | done | rfl | (simp only [List.length_drop, List.length_take]; rfl)) ?_
                                with_reducible refine (monocoquelaw32_same.calls g199 x200000_3 x200001_3 x200002_3 x207000_7 x207001_7 x207002_7 x207003_7 true t237 t238 t239 w _ ?side1 ?side2 A52.out).mono ?_
                                (case side1 => repeat (first | (with_reducible first | exact HI199.out | apply IsS89.alloc | apply IsS89.drewN | apply IsS89.drew | apply IsS89.set_0 | apply IsS89.set_1 | apply IsS89.set_2 | refine IsS89.far ?_ NB199_206.out _ | refine IsS89.far ?_ NB199_226.out _) | exact HI199.out))
                                (case side2 => repeat (first | (with_reducible first | exact HB.out | apply below_alloc | apply pw_below_drewN | apply below_drew1 | refine below_set ?_ (IsS89.ge HI199.out) | refine below_set ?_ (IsS89.ge HI219.out) | refine below_set ?_ GE206.out | refine below_set ?_ GE226.out) | exact HB.out))
                                rintro e w86 ⟨rfl, hi, hb, hk⟩
                                refine ⟨_, rfl, ?_⟩
                                have n0_ := Aside0.mk (KeepBut.blk hk (g' := gb206) (o := .cells #[.int .i64 x207000_7, .int .i64 x207001_7, .int .i64 x207002_7, .int .i64 x207003_7] 69 (0, 0)) (by (with_reducible repeat (first | refine blk_drewN ?_ _ | refine blk_drew ?_ | refine blk_alloc ?_ _)); exact BK206.out) NB206_199.out (by simp))
                                have n1_ := Aside0.mk (KeepBut.blk hk (g' := gb226) (o := .cells #[.int .i64 t228, .int .i64 t229, .int .i64 t230, .int .i64 t231] 69 (0, 0)) (by (with_reducible repeat (first | refine blk_drewN ?_ _ | refine blk_drew ?_ | refine blk_alloc ?_ _)); exact BK226.out) NB226_199.out (by simp))
                                have n2_ := Aside0.mk (IsS89.other (show IsS89 w _ g219 t233 t234 t235 from by repeat (first | (with_reducible first | exact HI219.out | apply IsS89.alloc | apply IsS89.drewN | apply IsS89.drew | apply IsS89.set_0 | apply IsS89.set_1 | apply IsS89.set_2 | refine IsS89.far ?_ NB219_206.out _ | refine IsS89.far ?_ NB219_226.out _) | exact HI219.out)) hk NS219_199.out)
                                have n3_ := Aside0.mk (hb)
                                have n4_ := Aside0.mk (hi)
                                clear BK206
                                clear BK226
                                clear HI219
                                clear HB
                                clear HI199
                                have BK206 := n0_
                                have BK226 := n1_
                                have HI219 := n2_
                                have HB := n3_
                                have HI199 := n4_
                                clear n0_ n1_ n2_ n3_ n4_
                                (try clear hb)
                                (try clear hb2)
                                (try clear hge)
                                (try clear hk)
                                (try clear hi)
                                refine hK.out _ _ ⟨(blk_cell BK206.out 0).trans rfl, (blk_cell BK206.out 1).trans rfl, (blk_cell BK206.out 2).trans rfl, (blk_cell BK206.out 3).trans rfl, (blk_cell BK226.out 0).trans rfl, (blk_cell BK226.out 1).trans rfl, (blk_cell BK226.out 2).trans rfl, (blk_cell BK226.out 3).trans rfl⟩ (fun hHeld => ?_)
                                clear hK K
                                refine norm_ (a' := ?_) ?_ ?_
                                rotate_left
                                · show Act.put _ (some 100) _ = _
                                  simp only [Act.put, List.setIfInBounds_toArray, List.set_cons_zero, List.set_cons_succ, i64_w, i32_w]
                                  rfl
                                refine pure_ (i := 3) (N := some 101) (v := ?_) (a' := ?_) #[true, true, true, true, false, false, false, false, false, false, false, false, false, false, false, false, false, false, false] rfl rfl (any_of HT_.out (by kernel_rfl)) (fun _ _ _ h => h) (Or.inl ⟨by rfl, ?_⟩) ?_ ?_
                                rotate_left
                                · intro w'
                                  go_simp
                                  with_reducible rfl
                                rotate_left
                                · simp only [Act.put, List.setIfInBounds_toArray, List.set_cons_zero, List.set_cons_succ, i64_w, i32_w]
                                  rfl
                                refine pure_ (i := 4) (N := some 102) (v := ?_) (a' := ?_) #[true, true, true, true, true, false, false, false, false, false, false, false, false, false, false, false, false, false, false] rfl rfl (any_of HT_.out (by kernel_rfl)) (fun _ _ _ h => h) (Or.inl ⟨by rfl, ?_⟩) ?_ ?_
                                rotate_left
                                · intro w'
                                  go_simp
                                  with_reducible rfl
                                rotate_left
                                · simp only [Act.put, List.setIfInBounds_toArray, List.set_cons_zero, List.set_cons_succ, i64_w, i32_w]
                                  rfl
                                refine pure_ (i := 5) (N := some 103) (v := ?_) (a' := ?_) #[true, true, true, true, true, true, false, false, false, false, false, false, false, false, false, false, false, false, false] rfl rfl (any_of HT_.out (by kernel_rfl)) (fun _ _ _ h => h) (Or.inl ⟨by rfl, ?_⟩) ?_ ?_
                                rotate_left
                                · intro w'
                                  go_simp
                                  with_reducible rfl
                                rotate_left
                                · simp only [Act.put, List.setIfInBounds_toArray, List.set_cons_zero, List.set_cons_succ, i64_w, i32_w]
                                  rfl
                                refine take_ (i := 6) (N := some 104) (v := ?_) (a' := ?_) #[true, true, true, true, true, true, true, false, false, false, false, false, false, false, false, false, false, false, false] rfl rfl (take_ofW HT_.out HW_.out (by kernel_rfl)) (fun _ _ _ h => h) (Or.inl ⟨by rfl, ?_⟩) hHeld ?_ ?_
                                rotate_left
                                · rintro w' ⟨s0, s1, s2, s3, s4, s5, s6, s7⟩
                                  go_simp
                                  with_reducible rfl
                                rotate_left
                                · simp only [Act.put, List.setIfInBounds_toArray, List.set_cons_zero, List.set_cons_succ, i64_w, i32_w]
                                  rfl
                                refine one_ (i := 7) (N := some 105) #[true, true, true, true, true, true, true, true, false, false, false, false, false, false, false, false, false, false, false] rfl rfl (one_of HT_.out (by kernel_rfl)) (by decide) (fun K hK => ?_)
                                refine goes_ Try.func38 (by kernel_rfl) rfl #[.pointer (some ⟨g219, 0, none⟩), .agg #[.int .i64 t228, .int .i64 t229, .int .i64 t230, .int .i64 t231]] (by rfl) rfl rfl (by (try simp only [List.map_toArray, List.map_cons, List.map_nil]); first | done | rfl | (simp only [List.length_drop, List.length_take]; rfl)) ?_
                                with_reducible refine (monocoquelaw32_same.calls g219 t233 t234 t235 t228 t229 t230 t231 false t241 t242 t243 w _ ?side1 ?side2 A54.out).mono ?_
                                (case side1 => repeat (first | (with_reducible first | exact HI219.out | apply IsS89.alloc | apply IsS89.drewN | apply IsS89.drew | apply IsS89.set_0 | apply IsS89.set_1 | apply IsS89.set_2 | refine IsS89.far ?_ NB219_206.out _ | refine IsS89.far ?_ NB219_226.out _) | exact HI219.out))
                                (case side2 => repeat (first | (with_reducible first | exact HB.out | apply below_alloc | apply pw_below_drewN | apply below_drew1 | refine below_set ?_ (IsS89.ge HI199.out) | refine below_set ?_ (IsS89.ge HI219.out) | refine below_set ?_ GE206.out | refine below_set ?_ GE226.out) | exact HB.out))
                                rintro e w87 ⟨rfl, hi, hb, hk⟩
                                refine ⟨_, rfl, ?_⟩
                                have n0_ := Aside0.mk (KeepBut.blk hk (g' := gb206) (o := .cells #[.int .i64 x207000_7, .int .i64 x207001_7, .int .i64 x207002_7, .int .i64 x207003_7] 69 (0, 0)) (by (with_reducible repeat (first | refine blk_drewN ?_ _ | refine blk_drew ?_ | refine blk_alloc ?_ _)); exact BK206.out) NB206_219.out (by simp))
                                have n1_ := Aside0.mk (KeepBut.blk hk (g' := gb226) (o := .cells #[.int .i64 t228, .int .i64 t229, .int .i64 t230, .int .i64 t231] 69 (0, 0)) (by (with_reducible repeat (first | refine blk_drewN ?_ _ | refine blk_drew ?_ | refine blk_alloc ?_ _)); exact BK226.out) NB226_219.out (by simp))
                                have n2_ := Aside0.mk (IsS89.other (show IsS89 w _ g199 t237 t238 t239 from by repeat (first | (with_reducible first | exact HI199.out | apply IsS89.alloc | apply IsS89.drewN | apply IsS89.drew | apply IsS89.set_0 | apply IsS89.set_1 | apply IsS89.set_2 | refine IsS89.far ?_ NB199_206.out _ | refine IsS89.far ?_ NB199_226.out _) | exact HI199.out)) hk NS199_219.out)
                                have n3_ := Aside0.mk (hb)
                                have n4_ := Aside0.mk (hi)
                                clear BK206
                                clear BK226
                                clear HI199
                                clear HB
                                clear HI219
                                have BK206 := n0_
                                have BK226 := n1_
                                have HI199 := n2_
                                have HB := n3_
                                have HI219 := n4_
                                clear n0_ n1_ n2_ n3_ n4_
                                (try clear hb)
                                (try clear hb2)
                                (try clear hge)
                                (try clear hk)
                                (try clear hi)
                                refine hK.out _ _ ⟨(blk_cell BK206.out 0).trans rfl, (blk_cell BK206.out 1).trans rfl, (blk_cell BK206.out 2).trans rfl, (blk_cell BK206.out 3).trans rfl, (blk_cell BK226.out 0).trans rfl, (blk_cell BK226.out 1).trans rfl, (blk_cell BK226.out 2).trans rfl, (blk_cell BK226.out 3).trans rfl⟩ (fun hHeld => ?_)
                                clear hK K
                                refine norm_ (a' := ?_) ?_ ?_
                                rotate_left
                                · show Act.put _ (some 105) _ = _
                                  simp only [Act.put, List.setIfInBounds_toArray, List.set_cons_zero, List.set_cons_succ, i64_w, i32_w]
                                  rfl
                                refine pure_ (i := 8) (N := some 106) (v := ?_) (a' := ?_) #[true, true, true, true, true, true, true, true, true, false, false, false, false, false, false, false, false, false, false] rfl rfl (any_of HT_.out (by kernel_rfl)) (fun _ _ _ h => h) (Or.inl ⟨by rfl, ?_⟩) ?_ ?_
                                rotate_left
                                · intro w'
                                  go_simp
                                  with_reducible rfl
                                rotate_left
                                · simp only [Act.put, List.setIfInBounds_toArray, List.set_cons_zero, List.set_cons_succ, i64_w, i32_w]
                                  rfl
                                refine pure_ (i := 9) (N := some 107) (v := ?_) (a' := ?_) #[true, true, true, true, true, true, true, true, true, true, false, false, false, false, false, false, false, false, false] rfl rfl (any_of HT_.out (by kernel_rfl)) (fun _ _ _ h => h) (Or.inl ⟨by rfl, ?_⟩) ?_ ?_
                                rotate_left
                                · intro w'
                                  go_simp
                                  with_reducible rfl
                                rotate_left
                                · simp only [Act.put, List.setIfInBounds_toArray, List.set_cons_zero, List.set_cons_succ, i64_w, i32_w]
                                  rfl
                                refine pure_ (i := 10) (N := some 108) (v := ?_) (a' := ?_) #[true, true, true, true, true, true, true, true, true, true, true, false, false, false, false, false, false, false, false] rfl rfl (any_of HT_.out (by kernel_rfl)) (fun _ _ _ h => h) (Or.inl ⟨by rfl, ?_⟩) ?_ ?_
                                rotate_left
                                · intro w'
                                  go_simp
                                  with_reducible rfl
                                rotate_left
                                · simp only [Act.put, List.setIfInBounds_toArray, List.set_cons_zero, List.set_cons_succ, i64_w, i32_w]
                                  rfl
                                refine pure_ (i := 11) (N := some 109) (v := undef) (a' := ?_) #[true, true, true, true, true, true, true, true, true, true, true, true, false, false, false, false, false, false, false] rfl rfl (any_of HT_.out (by kernel_rfl)) (fun _ _ _ h => h) (Or.inr ⟨by rfl, rfl⟩) ?_ ?_
                                rotate_left
                                · simp only [Act.put, List.setIfInBounds_toArray, List.set_cons_zero, List.set_cons_succ, i64_w, i32_w]
                                  rfl
                                refine pure_ (i := 12) (N := some 110) (v := undef) (a' := ?_) #[true, true, true, true, true, true, true, true, true, true, true, true, true, false, false, false, false, false, false] rfl rfl (any_of HT_.out (by kernel_rfl)) (fun _ _ _ h => h) (Or.inr ⟨by rfl, rfl⟩) ?_ ?_
                                rotate_left
                                · simp only [Act.put, List.setIfInBounds_toArray, List.set_cons_zero, List.set_cons_succ, i64_w, i32_w]
                                  rfl
                                refine pure_ (i := 13) (N := some 111) (v := undef) (a' := ?_) #[true, true, true, true, true, true, true, true, true, true, true, true, true, true, false, false, false, false, false] rfl rfl (any_of HT_.out (by kernel_rfl)) (fun _ _ _ h => h) (Or.inr ⟨by rfl, rfl⟩) ?_ ?_
                                rotate_left
                                · simp only [Act.put, List.setIfInBounds_toArray, List.set_cons_zero, List.set_cons_succ, i64_w, i32_w]
                                  rfl
                                refine pure_ (i := 14) (N := some 112) (v := undef) (a' := ?_) #[true, true, true, true, true, true, true, true, true, true, true, true, true, true, true, false, false, false, false] rfl rfl (any_of HT_.out (by kernel_rfl)) (fun _ _ _ h => h) (Or.inr ⟨by rfl, rfl⟩) ?_ ?_
                                rotate_left
                                · simp only [Act.put, List.setIfInBounds_toArray, List.set_cons_zero, List.set_cons_succ, i64_w, i32_w]
                                  rfl
                                refine pure_ (i := 15) (N := some 113) (v := undef) (a' := ?_) #[true, true, true, true, true, true, true, true, true, true, true, true, true, true, true, true, false, false, false] rfl rfl (any_of HT_.out (by kernel_rfl)) (fun _ _ _ h => h) (Or.inr ⟨by rfl, rfl⟩) ?_ ?_
                                rotate_left
                                · simp only [Act.put, List.setIfInBounds_toArray, List.set_cons_zero, List.set_cons_succ, i64_w, i32_w]
                                  rfl
                                refine pure_ (i := 16) (N := some 114) (v := undef) (a' := ?_) #[true, true, true, true, true, true, true, true, true, true, true, true, true, true, true, true, true, false, false] rfl rfl (any_of HT_.out (by kernel_rfl)) (fun _ _ _ h => h) (Or.inr ⟨by rfl, rfl⟩) ?_ ?_
                                rotate_left
                                · simp only [Act.put, List.setIfInBounds_toArray, List.set_cons_zero, List.set_cons_succ, i64_w, i32_w]
                                  rfl
                                refine pure_ (i := 17) (N := some 115) (v := undef) (a' := ?_) #[true, true, true, true, true, true, true, true, true, true, true, true, true, true, true, true, true, true, false] rfl rfl (any_of HT_.out (by kernel_rfl)) (fun _ _ _ h => h) (Or.inr ⟨by rfl, rfl⟩) ?_ ?_
                                rotate_left
                                · simp only [Act.put, List.setIfInBounds_toArray, List.set_cons_zero, List.set_cons_succ, i64_w, i32_w]
                                  rfl
                                refine pure_ (i := 18) (N := some 116) (v := ?_) (a' := ?_) #[true, true, true, true, true, true, true, true, true, true, true, true, true, true, true, true, true, true, true] rfl rfl (any_of HT_.out (by kernel_rfl)) (fun _ _ _ h => h) (Or.inl ⟨by rfl, ?_⟩) ?_ ?_
                                rotate_left
                                · intro w'
                                  go_simp
                                  with_reducible rfl
                                rotate_left
                                · simp only [Act.put, List.setIfInBounds_toArray, List.set_cons_zero, List.set_cons_succ, i64_w, i32_w]
                                  rfl
                                refine done_ (done_of HT_.out (by kernel_rfl)) ?_
                                try go_wp2
                                go_ret
                                exact ⟨by first | rfl | (simp [errW_none, errW_some] <;> rfl) | (simp [*, errW_none, errW_some] <;> rfl), by repeat (first | (with_reducible first | exact HB.out | apply below_alloc | apply pw_below_drewN | apply below_drew1 | refine below_set ?_ (IsS89.ge HI199.out) | refine below_set ?_ (IsS89.ge HI219.out) | refine below_set ?_ GE206.out | refine below_set ?_ GE226.out) | exact HB.out)⟩
                            · replace c53 := Bool.eq_false_iff.mpr c53
                              subst c53
                              have H1 : (some false) = some r := by rw [if_neg (show ¬ (false = true) by decide)] at H; exact H
                              clear H
                              have H := H1
                              clear H1
                              obtain rfl := Option.some.inj H
                              try go_wp2
                              have n0_ := Aside0.mk (blk_drew BK206.out)
                              have n1_ := Aside0.mk (blk_drew BK226.out)
                              have n2_ := Aside0.mk (IsS89.drew HI199.out)
                              have n3_ := Aside0.mk (IsS89.drew HI219.out)
                              have n4_ := Aside0.mk (below_drew1 HB.out)
                              clear BK206
                              clear BK226
                              clear HI199
                              clear HI219
                              clear HB
                              have BK206 := n0_
                              have BK226 := n1_
                              have HI199 := n2_
                              have HI219 := n3_
                              have HB := n4_
                              clear n0_ n1_ n2_ n3_ n4_
                              have p227 : 0 ≤ (x14_3 : Int) := of_decide_eq_true (by first | (with_reducible assumption) | assumption)
                              have q227 : x14_3 < (l2.length : Int) := of_decide_eq_true (by first | (with_reducible assumption) | assumption)
                              obtain ⟨ad227, e227, hx227_0⟩ := Kd.at_int HR2.out x14_3 p227 q227
                              have hw227_0 := hx227_0
                              cases e227
                              replace hx227_0 := (HB.out.cell (World.block_lt_of_cell? w _ hx227_0)).trans hx227_0
                              replace p227 := eq_true p227
                              replace q227 := eq_true q227
                              refine start_ (n := 11) (S := fun w' => w'.cell? ⟨gb226, 0, none⟩ = some (.int .i64 x227000_3) ∧ w'.cell? ⟨gb226, 1, none⟩ = some (.int .i64 x227001_3) ∧ w'.cell? ⟨gb226, 2, none⟩ = some (.int .i64 x227002_3) ∧ w'.cell? ⟨gb226, 3, none⟩ = some (.int .i64 x227003_3) ∧ w'.cell? (ad227.add (x14_3).toNat) = some (.int .i64 (rd l2 x14_3))) (ds := [10]) #[false, false, false, false, false, false, false, false, false, false, false] (by kernel_rfl) rfl rfl ⟨(blk_cell BK226.out 0).trans rfl, (blk_cell BK226.out 1).trans rfl, (blk_cell BK226.out 2).trans rfl, (blk_cell BK226.out 3).trans rfl, ((HB.out.cell (World.block_lt_of_cell? w _ hw227_0)).trans hw227_0)⟩ (fun hHeld => ?_); refine with_tabW monocoquelaw32_LifeClones.tab17 monocoquelaw32_LifeClones.bits17 (fun HT_ HW_ => ?_)
                              generalize wc.drew = w88 at BK206 BK226 HI199 HI219 HB hx227_0 hHeld ⊢
                              refine pure_ (i := 0) (N := some 89) (v := ?_) (a' := ?_) #[true, false, false, false, false, false, false, false, false, false, false] rfl rfl (any_of HT_.out (by kernel_rfl)) (fun _ _ _ h => h) (Or.inl ⟨by rfl, ?_⟩) ?_ ?_
                              rotate_left
                              · intro w'
                                go_simp
                                with_reducible rfl
                              rotate_left
                              · simp only [Act.put, List.setIfInBounds_toArray, List.set_cons_zero, List.set_cons_succ, i64_w, i32_w]
                                rfl
                              refine pure_ (i := 2) (N := some 91) (v := ?_) (a' := ?_) #[true, false, true, false, false, false, false, false, false, false, false] rfl rfl (any_of HT_.out (by kernel_rfl)) (fun _ _ _ h => h) (Or.inl ⟨by rfl, ?_⟩) ?_ ?_
                              rotate_left
                              · intro w'
                                go_simp
                                with_reducible rfl
                              rotate_left
                              · simp only [Act.put, List.setIfInBounds_toArray, List.set_cons_zero, List.set_cons_succ, i64_w, i32_w]
                                rfl
                              refine pure_ (i := 3) (N := some 92) (v := ?_) (a' := ?_) #[true, false, true, true, false, false, false, false, false, false, false] rfl rfl (any_of HT_.out (by kernel_rfl)) (fun _ _ _ h => h) (Or.inl ⟨by rfl, ?_⟩) ?_ ?_
                              rotate_left
                              · intro w'
                                go_simp
                                with_reducible rfl
                              rotate_left
                              · simp only [Act.put, List.setIfInBounds_toArray, List.set_cons_zero, List.set_cons_succ, i64_w, i32_w]
                                rfl
                              refine pure_ (i := 4) (N := some 93) (v := ?_) (a' := ?_) #[true, false, true, true, true, false, false, false, false, false, false] rfl rfl (any_of HT_.out (by kernel_rfl)) (fun _ _ _ h => h) (Or.inl ⟨by rfl, ?_⟩) ?_ ?_
                              rotate_left
                              · intro w'
                                go_simp
                                with_reducible rfl
                              rotate_left
                              · simp only [Act.put, List.setIfInBounds_toArray, List.set_cons_zero, List.set_cons_succ, i64_w, i32_w]
                                rfl
                              refine take_ (i := 1) (N := some 90) (v := ?_) (a' := ?_) #[true, true, true, true, true, false, false, false, false, false, false] rfl rfl (take_ofW HT_.out HW_.out (by kernel_rfl)) (fun _ _ _ h => h) (Or.inl ⟨by rfl, ?_⟩) hHeld ?_ ?_
                              rotate_left
                              · rintro w' ⟨s0, s1, s2, s3, s4⟩
                                go_simp
                                with_reducible rfl
                              rotate_left
                              · simp only [Act.put, List.setIfInBounds_toArray, List.set_cons_zero, List.set_cons_succ, i64_w, i32_w]
                                rfl
                              refine take_ (i := 5) (N := some 94) (v := ?_) (a' := ?_) #[true, true, true, true, true, true, false, false, false, false, false] rfl rfl (take_ofW HT_.out HW_.out (by kernel_rfl)) (fun _ _ _ h => h) (Or.inl ⟨by rfl, ?_⟩) hHeld ?_ ?_
                              rotate_left
                              · rintro w' ⟨s0, s1, s2, s3, s4⟩
                                go_simp
                                with_reducible rfl
                              rotate_left
                              · simp only [Act.put, List.setIfInBounds_toArray, List.set_cons_zero, List.set_cons_succ, i64_w, i32_w]
                                rfl
                              refine one_ (i := 6) (N := some 95) #[true, true, true, true, true, true, true, false, false, false, false] rfl rfl (one_of HT_.out (by kernel_rfl)) (by decide) (fun K hK => ?_)
                              refine goes_ Try.func37 (by kernel_rfl) rfl #[.pointer (some ⟨g219, 0, none⟩), .agg #[.int .i64 x227000_3, .int .i64 x227001_3, .int .i64 x227002_3, .int .i64 x227003_3], .int .i64 (rd l2 x14_3)] (by rfl) rfl rfl (by (try simp only [List.map_toArray, List.map_cons, List.map_nil]); first | done | rfl | (simp only [List.length_drop, List.length_take]; rfl)) ?_
                              with_reducible refine (monocoquelaw32_do.calls kj45 g219 x220000_3 x220001_3 x220002_3 x227000_3 x227001_3 x227002_3 x227003_3 (rd l2 x14_3) t228 t229 t230 t231 t232 t233 t234 t235 w _ ?side1 ?side2 A51.out).mono ?_
                              (case side1 => repeat (first | (with_reducible first | exact HI219.out | apply IsS89.alloc | apply IsS89.drewN | apply IsS89.drew | apply IsS89.set_0 | apply IsS89.set_1 | apply IsS89.set_2 | refine IsS89.far ?_ NB219_206.out _ | refine IsS89.far ?_ NB219_226.out _) | exact HI219.out))
                              (case side2 => repeat (first | (with_reducible first | exact HB.out | apply below_alloc | apply pw_below_drewN | apply below_drew1 | refine below_set ?_ (IsS89.ge HI199.out) | refine below_set ?_ (IsS89.ge HI219.out) | refine below_set ?_ GE206.out | refine below_set ?_ GE226.out) | exact HB.out))
                              rintro e w89 ⟨rfl, hi, hb, hk⟩
                              refine ⟨_, rfl, ?_⟩
                              have n0_ := Aside0.mk (KeepBut.blk hk (g' := gb206) (o := .cells #[.int .i64 x207000_7, .int .i64 x207001_7, .int .i64 x207002_7, .int .i64 x207003_7] 69 (0, 0)) (by (with_reducible repeat (first | refine blk_drewN ?_ _ | refine blk_drew ?_ | refine blk_alloc ?_ _)); exact BK206.out) NB206_219.out (by simp))
                              have n1_ := Aside0.mk (KeepBut.blk hk (g' := gb226) (o := .cells #[.int .i64 x227000_3, .int .i64 x227001_3, .int .i64 x227002_3, .int .i64 x227003_3] 69 (0, 0)) (by (with_reducible repeat (first | refine blk_drewN ?_ _ | refine blk_drew ?_ | refine blk_alloc ?_ _)); exact BK226.out) NB226_219.out (by simp))
                              have n2_ := Aside0.mk (IsS89.other (show IsS89 w _ g199 x200000_3 x200001_3 x200002_3 from by repeat (first | (with_reducible first | exact HI199.out | apply IsS89.alloc | apply IsS89.drewN | apply IsS89.drew | apply IsS89.set_0 | apply IsS89.set_1 | apply IsS89.set_2 | refine IsS89.far ?_ NB199_206.out _ | refine IsS89.far ?_ NB199_226.out _) | exact HI199.out)) hk NS199_219.out)
                              have n3_ := Aside0.mk (hb)
                              have n4_ := Aside0.mk (hi)
                              clear BK206
                              clear BK226
                              clear HI199
                              clear HB
                              clear HI219
                              have BK206 := n0_
                              have BK226 := n1_
                              have HI199 := n2_
                              have HB := n3_
                              have HI219 := n4_
                              clear n0_ n1_ n2_ n3_ n4_
                              (try clear hb)
                              (try clear hb2)
                              (try clear hge)
                              (try clear hk)
                              (try clear hi)
                              refine hK.out _ _ ⟨(blk_cell BK226.out 0).trans rfl, (blk_cell BK226.out 1).trans rfl, (blk_cell BK226.out 2).trans rfl, (blk_cell BK226.out 3).trans rfl, ((HB.out.cell (World.block_lt_of_cell? w _ hw227_0)).trans hw227_0)⟩ (fun hHeld => ?_)
                              clear hK K
                              refine norm_ (a' := ?_) ?_ ?_
                              rotate_left
                              · show Act.put _ (some 95) _ = _
                                simp only [Act.put, List.setIfInBounds_toArray, List.set_cons_zero, List.set_cons_succ, i64_w, i32_w]
                                rfl
                              refine pure_ (i := 7) (N := some 88) (v := ?_) (a' := ?_) #[true, true, true, true, true, true, true, true, false, false, false] rfl rfl (any_of HT_.out (by kernel_rfl)) (fun _ _ _ h => h) (Or.inl ⟨by rfl, ?_⟩) ?_ ?_
                              rotate_left
                              · intro w'
                                go_simp
                                with_reducible rfl
                              rotate_left
                              · simp only [Act.put, List.setIfInBounds_toArray, List.set_cons_zero, List.set_cons_succ, i64_w, i32_w]
                                rfl
                              refine pure_ (i := 8) (N := some 96) (v := ?_) (a' := ?_) #[true, true, true, true, true, true, true, true, true, false, false] rfl rfl (any_of HT_.out (by kernel_rfl)) (fun _ _ _ h => h) (Or.inl ⟨by rfl, ?_⟩) ?_ ?_
                              rotate_left
                              · intro w'
                                go_simp
                                with_reducible rfl
                              rotate_left
                              · simp only [Act.put, List.setIfInBounds_toArray, List.set_cons_zero, List.set_cons_succ, i64_w, i32_w]
                                rfl
                              refine pure_ (i := 9) (N := some 97) (v := ?_) (a' := ?_) #[true, true, true, true, true, true, true, true, true, true, false] rfl rfl (any_of HT_.out (by kernel_rfl)) (fun _ _ _ h => h) (Or.inl ⟨by rfl, ?_⟩) ?_ ?_
                              rotate_left
                              · intro w'
                                go_simp
                                with_reducible rfl
                              rotate_left
                              · simp only [Act.put, List.setIfInBounds_toArray, List.set_cons_zero, List.set_cons_succ, i64_w, i32_w]
                                rfl
                              refine last_ (i := 10) (N := none) #[true, true, true, true, true, true, true, true, true, true, true] rfl rfl (one_of HT_.out (by kernel_rfl)) (by decide) (fun K hK => ?_)
                              have hs90 : w89.cell? ⟨gb226, 0, none⟩ = some (.int .i64 x227000_3) := (blk_cell BK226.out 0).trans rfl
                              have hfs90 := blk_frozen BK226.out 0
                              have hns90_0 := NB206_226.out
                              have hms90_0 := NB226_206.out
                              have hs91 : w89.cell? ⟨gb226, 1, none⟩ = some (.int .i64 x227001_3) := (blk_cell BK226.out 1).trans rfl
                              have hfs91 := blk_frozen BK226.out 1
                              have hns91_0 := NB206_226.out
                              have hms91_0 := NB226_206.out
                              have hs92 : w89.cell? ⟨gb226, 2, none⟩ = some (.int .i64 x227002_3) := (blk_cell BK226.out 2).trans rfl
                              have hfs92 := blk_frozen BK226.out 2
                              have hns92_0 := NB206_226.out
                              have hms92_0 := NB226_206.out
                              have hs93 : w89.cell? ⟨gb226, 3, none⟩ = some (.int .i64 x227003_3) := (blk_cell BK226.out 3).trans rfl
                              have hfs93 := blk_frozen BK226.out 3
                              have hns93_0 := NB206_226.out
                              have hms93_0 := NB226_206.out
                              refine skip_ (w1 := ?_) (by rfl) rfl ?_ ?_
                              rotate_left
                              · go_simp
                                rfl
                              refine hK.out _ _ ?_
                              clear hK K
                              refine done_ (done_of HT_.out (by kernel_rfl)) ?_
                              try go_wp2
                              have n0_ : Aside0 (((((w89.setCell ⟨gb226, 0, none⟩ (.int .i64 t228)).setCell ⟨gb226, 1, none⟩ (.int .i64 t229)).setCell ⟨gb226, 2, none⟩ (.int .i64 t230)).setCell ⟨gb226, 3, none⟩ (.int .i64 t231)).heap[gb206]? = some (.cells #[.int .i64 x207000_7, .int .i64 x207001_7, .int .i64 x207002_7, .int .i64 x207003_7] 69 (0, 0))) := ⟨by (with_reducible repeat (first | refine blk_drewN ?_ _ | refine blk_drew ?_ | refine blk_alloc ?_ _)); refine blk_far ?_ NB206_226.out _; (with_reducible repeat (first | refine blk_drewN ?_ _ | refine blk_drew ?_ | refine blk_alloc ?_ _)); refine blk_far ?_ NB206_226.out _; (with_reducible repeat (first | refine blk_drewN ?_ _ | refine blk_drew ?_ | refine blk_alloc ?_ _)); refine blk_far ?_ NB206_226.out _; (with_reducible repeat (first | refine blk_drewN ?_ _ | refine blk_drew ?_ | refine blk_alloc ?_ _)); refine blk_far ?_ NB206_226.out _; (with_reducible repeat (first | refine blk_drewN ?_ _ | refine blk_drew ?_ | refine blk_alloc ?_ _)); exact BK206.out⟩
                              have n1_ : Aside0 (((((w89.setCell ⟨gb226, 0, none⟩ (.int .i64 t228)).setCell ⟨gb226, 1, none⟩ (.int .i64 t229)).setCell ⟨gb226, 2, none⟩ (.int .i64 t230)).setCell ⟨gb226, 3, none⟩ (.int .i64 t231)).heap[gb226]? = some (.cells #[.int .i64 t228, .int .i64 t229, .int .i64 t230, .int .i64 t231] 69 (0, 0))) := ⟨by (with_reducible repeat (first | refine blk_drewN ?_ _ | refine blk_drew ?_ | refine blk_alloc ?_ _)); refine blk_put (cs := #[.int .i64 t228, .int .i64 t229, .int .i64 t230, .int .i64 x227003_3]) ?_ 3 _ rfl; (with_reducible repeat (first | refine blk_drewN ?_ _ | refine blk_drew ?_ | refine blk_alloc ?_ _)); refine blk_put (cs := #[.int .i64 t228, .int .i64 t229, .int .i64 x227002_3, .int .i64 x227003_3]) ?_ 2 _ rfl; (with_reducible repeat (first | refine blk_drewN ?_ _ | refine blk_drew ?_ | refine blk_alloc ?_ _)); refine blk_put (cs := #[.int .i64 t228, .int .i64 x227001_3, .int .i64 x227002_3, .int .i64 x227003_3]) ?_ 1 _ rfl; (with_reducible repeat (first | refine blk_drewN ?_ _ | refine blk_drew ?_ | refine blk_alloc ?_ _)); refine blk_put (cs := #[.int .i64 x227000_3, .int .i64 x227001_3, .int .i64 x227002_3, .int .i64 x227003_3]) ?_ 0 _ rfl; (with_reducible repeat (first | refine blk_drewN ?_ _ | refine blk_drew ?_ | refine blk_alloc ?_ _)); exact BK226.out⟩
                              have n2_ : Aside0 (IsS89 w ((((w89.setCell ⟨gb226, 0, none⟩ (.int .i64 t228)).setCell ⟨gb226, 1, none⟩ (.int .i64 t229)).setCell ⟨gb226, 2, none⟩ (.int .i64 t230)).setCell ⟨gb226, 3, none⟩ (.int .i64 t231)) g199 x200000_3 x200001_3 x200002_3) := ⟨by repeat (first | (with_reducible first | exact HI199.out | apply IsS89.alloc | apply IsS89.drewN | apply IsS89.drew | apply IsS89.set_0 | apply IsS89.set_1 | apply IsS89.set_2 | refine IsS89.far ?_ NB199_206.out _ | refine IsS89.far ?_ NB199_226.out _) | exact HI199.out)⟩
                              have n3_ : Aside0 (IsS89 w ((((w89.setCell ⟨gb226, 0, none⟩ (.int .i64 t228)).setCell ⟨gb226, 1, none⟩ (.int .i64 t229)).setCell ⟨gb226, 2, none⟩ (.int .i64 t230)).setCell ⟨gb226, 3, none⟩ (.int .i64 t231)) g219 t233 t234 t235) := ⟨by repeat (first | (with_reducible first | exact HI219.out | apply IsS89.alloc | apply IsS89.drewN | apply IsS89.drew | apply IsS89.set_0 | apply IsS89.set_1 | apply IsS89.set_2 | refine IsS89.far ?_ NB219_206.out _ | refine IsS89.far ?_ NB219_226.out _) | exact HI219.out)⟩
                              have n4_ : Aside0 (Below w.heap.size w ((((w89.setCell ⟨gb226, 0, none⟩ (.int .i64 t228)).setCell ⟨gb226, 1, none⟩ (.int .i64 t229)).setCell ⟨gb226, 2, none⟩ (.int .i64 t230)).setCell ⟨gb226, 3, none⟩ (.int .i64 t231))) := ⟨by repeat (first | (with_reducible first | exact HB.out | apply below_alloc | apply pw_below_drewN | apply below_drew1 | refine below_set ?_ (IsS89.ge HI199.out) | refine below_set ?_ (IsS89.ge HI219.out) | refine below_set ?_ GE206.out | refine below_set ?_ GE226.out) | exact HB.out)⟩
                              (try clear BK206)
                              (try clear BK226)
                              (try clear HI199)
                              (try clear HI219)
                              (try clear HB)
                              generalize ((((w89.setCell ⟨gb226, 0, none⟩ (.int .i64 t228)).setCell ⟨gb226, 1, none⟩ (.int .i64 t229)).setCell ⟨gb226, 2, none⟩ (.int .i64 t230)).setCell ⟨gb226, 3, none⟩ (.int .i64 t231)) = w94 at n0_ n1_ n2_ n3_ n4_ ⊢
                              have BK206 := n0_
                              have BK226 := n1_
                              have HI199 := n2_
                              have HI219 := n3_
                              have HB := n4_
                              clear n0_ n1_ n2_ n3_ n4_
                              have n0_ := Aside0.mk (blk_drew BK206.out)
                              have n1_ := Aside0.mk (blk_drew BK226.out)
                              have n2_ := Aside0.mk (IsS89.drew HI199.out)
                              have n3_ := Aside0.mk (IsS89.drew HI219.out)
                              have n4_ := Aside0.mk (below_drew1 HB.out)
                              clear BK206
                              clear BK226
                              clear HI199
                              clear HI219
                              clear HB
                              have BK206 := n0_
                              have BK226 := n1_
                              have HI199 := n2_
                              have HI219 := n3_
                              have HB := n4_
                              clear n0_ n1_ n2_ n3_ n4_
                              refine start_ (n := 19) (S := fun w' => w'.cell? ⟨gb206, 0, none⟩ = some (.int .i64 x207000_7) ∧ w'.cell? ⟨gb206, 1, none⟩ = some (.int .i64 x207001_7) ∧ w'.cell? ⟨gb206, 2, none⟩ = some (.int .i64 x207002_7) ∧ w'.cell? ⟨gb206, 3, none⟩ = some (.int .i64 x207003_7)) (ds := []) #[false, false, false, false, false, false, false, false, false, false, false, false, false, false, false, false, false, false, false] (by kernel_rfl) rfl rfl ⟨(blk_cell BK206.out 0).trans rfl, (blk_cell BK206.out 1).trans rfl, (blk_cell BK206.out 2).trans rfl, (blk_cell BK206.out 3).trans rfl⟩ (fun hHeld => ?_); refine with_tabW monocoquelaw32_LifeClones.tab18 monocoquelaw32_LifeClones.bits18 (fun HT_ HW_ => ?_)
                              generalize w94.drew = w95 at BK206 BK226 HI199 HI219 HB hHeld ⊢
                              refine pure_ (i := 0) (N := some 98) (v := ?_) (a' := ?_) #[true, false, false, false, false, false, false, false, false, false, false, false, false, false, false, false, false, false, false] rfl rfl (any_of HT_.out (by kernel_rfl)) (fun _ _ _ h => h) (Or.inl ⟨by rfl, ?_⟩) ?_ ?_
                              rotate_left
                              · intro w'
                                go_simp
                                with_reducible rfl
                              rotate_left
                              · simp only [Act.put, List.setIfInBounds_toArray, List.set_cons_zero, List.set_cons_succ, i64_w, i32_w]
                                rfl
                              refine take_ (i := 1) (N := some 99) (v := ?_) (a' := ?_) #[true, true, false, false, false, false, false, false, false, false, false, false, false, false, false, false, false, false, false] rfl rfl (take_ofW HT_.out HW_.out (by kernel_rfl)) (fun _ _ _ h => h) (Or.inl ⟨by rfl, ?_⟩) hHeld ?_ ?_
                              rotate_left
                              · rintro w' ⟨s0, s1, s2, s3⟩
                                go_simp
                                with_reducible rfl
                              rotate_left
                              · simp only [Act.put, List.setIfInBounds_toArray, List.set_cons_zero, List.set_cons_succ, i64_w, i32_w]
                                rfl
                              refine one_ (i := 2) (N := some 100) #[true, true, true, false, false, false, false, false, false, false, false, false, false, false, false, false, false, false, false] rfl rfl (one_of HT_.out (by kernel_rfl)) (by decide) (fun K hK => ?_)
                              refine goes_ Try.func38 (by kernel_rfl) rfl #[.pointer (some ⟨g199, 0, none⟩), .agg #[.int .i64 x207000_7, .int .i64 x207001_7, .int .i64 x207002_7, .int .i64 x207003_7]] (by rfl) rfl rfl (by (try simp only [List.map_toArray, List.map_cons, List.map_nil]); first | done | rfl | (simp only [List.length_drop, List.length_take]; rfl)) ?_
                              with_reducible refine (monocoquelaw32_same.calls g199 x200000_3 x200001_3 x200002_3 x207000_7 x207001_7 x207002_7 x207003_7 false t237 t238 t239 w _ ?side1 ?side2 A52.out).mono ?_
                              (case side1 => repeat (first | (with_reducible first | exact HI199.out | apply IsS89.alloc | apply IsS89.drewN | apply IsS89.drew | apply IsS89.set_0 | apply IsS89.set_1 | apply IsS89.set_2 | refine IsS89.far ?_ NB199_206.out _ | refine IsS89.far ?_ NB199_226.out _) | exact HI199.out))
                              (case side2 => repeat (first | (with_reducible first | exact HB.out | apply below_alloc | apply pw_below_drewN | apply below_drew1 | refine below_set ?_ (IsS89.ge HI199.out) | refine below_set ?_ (IsS89.ge HI219.out) | refine below_set ?_ GE206.out | refine below_set ?_ GE226.out) | exact HB.out))
                              rintro e w96 ⟨rfl, hi, hb, hk⟩
                              refine ⟨_, rfl, ?_⟩
                              have n0_ := Aside0.mk (KeepBut.blk hk (g' := gb206) (o := .cells #[.int .i64 x207000_7, .int .i64 x207001_7, .int .i64 x207002_7, .int .i64 x207003_7] 69 (0, 0)) (by (with_reducible repeat (first | refine blk_drewN ?_ _ | refine blk_drew ?_ | refine blk_alloc ?_ _)); exact BK206.out) NB206_199.out (by simp))
                              have n1_ := Aside0.mk (KeepBut.blk hk (g' := gb226) (o := .cells #[.int .i64 t228, .int .i64 t229, .int .i64 t230, .int .i64 t231] 69 (0, 0)) (by (with_reducible repeat (first | refine blk_drewN ?_ _ | refine blk_drew ?_ | refine blk_alloc ?_ _)); exact BK226.out) NB226_199.out (by simp))
                              have n2_ := Aside0.mk (IsS89.other (show IsS89 w _ g219 t233 t234 t235 from by repeat (first | (with_reducible first | exact HI219.out | apply IsS89.alloc | apply IsS89.drewN | apply IsS89.drew | apply IsS89.set_0 | apply IsS89.set_1 | apply IsS89.set_2 | refine IsS89.far ?_ NB219_206.out _ | refine IsS89.far ?_ NB219_226.out _) | exact HI219.out)) hk NS219_199.out)
                              have n3_ := Aside0.mk (hb)
                              have n4_ := Aside0.mk (hi)
                              clear BK206
                              clear BK226
                              clear HI219
                              clear HB
                              clear HI199
                              have BK206 := n0_
                              have BK226 := n1_
                              have HI219 := n2_
                              have HB := n3_
                              have HI199 := n4_
                              clear n0_ n1_ n2_ n3_ n4_
                              (try clear hb)
                              (try clear hb2)
                              (try clear hge)
                              (try clear hk)
                              (try clear hi)
                              refine hK.out _ _ ⟨(blk_cell BK206.out 0).trans rfl, (blk_cell BK206.out 1).trans rfl, (blk_cell BK206.out 2).trans rfl, (blk_cell BK206.out 3).trans rfl⟩ (fun hHeld => ?_)
                              clear hK K
                              refine norm_ (a' := ?_) ?_ ?_
                              rotate_left
                              · show Act.put _ (some 100) _ = _
                                simp only [Act.put, List.setIfInBounds_toArray, List.set_cons_zero, List.set_cons_succ, i64_w, i32_w]
                                rfl
                              refine pure_ (i := 3) (N := some 101) (v := ?_) (a' := ?_) #[true, true, true, true, false, false, false, false, false, false, false, false, false, false, false, false, false, false, false] rfl rfl (any_of HT_.out (by kernel_rfl)) (fun _ _ _ h => h) (Or.inl ⟨by rfl, ?_⟩) ?_ ?_
                              rotate_left
                              · intro w'
                                go_simp
                                with_reducible rfl
                              rotate_left
                              · simp only [Act.put, List.setIfInBounds_toArray, List.set_cons_zero, List.set_cons_succ, i64_w, i32_w]
                                rfl
                              refine pure_ (i := 4) (N := some 102) (v := ?_) (a' := ?_) #[true, true, true, true, true, false, false, false, false, false, false, false, false, false, false, false, false, false, false] rfl rfl (any_of HT_.out (by kernel_rfl)) (fun _ _ _ h => h) (Or.inl ⟨by rfl, ?_⟩) ?_ ?_
                              rotate_left
                              · intro w'
                                go_simp
                                with_reducible rfl
                              rotate_left
                              · simp only [Act.put, List.setIfInBounds_toArray, List.set_cons_zero, List.set_cons_succ, i64_w, i32_w]
                                rfl
                              refine pure_ (i := 5) (N := some 103) (v := undef) (a' := ?_) #[true, true, true, true, true, true, false, false, false, false, false, false, false, false, false, false, false, false, false] rfl rfl (any_of HT_.out (by kernel_rfl)) (fun _ _ _ h => h) (Or.inr ⟨by rfl, rfl⟩) ?_ ?_
                              rotate_left
                              · simp only [Act.put, List.setIfInBounds_toArray, List.set_cons_zero, List.set_cons_succ, i64_w, i32_w]
                                rfl
                              refine pure_ (i := 6) (N := some 104) (v := undef) (a' := ?_) #[true, true, true, true, true, true, true, false, false, false, false, false, false, false, false, false, false, false, false] rfl rfl (any_of HT_.out (by kernel_rfl)) (fun _ _ _ h => h) (Or.inr ⟨by rfl, rfl⟩) ?_ ?_
                              rotate_left
                              · simp only [Act.put, List.setIfInBounds_toArray, List.set_cons_zero, List.set_cons_succ, i64_w, i32_w]
                                rfl
                              refine pure_ (i := 7) (N := some 105) (v := undef) (a' := ?_) #[true, true, true, true, true, true, true, true, false, false, false, false, false, false, false, false, false, false, false] rfl rfl (any_of HT_.out (by kernel_rfl)) (fun _ _ _ h => h) (Or.inr ⟨by rfl, rfl⟩) ?_ ?_
                              rotate_left
                              · simp only [Act.put, List.setIfInBounds_toArray, List.set_cons_zero, List.set_cons_succ, i64_w, i32_w]
                                rfl
                              refine pure_ (i := 8) (N := some 106) (v := undef) (a' := ?_) #[true, true, true, true, true, true, true, true, true, false, false, false, false, false, false, false, false, false, false] rfl rfl (any_of HT_.out (by kernel_rfl)) (fun _ _ _ h => h) (Or.inr ⟨by rfl, rfl⟩) ?_ ?_
                              rotate_left
                              · simp only [Act.put, List.setIfInBounds_toArray, List.set_cons_zero, List.set_cons_succ, i64_w, i32_w]
                                rfl
                              refine pure_ (i := 9) (N := some 107) (v := ?_) (a' := ?_) #[true, true, true, true, true, true, true, true, true, true, false, false, false, false, false, false, false, false, false] rfl rfl (any_of HT_.out (by kernel_rfl)) (fun _ _ _ h => h) (Or.inl ⟨by rfl, ?_⟩) ?_ ?_
                              rotate_left
                              · intro w'
                                go_simp
                                with_reducible rfl
                              rotate_left
                              · simp only [Act.put, List.setIfInBounds_toArray, List.set_cons_zero, List.set_cons_succ, i64_w, i32_w]
                                rfl
                              refine pure_ (i := 10) (N := some 108) (v := ?_) (a' := ?_) #[true, true, true, true, true, true, true, true, true, true, true, false, false, false, false, false, false, false, false] rfl rfl (any_of HT_.out (by kernel_rfl)) (fun _ _ _ h => h) (Or.inl ⟨by rfl, ?_⟩) ?_ ?_
                              rotate_left
                              · intro w'
                                go_simp
                                with_reducible rfl
                              rotate_left
                              · simp only [Act.put, List.setIfInBounds_toArray, List.set_cons_zero, List.set_cons_succ, i64_w, i32_w]
                                rfl
                              refine pure_ (i := 11) (N := some 109) (v := undef) (a' := ?_) #[true, true, true, true, true, true, true, true, true, true, true, true, false, false, false, false, false, false, false] rfl rfl (any_of HT_.out (by kernel_rfl)) (fun _ _ _ h => h) (Or.inr ⟨by rfl, rfl⟩) ?_ ?_
                              rotate_left
                              · simp only [Act.put, List.setIfInBounds_toArray, List.set_cons_zero, List.set_cons_succ, i64_w, i32_w]
                                rfl
                              refine pure_ (i := 12) (N := some 110) (v := undef) (a' := ?_) #[true, true, true, true, true, true, true, true, true, true, true, true, true, false, false, false, false, false, false] rfl rfl (any_of HT_.out (by kernel_rfl)) (fun _ _ _ h => h) (Or.inr ⟨by rfl, rfl⟩) ?_ ?_
                              rotate_left
                              · simp only [Act.put, List.setIfInBounds_toArray, List.set_cons_zero, List.set_cons_succ, i64_w, i32_w]
                                rfl
                              refine pure_ (i := 13) (N := some 111) (v := undef) (a' := ?_) #[true, true, true, true, true, true, true, true, true, true, true, true, true, true, false, false, false, false, false] rfl rfl (any_of HT_.out (by kernel_rfl)) (fun _ _ _ h => h) (Or.inr ⟨by rfl, rfl⟩) ?_ ?_
                              rotate_left
                              · simp only [Act.put, List.setIfInBounds_toArray, List.set_cons_zero, List.set_cons_succ, i64_w, i32_w]
                                rfl
                              refine pure_ (i := 14) (N := some 112) (v := undef) (a' := ?_) #[true, true, true, true, true, true, true, true, true, true, true, true, true, true, true, false, false, false, false] rfl rfl (any_of HT_.out (by kernel_rfl)) (fun _ _ _ h => h) (Or.inr ⟨by rfl, rfl⟩) ?_ ?_
                              rotate_left
                              · simp only [Act.put, List.setIfInBounds_toArray, List.set_cons_zero, List.set_cons_succ, i64_w, i32_w]
                                rfl
                              refine pure_ (i := 15) (N := some 113) (v := undef) (a' := ?_) #[true, true, true, true, true, true, true, true, true, true, true, true, true, true, true, true, false, false, false] rfl rfl (any_of HT_.out (by kernel_rfl)) (fun _ _ _ h => h) (Or.inr ⟨by rfl, rfl⟩) ?_ ?_
                              rotate_left
                              · simp only [Act.put, List.setIfInBounds_toArray, List.set_cons_zero, List.set_cons_succ, i64_w, i32_w]
                                rfl
                              refine pure_ (i := 16) (N := some 114) (v := undef) (a' := ?_) #[true, true, true, true, true, true, true, true, true, true, true, true, true, true, true, true, true, false, false] rfl rfl (any_of HT_.out (by kernel_rfl)) (fun _ _ _ h => h) (Or.inr ⟨by rfl, rfl⟩) ?_ ?_
                              rotate_left
                              · simp only [Act.put, List.setIfInBounds_toArray, List.set_cons_zero, List.set_cons_succ, i64_w, i32_w]
                                rfl
                              refine pure_ (i := 17) (N := some 115) (v := undef) (a' := ?_) #[true, true, true, true, true, true, true, true, true, true, true, true, true, true, true, true, true, true, false] rfl rfl (any_of HT_.out (by kernel_rfl)) (fun _ _ _ h => h) (Or.inr ⟨by rfl, rfl⟩) ?_ ?_
                              rotate_left
                              · simp only [Act.put, List.setIfInBounds_toArray, List.set_cons_zero, List.set_cons_succ, i64_w, i32_w]
                                rfl
                              refine pure_ (i := 18) (N := some 116) (v := ?_) (a' := ?_) #[true, true, true, true, true, true, true, true, true, true, true, true, true, true, true, true, true, true, true] rfl rfl (any_of HT_.out (by kernel_rfl)) (fun _ _ _ h => h) (Or.inl ⟨by rfl, ?_⟩) ?_ ?_
                              rotate_left
                              · intro w'
                                go_simp
                                with_reducible rfl
                              rotate_left
                              · simp only [Act.put, List.setIfInBounds_toArray, List.set_cons_zero, List.set_cons_succ, i64_w, i32_w]
                                rfl
                              refine done_ (done_of HT_.out (by kernel_rfl)) ?_
                              try go_wp2
                              go_ret
                              exact ⟨by first | rfl | (simp [errW_none, errW_some] <;> rfl) | (simp [*, errW_none, errW_some] <;> rfl), by repeat (first | (with_reducible first | exact HB.out | apply below_alloc | apply pw_below_drewN | apply below_drew1 | refine below_set ?_ (IsS89.ge HI199.out) | refine below_set ?_ (IsS89.ge HI219.out) | refine below_set ?_ GE206.out | refine below_set ?_ GE226.out) | exact HB.out)⟩
                          · rw [if_neg c50] at H
                            exact absurd H (by simp)
                        · rw [if_neg c49] at H
                          exact absurd H (by simp)
                      · replace c48 := Bool.eq_false_iff.mpr c48
                        subst c48
                        have H1 : (some true) = some r := by rw [if_neg (show ¬ (false = true) by decide)] at H; exact H
                        clear H
                        have H := H1
                        clear H1
                        obtain rfl := Option.some.inj H
                        go_wp2
                        go_ret
                        exact ⟨by first | rfl | (simp [errW_none, errW_some] <;> rfl) | (simp [*, errW_none, errW_some] <;> rfl), by repeat (first | (with_reducible first | exact HB.out | apply below_alloc | apply pw_below_drewN | apply below_drew1 | refine below_set ?_ (IsS89.ge HI199.out) | refine below_set ?_ (IsS89.ge HI219.out) | refine below_set ?_ GE206.out | refine below_set ?_ GE226.out) | exact HB.out)⟩
  · replace c6 := Bool.eq_false_iff.mpr c6
    subst c6
    have H1 : (some false) = some r := by rw [if_neg (show ¬ (false = true) by decide)] at H; exact H
    clear H
    have H := H1
    clear H1
    obtain rfl := Option.some.inj H
    go_enter Try.func14, Try.ntmps14
    go_wp2_with (first | ((with_reducible refine gate_callee (f := 29) rfl ?_); refine goesL_ (some 21) rfl rfl Try.func29 (by kernel_rfl) rfl #[.int .i64 (wrap64 (Int.tmod (IntKind.u64.wrap (a0)) 1001))] rfl (by (try simp only [List.map_toArray, List.map_cons, List.map_nil]); first | done | rfl | (simp only [List.length_drop, List.length_take]; rfl)) ?_; (with_reducible refine (life_New.calls (wrap64 (Int.tmod (IntKind.u64.wrap (a0)) 1001)) t196 t197 t198 t200 w _ ?side1 A4.out).mono ?_); (case side1 => repeat (first | (with_reducible first | exact HB.out | apply below_alloc | apply pw_below_drewN | apply below_drew1) | exact HB.out)); rintro e w97 ⟨g199, rfl, hi, hb, hb2, hge⟩; refine ⟨_, rfl, ?_⟩; have n0_ := Aside0.mk (hb); have n1_ := Aside0.mk (hi); clear HB; have HB := n0_; have HI199 := n1_; clear n0_ n1_; (try clear hb); (try clear hb2); (try clear hge); (try clear hk); (try clear hi)) | (go_at_call 30; (with_reducible refine (monocoquelaw32_told.calls k  false _ A5.out).mono ?_); rintro e w98 ⟨rfl, hb⟩; have n0_ := Aside0.mk (IsS89.below (by repeat (first | (with_reducible first | exact HI199.out | apply IsS89.alloc | apply IsS89.drewN | apply IsS89.drew | apply IsS89.set_0 | apply IsS89.set_1 | apply IsS89.set_2) | exact HI199.out)) hb); have n1_ := Aside0.mk (below_step (by repeat (first | (with_reducible first | exact HB.out | apply below_alloc | apply pw_below_drewN | apply below_drew1 | refine below_set ?_ (IsS89.ge HI199.out)) | exact HB.out)) hb); clear HI199; clear HB; have HI199 := n0_; have HB := n1_; clear n0_ n1_; (try clear hb); (try clear hb2); (try clear hge); (try clear hk); (try clear hi)))
    go_ret
    exact ⟨by first | rfl | (simp [errW_none, errW_some] <;> rfl) | (simp [*, errW_none, errW_some] <;> rfl), by repeat (first | (with_reducible first | exact HB.out | apply below_alloc | apply pw_below_drewN | apply below_drew1 | refine below_set ?_ (IsS89.ge HI199.out)) | exact HB.out)⟩

/-- THE ONE PURE STATEMENT of monocoquelaw32_LifeClones: yours. -/
def monocoquelaw32_LifeClones.Pure : Prop := ∀ (a0 : Int) (l1 : List Int) (l2 : List Int), (Lit.int .i64 a0).wf = true → l1.length ≤ maxLen → l1.length * 8 ≤ 140737488351232 → (∀ x ∈ l1, (Lit.int .i64 x).wf = true) → l2.length ≤ maxLen → l2.length * 8 ≤ 140737488351232 → (∀ x ∈ l2, (Lit.int .i64 x).wf = true) → ∃ k, monocoquelaw32_LifeClones.f k a0 l1 l2 = some true
theorem monocoquelaw32_LifeClones.walk (P : monocoquelaw32_LifeClones.Pure) (a0 : Int) (a1 : Option Addr) (len1 cap1 : Nat) (z1 : List Int) (a2 : Option Addr) (len2 cap2 : Nat) (z2 : List Int) (w : World) (w0 : (Lit.int .i64 a0).wf = true) (w1 : (a1 = none ∧ len1 = 0 ∧ cap1 = 0 ∧ z1 = []) ∨ ∃ x, a1 = some x ∧ len1 ≤ cap1 ∧ cap1 ≤ maxLen ∧ z1.length = cap1 ∧ (∀ i, i < z1.length → w.cell? (x.add i) = some (.int .i64 (z1.getD i 0))) ∧ ∀ n ∈ z1, (Lit.int .i64 n).wf = true) (y1 : len1 * 8 ≤ 140737488351232) (w2 : (a2 = none ∧ len2 = 0 ∧ cap2 = 0 ∧ z2 = []) ∨ ∃ x, a2 = some x ∧ len2 ≤ cap2 ∧ cap2 ≤ maxLen ∧ z2.length = cap2 ∧ (∀ i, i < z2.length → w.cell? (x.add i) = some (.int .i64 (z2.getD i 0))) ∧ ∀ n ∈ z2, (Lit.int .i64 n).wf = true) (y2 : len2 * 8 ≤ 140737488351232) :
    Calls Try.prog 14 #[.int .i64 a0, .slice a1 len1 cap1, .slice a2 len2 cap2] w fun e w' => e = .returned (.bool true) ∧ Below w.heap.size w w' := by
  obtain ⟨l1, rfl, hr1, hm1, hw1, hc1⟩ := ReadsInt.ofRowC w1
  obtain ⟨l2, rfl, hr2, hm2, hw2, hc2⟩ := ReadsInt.ofRowC w2
  obtain ⟨k, h⟩ := P a0 l1 l2 w0 hm1 y1 hw1 hm2 y2 hw2
  refine (monocoquelaw32_LifeClones.calls k a0 _ _ l1 _ _ l2 true w (Kd.C_of_reads (d := (0 : Int)) (h1 := fun _ => rfl) hr1) hc1 (Kd.C_of_reads (d := (0 : Int)) (h1 := fun _ => rfl) hr2) hc2 h).mono ?_
  rintro e w' ⟨rfl, hd⟩
  exact ⟨rfl, hd⟩

end Go.Proofs.Ytpabbpcklgipnaa.PLifeClones
