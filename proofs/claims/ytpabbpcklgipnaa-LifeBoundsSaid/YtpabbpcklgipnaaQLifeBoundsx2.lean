/- The walks of functions that the law LifeBounds reaches. Written by this session's turn of the kit's printer, not by the kit's own. -/
import Derived.Test.YtpabbpcklgipnaaQLifeBoundsx0
import Derived.Test.YtpabbpcklgipnaaQLifeBoundsx1
namespace Go.Proofs.Ytpabbpcklgipnaa.PLifeBounds
open Go.RowKit Go.Proofs.YtpabbpcklgipnaaW.PrintWords Go.Proofs.YtpabbpcklgipnaaW.PrintLast Go.Proofs.YtpabbpcklgipnaaW.PrintMore
attribute [local go_sem] max2_int min2_int max_two min_two max_three min_three max_four min_four   -- for this text's walks alone
set_option linter.unusedVariables false
set_option linter.unusedSimpArgs false

/-! ### monocoquelaw32_LifeBounds: function 9 -/
mutual
def monocoquelaw32_LifeBounds.l0 : Nat → List Int → Int → Int → Bool → Int → Int → Int → Int → Option (Bool)
  | 0, _, _, _, _, _, _, _, _ => none
  | k + 1, x1, x5, x8, x9, x10, x149000, x149001, x149002 => if x10 < (x1.length : Int) then (monocoquelaw32_LifeBounds.j1 k x1 x5 x8 x9 x10 (decide (x10 < 150)) x149000 x149001 x149002) else (monocoquelaw32_LifeBounds.j1 k x1 x5 x8 x9 x10 false x149000 x149001 x149002)
def monocoquelaw32_LifeBounds.j1 : Nat → List Int → Int → Int → Bool → Int → Bool → Int → Int → Int → Option (Bool)
  | 0, _, _, _, _, _, _, _, _, _ => none
  | k + 1, x1, x5, x8, x9, x10, x37, x149000, x149001, x149002 => if x37 = true then (if 0 ≤ x10 then (if x10 < (x1.length : Int) then (if (wrap64 (4 + (wrap64 (Int.tmod (IntKind.u64.wrap (rd x1 x10)) 4)))) = 7 then ((life_Life_Run.f x149000 x149001 x149002).bind fun bt152 => (monocoquelaw32_LifeBounds.j2 k x1 x5 x8 x9 x10 bt152.2.1 bt152.2.2.1 bt152.2.2.2)) else ((life_Life_Do.f k x149000 x149001 x149002 (wrap64 (4 + (wrap64 (Int.tmod (IntKind.u64.wrap (rd x1 x10)) 4))))).bind fun bt156 => (if bt156.2.1 = true then (monocoquelaw32_LifeBounds.j2 k x1 x5 (wrap64 (x8 + 1)) x9 x10 bt156.2.2.2.1 bt156.2.2.2.2.1 bt156.2.2.2.2.2) else (monocoquelaw32_LifeBounds.j2 k x1 x5 x8 x9 x10 bt156.2.2.2.1 bt156.2.2.2.2.1 bt156.2.2.2.2.2)))) else (none)) else (none)) else (some true)
def monocoquelaw32_LifeBounds.j2 : Nat → List Int → Int → Int → Bool → Int → Int → Int → Int → Option (Bool)
  | 0, _, _, _, _, _, _, _, _ => none
  | k + 1, x1, x5, x8, x9, x10, x149000, x149001, x149002 => if x9 = true then ((life_Life_Mode.f x149000 x149001 x149002).bind fun bt162 => (monocoquelaw32_LifeBounds.j3 k x1 x5 x8 x10 (bt162.1 != 0) bt162.2.1 bt162.2.2.1 bt162.2.2.2)) else (monocoquelaw32_LifeBounds.j3 k x1 x5 x8 x10 false x149000 x149001 x149002)
def monocoquelaw32_LifeBounds.j3 : Nat → List Int → Int → Int → Int → Bool → Int → Int → Int → Option (Bool)
  | 0, _, _, _, _, _, _, _, _ => none
  | k + 1, x1, x5, x8, x10, x67, x149000, x149001, x149002 => if x67 = true then (some false) else ((life_Life_Mode.f x149000 x149001 x149002).bind fun bt166 => (if x8 > x5 then (some false) else ((life_Life_Starts.f bt166.2.1 bt166.2.2.1 bt166.2.2.2).bind fun bt170 => (if bt170.1 = x8 then ((life_Life_Left.f bt170.2.1 bt170.2.2.1 bt170.2.2.2).bind fun bt174 => (if bt174.1 = (wrap64 (x5 - x8)) then (monocoquelaw32_LifeBounds.l0 k x1 x5 x8 (bt166.1 == 0) (wrap64 (x10 + 1)) bt174.2.1 bt174.2.2.1 bt174.2.2.2) else (some false))) else (some false)))))
end
def monocoquelaw32_LifeBounds.f (k : Nat) (a0 : Int) (l1 : List Int) : Option (Bool) := (life_New.f (wrap64 (Int.tmod (IntKind.u64.wrap (a0)) 20))).bind fun bt145 => ((monocoquelaw32_told.f k).bind fun t150 => (if t150 = true then (monocoquelaw32_LifeBounds.l0 k l1 (wrap64 (Int.tmod (IntKind.u64.wrap (a0)) 20)) 0 false 0 bt145.1 bt145.2.1 bt145.2.2.1) else (some false)))
theorem monocoquelaw32_LifeBounds.mono_l : ∀ k, (∀ y0 y1 y2 y3 y4 y5 y6 y7, LeO (monocoquelaw32_LifeBounds.l0 k y0 y1 y2 y3 y4 y5 y6 y7) (monocoquelaw32_LifeBounds.l0 (k + 1) y0 y1 y2 y3 y4 y5 y6 y7)) ∧ (∀ y0 y1 y2 y3 y4 y5 y6 y7 y8, LeO (monocoquelaw32_LifeBounds.j1 k y0 y1 y2 y3 y4 y5 y6 y7 y8) (monocoquelaw32_LifeBounds.j1 (k + 1) y0 y1 y2 y3 y4 y5 y6 y7 y8)) ∧ (∀ y0 y1 y2 y3 y4 y5 y6 y7, LeO (monocoquelaw32_LifeBounds.j2 k y0 y1 y2 y3 y4 y5 y6 y7) (monocoquelaw32_LifeBounds.j2 (k + 1) y0 y1 y2 y3 y4 y5 y6 y7)) ∧ (∀ y0 y1 y2 y3 y4 y5 y6 y7, LeO (monocoquelaw32_LifeBounds.j3 k y0 y1 y2 y3 y4 y5 y6 y7) (monocoquelaw32_LifeBounds.j3 (k + 1) y0 y1 y2 y3 y4 y5 y6 y7))
  | 0 => ⟨fun _ _ _ _ _ _ _ _ r h => by simp [monocoquelaw32_LifeBounds.l0] at h, fun _ _ _ _ _ _ _ _ _ r h => by simp [monocoquelaw32_LifeBounds.j1] at h, fun _ _ _ _ _ _ _ _ r h => by simp [monocoquelaw32_LifeBounds.j2] at h, fun _ _ _ _ _ _ _ _ r h => by simp [monocoquelaw32_LifeBounds.j3] at h⟩
  | k + 1 => by
    obtain ⟨ih0, ih1, ih2, ih3⟩ := monocoquelaw32_LifeBounds.mono_l k
    refine ⟨?_, ?_, ?_, ?_⟩
    · intro y0 y1 y2 y3 y4 y5 y6 y7
      unfold monocoquelaw32_LifeBounds.l0
      repeat' first
      | (with_reducible exact ih0 _ _ _ _ _ _ _ _)
      | (with_reducible exact ih1 _ _ _ _ _ _ _ _ _)
      | (with_reducible exact ih2 _ _ _ _ _ _ _ _)
      | (with_reducible exact ih3 _ _ _ _ _ _ _ _)
      | (with_reducible exact life_Life_Do.mono _ _ _ _ _)
      | (with_reducible exact monocoquelaw32_told.mono _)
      | (with_reducible exact LeO.refl _)
      | (with_reducible exact LeO.none _)
      | (with_reducible refine LeO.ite ?_ ?_)
      | (with_reducible refine LeO.bind ?_ (fun _ => ?_))
      | exact ih0 _ _ _ _ _ _ _ _
      | exact ih1 _ _ _ _ _ _ _ _ _
      | exact ih2 _ _ _ _ _ _ _ _
      | exact ih3 _ _ _ _ _ _ _ _
      | exact life_Life_Do.mono _ _ _ _ _
      | exact monocoquelaw32_told.mono _
      | exact LeO.none _
      | refine LeO.ite ?_ ?_
      | refine LeO.bind ?_ (fun _ => ?_)
    · intro y0 y1 y2 y3 y4 y5 y6 y7 y8
      unfold monocoquelaw32_LifeBounds.j1
      repeat' first
      | (with_reducible exact ih0 _ _ _ _ _ _ _ _)
      | (with_reducible exact ih1 _ _ _ _ _ _ _ _ _)
      | (with_reducible exact ih2 _ _ _ _ _ _ _ _)
      | (with_reducible exact ih3 _ _ _ _ _ _ _ _)
      | (with_reducible exact life_Life_Do.mono _ _ _ _ _)
      | (with_reducible exact monocoquelaw32_told.mono _)
      | (with_reducible exact LeO.refl _)
      | (with_reducible exact LeO.none _)
      | (with_reducible refine LeO.ite ?_ ?_)
      | (with_reducible refine LeO.bind ?_ (fun _ => ?_))
      | exact ih0 _ _ _ _ _ _ _ _
      | exact ih1 _ _ _ _ _ _ _ _ _
      | exact ih2 _ _ _ _ _ _ _ _
      | exact ih3 _ _ _ _ _ _ _ _
      | exact life_Life_Do.mono _ _ _ _ _
      | exact monocoquelaw32_told.mono _
      | exact LeO.none _
      | refine LeO.ite ?_ ?_
      | refine LeO.bind ?_ (fun _ => ?_)
    · intro y0 y1 y2 y3 y4 y5 y6 y7
      unfold monocoquelaw32_LifeBounds.j2
      repeat' first
      | (with_reducible exact ih0 _ _ _ _ _ _ _ _)
      | (with_reducible exact ih1 _ _ _ _ _ _ _ _ _)
      | (with_reducible exact ih2 _ _ _ _ _ _ _ _)
      | (with_reducible exact ih3 _ _ _ _ _ _ _ _)
      | (with_reducible exact life_Life_Do.mono _ _ _ _ _)
      | (with_reducible exact monocoquelaw32_told.mono _)
      | (with_reducible exact LeO.refl _)
      | (with_reducible exact LeO.none _)
      | (with_reducible refine LeO.ite ?_ ?_)
      | (with_reducible refine LeO.bind ?_ (fun _ => ?_))
      | exact ih0 _ _ _ _ _ _ _ _
      | exact ih1 _ _ _ _ _ _ _ _ _
      | exact ih2 _ _ _ _ _ _ _ _
      | exact ih3 _ _ _ _ _ _ _ _
      | exact life_Life_Do.mono _ _ _ _ _
      | exact monocoquelaw32_told.mono _
      | exact LeO.none _
      | refine LeO.ite ?_ ?_
      | refine LeO.bind ?_ (fun _ => ?_)
    · intro y0 y1 y2 y3 y4 y5 y6 y7
      unfold monocoquelaw32_LifeBounds.j3
      repeat' first
      | (with_reducible exact ih0 _ _ _ _ _ _ _ _)
      | (with_reducible exact ih1 _ _ _ _ _ _ _ _ _)
      | (with_reducible exact ih2 _ _ _ _ _ _ _ _)
      | (with_reducible exact ih3 _ _ _ _ _ _ _ _)
      | (with_reducible exact life_Life_Do.mono _ _ _ _ _)
      | (with_reducible exact monocoquelaw32_told.mono _)
      | (with_reducible exact LeO.refl _)
      | (with_reducible exact LeO.none _)
      | (with_reducible refine LeO.ite ?_ ?_)
      | (with_reducible refine LeO.bind ?_ (fun _ => ?_))
      | exact ih0 _ _ _ _ _ _ _ _
      | exact ih1 _ _ _ _ _ _ _ _ _
      | exact ih2 _ _ _ _ _ _ _ _
      | exact ih3 _ _ _ _ _ _ _ _
      | exact life_Life_Do.mono _ _ _ _ _
      | exact monocoquelaw32_told.mono _
      | exact LeO.none _
      | refine LeO.ite ?_ ?_
      | refine LeO.bind ?_ (fun _ => ?_)
theorem monocoquelaw32_LifeBounds.mono : ∀ a0 a1 k, LeO (monocoquelaw32_LifeBounds.f k a0 a1) (monocoquelaw32_LifeBounds.f (k + 1) a0 a1) := by
  intro a0 a1 k
  obtain ⟨ih0, ih1, ih2, ih3⟩ := monocoquelaw32_LifeBounds.mono_l k
  unfold monocoquelaw32_LifeBounds.f
  repeat' first
      | (with_reducible exact ih0 _ _ _ _ _ _ _ _)
      | (with_reducible exact ih1 _ _ _ _ _ _ _ _ _)
      | (with_reducible exact ih2 _ _ _ _ _ _ _ _)
      | (with_reducible exact ih3 _ _ _ _ _ _ _ _)
      | (with_reducible exact life_Life_Do.mono _ _ _ _ _)
      | (with_reducible exact monocoquelaw32_told.mono _)
      | (with_reducible exact LeO.refl _)
      | (with_reducible exact LeO.none _)
      | (with_reducible refine LeO.ite ?_ ?_)
      | (with_reducible refine LeO.bind ?_ (fun _ => ?_))
      | exact ih0 _ _ _ _ _ _ _ _
      | exact ih1 _ _ _ _ _ _ _ _ _
      | exact ih2 _ _ _ _ _ _ _ _
      | exact ih3 _ _ _ _ _ _ _ _
      | exact life_Life_Do.mono _ _ _ _ _
      | exact monocoquelaw32_told.mono _
      | exact LeO.none _
      | refine LeO.ite ?_ ?_
      | refine LeO.bind ?_ (fun _ => ?_)
set_option maxHeartbeats 8000000 in
set_option maxRecDepth 100000 in
theorem monocoquelaw32_LifeBounds.calls (k : Nat) (a0 : Int) (A1 : Option Addr) (c1 : Nat) (l1 : List Int) (r : Bool) (w : World) (hr1 : Kd.C (Kd.int .i64) w A1 l1.length l1) (hc1 : l1.length ≤ c1) (h : monocoquelaw32_LifeBounds.f k a0 l1 = some r) :
    Calls Try.prog 9 #[.int .i64 a0, .slice A1 l1.length c1] w fun e w' => e = .returned (.bool r) ∧ Below w.heap.size w w' := by
  have hu58 := Try.underlying58
  have HR1 := Aside0.mk hr1
  have HC1 := Aside0.mk hc1
  clear hr1 hc1
  have HB := Aside0.mk (Below.refl w.heap.size w)
  have H : ((life_New.f (wrap64 (Int.tmod (IntKind.u64.wrap (a0)) 20))).bind fun bt145 => ((monocoquelaw32_told.f k).bind fun t150 => (if t150 = true then (monocoquelaw32_LifeBounds.l0 k l1 (wrap64 (Int.tmod (IntKind.u64.wrap (a0)) 20)) 0 false 0 bt145.1 bt145.2.1 bt145.2.2.1) else (some false)))) = some r := h
  clear h
  replace H := Option.bind_eq_some_iff.mp H
  obtain ⟨⟨t145, t146, t147, t149⟩, A30, H⟩ := H
  replace H : ((monocoquelaw32_told.f k).bind fun t150 => (if t150 = true then (monocoquelaw32_LifeBounds.l0 k l1 (wrap64 (Int.tmod (IntKind.u64.wrap (a0)) 20)) 0 false 0 t145 t146 t147) else (some false))) = some r := H
  have A3 := Aside0.mk A30
  clear A30
  replace H := Option.bind_eq_some_iff.mp H
  obtain ⟨t150, A40, H⟩ := H
  replace H : (if t150 = true then (monocoquelaw32_LifeBounds.l0 k l1 (wrap64 (Int.tmod (IntKind.u64.wrap (a0)) 20)) 0 false 0 t145 t146 t147) else (some false)) = some r := H
  have A4 := Aside0.mk A40
  clear A40
  by_cases c5 : t150 = true
  · subst c5
    have H1 : (monocoquelaw32_LifeBounds.l0 k l1 (wrap64 (Int.tmod (IntKind.u64.wrap (a0)) 20)) 0 false 0 t145 t146 t147) = some r := by rw [if_pos rfl] at H; exact H
    clear H
    have H := H1
    clear H1
    have H' := Aside0.mk H
    clear H
    go_enter Try.func9, Try.ntmps9
    go_wp2_with (first | ((with_reducible refine gate_callee (f := 29) rfl ?_); refine goesL_ (some 21) rfl rfl Try.func29 (by kernel_rfl) rfl #[.int .i64 (wrap64 (Int.tmod (IntKind.u64.wrap (a0)) 20))] rfl (by (try simp only [List.map_toArray, List.map_cons, List.map_nil]); first | done | rfl | (simp only [List.length_drop, List.length_take]; rfl)) ?_; (with_reducible refine (life_New.calls (wrap64 (Int.tmod (IntKind.u64.wrap (a0)) 20)) t145 t146 t147 t149 w _ ?side1 A3.out).mono ?_); (case side1 => repeat (first | (with_reducible first | exact HB.out | apply below_alloc | apply pw_below_drewN | apply below_drew1) | exact HB.out)); rintro e w6 ⟨g148, rfl, hi, hb, hb2⟩; refine ⟨_, rfl, ?_⟩; have n0_ := Aside0.mk (hb); have n1_ := Aside0.mk (hi); clear HB; have HB := n0_; have HI148 := n1_; clear n0_ n1_; (try clear hb); (try clear hb2); (try clear hk); (try clear hi)) | (go_at_call 30; (with_reducible refine (monocoquelaw32_told.calls k  true _ A4.out).mono ?_); rintro e w7 ⟨rfl, hb⟩; have n0_ := Aside0.mk (IsS89.below (by repeat (first | (with_reducible first | exact HI148.out | apply IsS89.alloc | apply IsS89.drewN | apply IsS89.drew | apply IsS89.set_0 | apply IsS89.set_1 | apply IsS89.set_2) | exact HI148.out)) hb); have n1_ := Aside0.mk (below_step (by repeat (first | (with_reducible first | exact HB.out | apply below_alloc | apply pw_below_drewN | apply below_drew1 | refine below_set ?_ (IsS89.ge HI148.out)) | exact HB.out)) hb); clear HI148; clear HB; have HI148 := n0_; have HB := n1_; clear n0_ n1_; (try clear hb); (try clear hb2); (try clear hk); (try clear hi)))
    go_loopg [8, 9, 10] k (fun kq v8 v9 v10 w' => ∃ (x8_1 : Int) (x9_1 : Bool) (x10_1 : Int) (x149000_1 : Int) (x149001_1 : Int) (x149002_1 : Int), v8 = .int .i64 x8_1 ∧ v9 = .bool x9_1 ∧ v10 = .int .i64 x10_1 ∧ Aside0 (monocoquelaw32_LifeBounds.l0 kq l1 (wrap64 (Int.tmod (IntKind.u64.wrap (a0)) 20)) x8_1 x9_1 x10_1 x149000_1 x149001_1 x149002_1 = some r) ∧ Aside0 (kq ≤ k) ∧ Aside0 (IsS89 w w' g148 x149000_1 x149001_1 x149002_1) ∧ Aside0 (Below w.heap.size w w'))
    case atStart => exact ⟨(0), (false), (0), (t145), (t146), (t147), (by first | rfl | (simp; done) | (simp [*]; done)), (by first | rfl | (simp; done) | (simp [*]; done)), (by first | rfl | (simp; done) | (simp [*]; done)), H', ⟨Nat.le_refl _⟩, ⟨by repeat (first | (with_reducible first | exact HI148.out | apply IsS89.alloc | apply IsS89.drewN | apply IsS89.drew | apply IsS89.set_0 | apply IsS89.set_1 | apply IsS89.set_2) | exact HI148.out)⟩, ⟨by repeat (first | (with_reducible first | exact HB.out | apply below_alloc | apply pw_below_drewN | apply below_drew1 | refine below_set ?_ (IsS89.ge HI148.out)) | exact HB.out)⟩⟩
    case round =>
      clear H'
      try clear c1
      try clear c2
      try clear p2
      try clear c5
      try clear p6
      obtain ⟨x8_1, x9_1, x10_1, x149000_1, x149001_1, x149002_1, rfl, rfl, rfl, HA, HK1, HI148, HB⟩ := hrel
      cases gk with
      | zero => exact absurd HA.out (by simp [monocoquelaw32_LifeBounds.l0])
      | succ k1 =>
        have H := HA.out
        clear HA
        simp only [monocoquelaw32_LifeBounds.l0] at H
        have HC8 := Aside0.mk H
        clear H
        go_upto_region 7 with (fail)
        go_cut [37] (fun v37 wc => ∃ (kq : Nat) (x37_7 : Bool), v37 = .bool x37_7 ∧ Aside0 (monocoquelaw32_LifeBounds.j1 kq l1 (wrap64 (Int.tmod (IntKind.u64.wrap (a0)) 20)) x8_1 x9_1 x10_1 x37_7 x149000_1 x149001_1 x149002_1 = some r) ∧ Aside0 (kq ≤ k1) ∧ Aside0 (IsS89 w wc g148 x149000_1 x149001_1 x149002_1) ∧ Aside0 (Below w.heap.size w wc))
        case first =>
          have H := HC8.out
          clear HC8
          by_cases c9 : x10_1 < (l1.length : Int)
          · rw [if_pos c9] at H
            have c9b0 : decide (x10_1 < (l1.length : Int)) = true := decide_eq_true c9
            clear c9
            (first | rw [c9b0] | (simp only [i64_w, i32_w]; rw [c9b0]) | skip)
            have H' := Aside0.mk H
            clear H
            go_wp2
            go_meet
            case rel => exact ⟨_, (decide (x10_1 < 150)), (by first | rfl | (simp; done) | (simp [*]; done)), H', ⟨by have := HK1.out; first | omega | exact Nat.le_refl _⟩, ⟨by repeat (first | (with_reducible first | exact HI148.out | apply IsS89.alloc | apply IsS89.drewN | apply IsS89.drew | apply IsS89.set_0 | apply IsS89.set_1 | apply IsS89.set_2) | exact HI148.out)⟩, ⟨by repeat (first | (with_reducible first | exact HB.out | apply below_alloc | apply pw_below_drewN | apply below_drew1 | refine below_set ?_ (IsS89.ge HI148.out)) | exact HB.out)⟩⟩
          · rw [if_neg c9] at H
            have c9b0 : decide (x10_1 < (l1.length : Int)) = false := decide_eq_false c9
            clear c9
            (first | rw [c9b0] | (simp only [i64_w, i32_w]; rw [c9b0]) | skip)
            have H' := Aside0.mk H
            clear H
            go_wp2
            go_meet
            case rel => exact ⟨_, (false), (by first | rfl | (simp; done) | (simp [*]; done)), H', ⟨by have := HK1.out; first | omega | exact Nat.le_refl _⟩, ⟨by repeat (first | (with_reducible first | exact HI148.out | apply IsS89.alloc | apply IsS89.drewN | apply IsS89.drew | apply IsS89.set_0 | apply IsS89.set_1 | apply IsS89.set_2) | exact HI148.out)⟩, ⟨by repeat (first | (with_reducible first | exact HB.out | apply below_alloc | apply pw_below_drewN | apply below_drew1 | refine below_set ?_ (IsS89.ge HI148.out)) | exact HB.out)⟩⟩
        case rest =>
          clear HC8
          try clear c1
          try clear c2
          try clear p2
          try clear c5
          try clear p6
          try clear c9
          try clear c9b0
          try clear p2
          try clear p6
          obtain ⟨kq, x37_7, rfl, HA, HJ7, HI148, HB⟩ := hcut
          cases kq with
          | zero => exact absurd HA.out (by simp [monocoquelaw32_LifeBounds.j1])
          | succ kj7 =>
            have H := HA.out
            clear HA
            simp only [monocoquelaw32_LifeBounds.j1] at H
            by_cases c10 : x37_7 = true
            · subst c10
              have H1 : (if 0 ≤ x10_1 then (if x10_1 < (l1.length : Int) then (if (wrap64 (4 + (wrap64 (Int.tmod (IntKind.u64.wrap (rd l1 x10_1)) 4)))) = 7 then ((life_Life_Run.f x149000_1 x149001_1 x149002_1).bind fun bt152 => (monocoquelaw32_LifeBounds.j2 kj7 l1 (wrap64 (Int.tmod (IntKind.u64.wrap (a0)) 20)) x8_1 x9_1 x10_1 bt152.2.1 bt152.2.2.1 bt152.2.2.2)) else ((life_Life_Do.f kj7 x149000_1 x149001_1 x149002_1 (wrap64 (4 + (wrap64 (Int.tmod (IntKind.u64.wrap (rd l1 x10_1)) 4))))).bind fun bt156 => (if bt156.2.1 = true then (monocoquelaw32_LifeBounds.j2 kj7 l1 (wrap64 (Int.tmod (IntKind.u64.wrap (a0)) 20)) (wrap64 (x8_1 + 1)) x9_1 x10_1 bt156.2.2.2.1 bt156.2.2.2.2.1 bt156.2.2.2.2.2) else (monocoquelaw32_LifeBounds.j2 kj7 l1 (wrap64 (Int.tmod (IntKind.u64.wrap (a0)) 20)) x8_1 x9_1 x10_1 bt156.2.2.2.1 bt156.2.2.2.2.1 bt156.2.2.2.2.2)))) else (none)) else (none)) = some r := by rw [if_pos rfl] at H; exact H
              clear H
              have H := H1
              clear H1
              by_cases c11 : 0 ≤ x10_1
              · rw [if_pos c11] at H
                have c11b0 : decide (0 ≤ x10_1) = true := decide_eq_true c11
                clear c11
                by_cases c12 : x10_1 < (l1.length : Int)
                · rw [if_pos c12] at H
                  have c12b0 : decide (x10_1 < (l1.length : Int)) = true := decide_eq_true c12
                  clear c12
                  have HC13 := Aside0.mk H
                  clear H
                  have p151 : 0 ≤ (x10_1 : Int) := of_decide_eq_true (by first | (with_reducible assumption) | assumption)
                  have q151 : x10_1 < (l1.length : Int) := of_decide_eq_true (by first | (with_reducible assumption) | assumption)
                  obtain ⟨ad151, e151, hx151_0⟩ := Kd.at_int HR1.out x10_1 p151 q151
                  cases e151
                  replace hx151_0 := (HB.out.cell (World.block_lt_of_cell? w _ hx151_0)).trans hx151_0
                  replace p151 := eq_true p151
                  replace q151 := eq_true q151
                  go_upto_if 49 with (fail)
                  go_cut [8] (fun v8 wc => ∃ (kq : Nat) (x8_12 : Int) (x149000_12 : Int) (x149001_12 : Int) (x149002_12 : Int), v8 = .int .i64 x8_12 ∧ Aside0 (monocoquelaw32_LifeBounds.j2 kq l1 (wrap64 (Int.tmod (IntKind.u64.wrap (a0)) 20)) x8_12 x9_1 x10_1 x149000_12 x149001_12 x149002_12 = some r) ∧ Aside0 (kq ≤ kj7) ∧ Aside0 (IsS89 w wc g148 x149000_12 x149001_12 x149002_12) ∧ Aside0 (Below w.heap.size w wc))
                  case first =>
                    have H := HC13.out
                    clear HC13
                    by_cases c14 : (wrap64 (4 + (wrap64 (Int.tmod (IntKind.u64.wrap (rd l1 x10_1)) 4)))) = 7
                    · rw [if_pos c14] at H
                      have c14b0 : ((wrap64 (4 + (wrap64 (Int.tmod (IntKind.u64.wrap (rd l1 x10_1)) 4)))) == 7) = true := beq_iff_eq.mpr c14
                      have c14b1 : ((wrap64 (4 + (wrap64 (Int.tmod (IntKind.u64.wrap (rd l1 x10_1)) 4)))) != 7) = false := bne_eq_false_iff_eq.mpr c14
                      clear c14
                      (first | rw [c14b0] | (simp only [i64_w, i32_w]; rw [c14b0]) | skip)
                      replace H := Option.bind_eq_some_iff.mp H
                      obtain ⟨⟨t152, t153, t154, t155⟩, A150, H⟩ := H
                      replace H : (monocoquelaw32_LifeBounds.j2 kj7 l1 (wrap64 (Int.tmod (IntKind.u64.wrap (a0)) 20)) x8_1 x9_1 x10_1 t153 t154 t155) = some r := H
                      have A15 := Aside0.mk A150
                      clear A150
                      have H' := Aside0.mk H
                      clear H
                      go_wp2_with (first | ((with_reducible refine gate_callee (f := 31) rfl ?_); refine goesL_ (some 51) rfl rfl Try.func31 (by kernel_rfl) rfl #[.pointer (some ⟨g148, 0, none⟩)] rfl (by (try simp only [List.map_toArray, List.map_cons, List.map_nil]); first | done | rfl | (simp only [List.length_drop, List.length_take]; rfl)) ?_; (with_reducible refine (life_Life_Run.calls g148 x149000_1 x149001_1 x149002_1 t152 t153 t154 t155 w _ ?side1 ?side2 A15.out).mono ?_); (case side1 => repeat (first | (with_reducible first | exact HI148.out | apply IsS89.alloc | apply IsS89.drewN | apply IsS89.drew | apply IsS89.set_0 | apply IsS89.set_1 | apply IsS89.set_2) | exact HI148.out)); (case side2 => repeat (first | (with_reducible first | exact HB.out | apply below_alloc | apply pw_below_drewN | apply below_drew1 | refine below_set ?_ (IsS89.ge HI148.out)) | exact HB.out)); rintro e w16 ⟨rfl, hi, hb, hk⟩; refine ⟨_, rfl, ?_⟩; have n0_ := Aside0.mk (hb); have n1_ := Aside0.mk (hi); clear HB; clear HI148; have HB := n0_; have HI148 := n1_; clear n0_ n1_; (try clear hb); (try clear hb2); (try clear hk); (try clear hi)))
                      go_meet
                      case rel => exact ⟨_, (x8_1), (t153), (t154), (t155), (by first | rfl | (simp; done) | (simp [*]; done)), H', ⟨by have := HK1.out; have := HJ7.out; first | omega | exact Nat.le_refl _⟩, ⟨by repeat (first | (with_reducible first | exact HI148.out | apply IsS89.alloc | apply IsS89.drewN | apply IsS89.drew | apply IsS89.set_0 | apply IsS89.set_1 | apply IsS89.set_2) | exact HI148.out)⟩, ⟨by repeat (first | (with_reducible first | exact HB.out | apply below_alloc | apply pw_below_drewN | apply below_drew1 | refine below_set ?_ (IsS89.ge HI148.out)) | exact HB.out)⟩⟩
                    · rw [if_neg c14] at H
                      have c14b0 : ((wrap64 (4 + (wrap64 (Int.tmod (IntKind.u64.wrap (rd l1 x10_1)) 4)))) == 7) = false := beq_eq_false_iff_ne.mpr c14
                      have c14b1 : ((wrap64 (4 + (wrap64 (Int.tmod (IntKind.u64.wrap (rd l1 x10_1)) 4)))) != 7) = true := bne_iff_ne.mpr c14
                      (first | rw [c14b0] | (simp only [i64_w, i32_w]; rw [c14b0]) | skip)
                      replace H := Option.bind_eq_some_iff.mp H
                      obtain ⟨⟨t156, t157, t158, t159, t160, t161⟩, A170, H⟩ := H
                      replace H : (if t157 = true then (monocoquelaw32_LifeBounds.j2 kj7 l1 (wrap64 (Int.tmod (IntKind.u64.wrap (a0)) 20)) (wrap64 (x8_1 + 1)) x9_1 x10_1 t159 t160 t161) else (monocoquelaw32_LifeBounds.j2 kj7 l1 (wrap64 (Int.tmod (IntKind.u64.wrap (a0)) 20)) x8_1 x9_1 x10_1 t159 t160 t161)) = some r := H
                      have A17 := Aside0.mk A170
                      clear A170
                      by_cases c18 : t157 = true
                      · subst c18
                        have H1 : (monocoquelaw32_LifeBounds.j2 kj7 l1 (wrap64 (Int.tmod (IntKind.u64.wrap (a0)) 20)) (wrap64 (x8_1 + 1)) x9_1 x10_1 t159 t160 t161) = some r := by rw [if_pos rfl] at H; exact H
                        clear H
                        have H := H1
                        clear H1
                        have H' := Aside0.mk H
                        clear H
                        go_wp2_with (first | ((with_reducible refine gate_callee (f := 32) rfl ?_); refine goesL_ (some 55) rfl rfl Try.func32 (by kernel_rfl) rfl #[.pointer (some ⟨g148, 0, none⟩), .int .i64 (wrap64 (4 + (wrap64 (Int.tmod (IntKind.u64.wrap (rd l1 x10_1)) 4))))] rfl (by (try simp only [List.map_toArray, List.map_cons, List.map_nil]); first | done | rfl | (simp only [List.length_drop, List.length_take]; rfl)) ?_; (with_reducible refine (life_Life_Do.calls kj7 g148 x149000_1 x149001_1 x149002_1 (wrap64 (4 + (wrap64 (Int.tmod (IntKind.u64.wrap (rd l1 x10_1)) 4)))) t156 true t158 t159 t160 t161 w _ ?side1 ?side2 A17.out).mono ?_); (case side1 => repeat (first | (with_reducible first | exact HI148.out | apply IsS89.alloc | apply IsS89.drewN | apply IsS89.drew | apply IsS89.set_0 | apply IsS89.set_1 | apply IsS89.set_2) | exact HI148.out)); (case side2 => repeat (first | (with_reducible first | exact HB.out | apply below_alloc | apply pw_below_drewN | apply below_drew1 | refine below_set ?_ (IsS89.ge HI148.out)) | exact HB.out)); rintro e w19 ⟨rfl, hi, hb, hk⟩; refine ⟨_, rfl, ?_⟩; have n0_ := Aside0.mk (hb); have n1_ := Aside0.mk (hi); clear HB; clear HI148; have HB := n0_; have HI148 := n1_; clear n0_ n1_; (try clear hb); (try clear hb2); (try clear hk); (try clear hi)))
                        go_meet
                        case rel => exact ⟨_, (wrap64 (x8_1 + 1)), (t159), (t160), (t161), (by first | rfl | (simp; done) | (simp [*]; done)), H', ⟨by have := HK1.out; have := HJ7.out; first | omega | exact Nat.le_refl _⟩, ⟨by repeat (first | (with_reducible first | exact HI148.out | apply IsS89.alloc | apply IsS89.drewN | apply IsS89.drew | apply IsS89.set_0 | apply IsS89.set_1 | apply IsS89.set_2) | exact HI148.out)⟩, ⟨by repeat (first | (with_reducible first | exact HB.out | apply below_alloc | apply pw_below_drewN | apply below_drew1 | refine below_set ?_ (IsS89.ge HI148.out)) | exact HB.out)⟩⟩
                      · replace c18 := Bool.eq_false_iff.mpr c18
                        subst c18
                        have H1 : (monocoquelaw32_LifeBounds.j2 kj7 l1 (wrap64 (Int.tmod (IntKind.u64.wrap (a0)) 20)) x8_1 x9_1 x10_1 t159 t160 t161) = some r := by rw [if_neg (show ¬ (false = true) by decide)] at H; exact H
                        clear H
                        have H := H1
                        clear H1
                        have H' := Aside0.mk H
                        clear H
                        go_wp2_with (first | ((with_reducible refine gate_callee (f := 32) rfl ?_); refine goesL_ (some 55) rfl rfl Try.func32 (by kernel_rfl) rfl #[.pointer (some ⟨g148, 0, none⟩), .int .i64 (wrap64 (4 + (wrap64 (Int.tmod (IntKind.u64.wrap (rd l1 x10_1)) 4))))] rfl (by (try simp only [List.map_toArray, List.map_cons, List.map_nil]); first | done | rfl | (simp only [List.length_drop, List.length_take]; rfl)) ?_; (with_reducible refine (life_Life_Do.calls kj7 g148 x149000_1 x149001_1 x149002_1 (wrap64 (4 + (wrap64 (Int.tmod (IntKind.u64.wrap (rd l1 x10_1)) 4)))) t156 false t158 t159 t160 t161 w _ ?side1 ?side2 A17.out).mono ?_); (case side1 => repeat (first | (with_reducible first | exact HI148.out | apply IsS89.alloc | apply IsS89.drewN | apply IsS89.drew | apply IsS89.set_0 | apply IsS89.set_1 | apply IsS89.set_2) | exact HI148.out)); (case side2 => repeat (first | (with_reducible first | exact HB.out | apply below_alloc | apply pw_below_drewN | apply below_drew1 | refine below_set ?_ (IsS89.ge HI148.out)) | exact HB.out)); rintro e w20 ⟨rfl, hi, hb, hk⟩; refine ⟨_, rfl, ?_⟩; have n0_ := Aside0.mk (hb); have n1_ := Aside0.mk (hi); clear HB; clear HI148; have HB := n0_; have HI148 := n1_; clear n0_ n1_; (try clear hb); (try clear hb2); (try clear hk); (try clear hi)))
                        go_meet
                        case rel => exact ⟨_, (x8_1), (t159), (t160), (t161), (by first | rfl | (simp; done) | (simp [*]; done)), H', ⟨by have := HK1.out; have := HJ7.out; first | omega | exact Nat.le_refl _⟩, ⟨by repeat (first | (with_reducible first | exact HI148.out | apply IsS89.alloc | apply IsS89.drewN | apply IsS89.drew | apply IsS89.set_0 | apply IsS89.set_1 | apply IsS89.set_2) | exact HI148.out)⟩, ⟨by repeat (first | (with_reducible first | exact HB.out | apply below_alloc | apply pw_below_drewN | apply below_drew1 | refine below_set ?_ (IsS89.ge HI148.out)) | exact HB.out)⟩⟩
                  case rest =>
                    clear HC13
                    try clear c1
                    try clear p1
                    try clear q1
                    try clear hx1
                    try clear c2
                    try clear p2
                    try clear c3
                    try clear c5
                    try clear p6
                    try clear c9
                    try clear c9b0
                    try clear c10
                    try clear c11
                    try clear c11b0
                    try clear c12
                    try clear c12b0
                    try clear c14
                    try clear c14b0
                    try clear c14b1
                    try clear p15
                    try clear q15
                    try clear hx15
                    try clear c18
                    try clear hx151_0
                    try clear p151
                    try clear p2
                    try clear p6
                    try clear q151
                    obtain ⟨kq, x8_12, x149000_12, x149001_12, x149002_12, rfl, HA, HJ12, HI148, HB⟩ := hcut
                    cases kq with
                    | zero => exact absurd HA.out (by simp [monocoquelaw32_LifeBounds.j2])
                    | succ kj12 =>
                      have H := HA.out
                      clear HA
                      simp only [monocoquelaw32_LifeBounds.j2] at H
                      have HC21 := Aside0.mk H
                      clear H
                      go_upto_region 15 with (fail)
                      go_cut [67] (fun v67 wc => ∃ (kq : Nat) (x67_20 : Bool) (x149000_20 : Int) (x149001_20 : Int) (x149002_20 : Int), v67 = .bool x67_20 ∧ Aside0 (monocoquelaw32_LifeBounds.j3 kq l1 (wrap64 (Int.tmod (IntKind.u64.wrap (a0)) 20)) x8_12 x10_1 x67_20 x149000_20 x149001_20 x149002_20 = some r) ∧ Aside0 (kq ≤ kj12) ∧ Aside0 (IsS89 w wc g148 x149000_20 x149001_20 x149002_20) ∧ Aside0 (Below w.heap.size w wc))
                      case first =>
                        have H := HC21.out
                        clear HC21
                        by_cases c22 : x9_1 = true
                        · subst c22
                          have H1 : ((life_Life_Mode.f x149000_12 x149001_12 x149002_12).bind fun bt162 => (monocoquelaw32_LifeBounds.j3 kj12 l1 (wrap64 (Int.tmod (IntKind.u64.wrap (a0)) 20)) x8_12 x10_1 (bt162.1 != 0) bt162.2.1 bt162.2.2.1 bt162.2.2.2)) = some r := by rw [if_pos rfl] at H; exact H
                          clear H
                          have H := H1
                          clear H1
                          replace H := Option.bind_eq_some_iff.mp H
                          obtain ⟨⟨t162, t163, t164, t165⟩, A230, H⟩ := H
                          replace H : (monocoquelaw32_LifeBounds.j3 kj12 l1 (wrap64 (Int.tmod (IntKind.u64.wrap (a0)) 20)) x8_12 x10_1 (t162 != 0) t163 t164 t165) = some r := H
                          have A23 := Aside0.mk A230
                          clear A230
                          have H' := Aside0.mk H
                          clear H
                          go_wp2_with (first | (go_at_call 33; (with_reducible refine (life_Life_Mode.calls g148 x149000_12 x149001_12 x149002_12 t162 t163 t164 t165 w _ ?side1 ?side2 A23.out).mono ?_); (case side1 => repeat (first | (with_reducible first | exact HI148.out | apply IsS89.alloc | apply IsS89.drewN | apply IsS89.drew | apply IsS89.set_0 | apply IsS89.set_1 | apply IsS89.set_2) | exact HI148.out)); (case side2 => repeat (first | (with_reducible first | exact HB.out | apply below_alloc | apply pw_below_drewN | apply below_drew1 | refine below_set ?_ (IsS89.ge HI148.out)) | exact HB.out)); rintro e w24 ⟨rfl, hi, hb, hk⟩; have n0_ := Aside0.mk (hb); have n1_ := Aside0.mk (hi); clear HB; clear HI148; have HB := n0_; have HI148 := n1_; clear n0_ n1_; (try clear hb); (try clear hb2); (try clear hk); (try clear hi)))
                          go_meet
                          case rel => exact ⟨_, ((t162 != 0)), (t163), (t164), (t165), (by first | rfl | (simp; done) | (simp [*]; done)), H', ⟨by have := HK1.out; have := HJ7.out; have := HJ12.out; first | omega | exact Nat.le_refl _⟩, ⟨by repeat (first | (with_reducible first | exact HI148.out | apply IsS89.alloc | apply IsS89.drewN | apply IsS89.drew | apply IsS89.set_0 | apply IsS89.set_1 | apply IsS89.set_2) | exact HI148.out)⟩, ⟨by repeat (first | (with_reducible first | exact HB.out | apply below_alloc | apply pw_below_drewN | apply below_drew1 | refine below_set ?_ (IsS89.ge HI148.out)) | exact HB.out)⟩⟩
                        · replace c22 := Bool.eq_false_iff.mpr c22
                          subst c22
                          have H1 : (monocoquelaw32_LifeBounds.j3 kj12 l1 (wrap64 (Int.tmod (IntKind.u64.wrap (a0)) 20)) x8_12 x10_1 false x149000_12 x149001_12 x149002_12) = some r := by rw [if_neg (show ¬ (false = true) by decide)] at H; exact H
                          clear H
                          have H := H1
                          clear H1
                          have H' := Aside0.mk H
                          clear H
                          go_wp2
                          go_meet
                          case rel => exact ⟨_, (false), (x149000_12), (x149001_12), (x149002_12), (by first | rfl | (simp; done) | (simp [*]; done)), H', ⟨by have := HK1.out; have := HJ7.out; have := HJ12.out; first | omega | exact Nat.le_refl _⟩, ⟨by repeat (first | (with_reducible first | exact HI148.out | apply IsS89.alloc | apply IsS89.drewN | apply IsS89.drew | apply IsS89.set_0 | apply IsS89.set_1 | apply IsS89.set_2) | exact HI148.out)⟩, ⟨by repeat (first | (with_reducible first | exact HB.out | apply below_alloc | apply pw_below_drewN | apply below_drew1 | refine below_set ?_ (IsS89.ge HI148.out)) | exact HB.out)⟩⟩
                      case rest =>
                        clear HC21
                        try clear c1
                        try clear p1
                        try clear q1
                        try clear hx1
                        try clear c2
                        try clear p2
                        try clear c3
                        try clear c5
                        try clear p6
                        try clear c9
                        try clear c9b0
                        try clear c10
                        try clear c11
                        try clear c11b0
                        try clear c12
                        try clear c12b0
                        try clear c14
                        try clear c14b0
                        try clear c14b1
                        try clear p15
                        try clear q15
                        try clear hx15
                        try clear c18
                        try clear c22
                        try clear hx151_0
                        try clear p1
                        try clear p15
                        try clear p151
                        try clear p2
                        try clear p6
                        try clear q1
                        try clear q15
                        try clear q151
                        obtain ⟨kq, x67_20, x149000_20, x149001_20, x149002_20, rfl, HA, HJ20, HI148, HB⟩ := hcut
                        cases kq with
                        | zero => exact absurd HA.out (by simp [monocoquelaw32_LifeBounds.j3])
                        | succ kj20 =>
                          have H := HA.out
                          clear HA
                          simp only [monocoquelaw32_LifeBounds.j3] at H
                          by_cases c25 : x67_20 = true
                          · subst c25
                            have H1 : (some false) = some r := by rw [if_pos rfl] at H; exact H
                            clear H
                            have H := H1
                            clear H1
                            obtain rfl := Option.some.inj H
                            go_wp2
                            go_ret
                            exact ⟨by first | rfl | (simp [errW_none, errW_some] <;> rfl) | (simp [*, errW_none, errW_some] <;> rfl), by repeat (first | (with_reducible first | exact HB.out | apply below_alloc | apply pw_below_drewN | apply below_drew1 | refine below_set ?_ (IsS89.ge HI148.out)) | exact HB.out)⟩
                          · replace c25 := Bool.eq_false_iff.mpr c25
                            subst c25
                            have H1 : ((life_Life_Mode.f x149000_20 x149001_20 x149002_20).bind fun bt166 => (if x8_12 > (wrap64 (Int.tmod (IntKind.u64.wrap (a0)) 20)) then (some false) else ((life_Life_Starts.f bt166.2.1 bt166.2.2.1 bt166.2.2.2).bind fun bt170 => (if bt170.1 = x8_12 then ((life_Life_Left.f bt170.2.1 bt170.2.2.1 bt170.2.2.2).bind fun bt174 => (if bt174.1 = (wrap64 ((wrap64 (Int.tmod (IntKind.u64.wrap (a0)) 20)) - x8_12)) then (monocoquelaw32_LifeBounds.l0 kj20 l1 (wrap64 (Int.tmod (IntKind.u64.wrap (a0)) 20)) x8_12 (bt166.1 == 0) (wrap64 (x10_1 + 1)) bt174.2.1 bt174.2.2.1 bt174.2.2.2) else (some false))) else (some false))))) = some r := by rw [if_neg (show ¬ (false = true) by decide)] at H; exact H
                            clear H
                            have H := H1
                            clear H1
                            replace H := Option.bind_eq_some_iff.mp H
                            obtain ⟨⟨t166, t167, t168, t169⟩, A260, H⟩ := H
                            replace H : (if x8_12 > (wrap64 (Int.tmod (IntKind.u64.wrap (a0)) 20)) then (some false) else ((life_Life_Starts.f t167 t168 t169).bind fun bt170 => (if bt170.1 = x8_12 then ((life_Life_Left.f bt170.2.1 bt170.2.2.1 bt170.2.2.2).bind fun bt174 => (if bt174.1 = (wrap64 ((wrap64 (Int.tmod (IntKind.u64.wrap (a0)) 20)) - x8_12)) then (monocoquelaw32_LifeBounds.l0 kj20 l1 (wrap64 (Int.tmod (IntKind.u64.wrap (a0)) 20)) x8_12 (t166 == 0) (wrap64 (x10_1 + 1)) bt174.2.1 bt174.2.2.1 bt174.2.2.2) else (some false))) else (some false)))) = some r := H
                            have A26 := Aside0.mk A260
                            clear A260
                            by_cases c27 : x8_12 > (wrap64 (Int.tmod (IntKind.u64.wrap (a0)) 20))
                            · rw [if_pos c27] at H
                              have c27b0 : decide ((wrap64 (Int.tmod (IntKind.u64.wrap (a0)) 20)) < x8_12) = true := decide_eq_true c27
                              clear c27
                              obtain rfl := Option.some.inj H
                              go_wp2_with (first | ((with_reducible refine gate_callee (f := 33) rfl ?_); refine goesL_ (some 69) rfl rfl Try.func33 (by kernel_rfl) rfl #[.pointer (some ⟨g148, 0, none⟩)] rfl (by (try simp only [List.map_toArray, List.map_cons, List.map_nil]); first | done | rfl | (simp only [List.length_drop, List.length_take]; rfl)) ?_; (with_reducible refine (life_Life_Mode.calls g148 x149000_20 x149001_20 x149002_20 t166 t167 t168 t169 w _ ?side1 ?side2 A26.out).mono ?_); (case side1 => repeat (first | (with_reducible first | exact HI148.out | apply IsS89.alloc | apply IsS89.drewN | apply IsS89.drew | apply IsS89.set_0 | apply IsS89.set_1 | apply IsS89.set_2) | exact HI148.out)); (case side2 => repeat (first | (with_reducible first | exact HB.out | apply below_alloc | apply pw_below_drewN | apply below_drew1 | refine below_set ?_ (IsS89.ge HI148.out)) | exact HB.out)); rintro e w28 ⟨rfl, hi, hb, hk⟩; refine ⟨_, rfl, ?_⟩; have n0_ := Aside0.mk (hb); have n1_ := Aside0.mk (hi); clear HB; clear HI148; have HB := n0_; have HI148 := n1_; clear n0_ n1_; (try clear hb); (try clear hb2); (try clear hk); (try clear hi)))
                              go_ret
                              exact ⟨by first | rfl | (simp [errW_none, errW_some] <;> rfl) | (simp [*, errW_none, errW_some] <;> rfl), by repeat (first | (with_reducible first | exact HB.out | apply below_alloc | apply pw_below_drewN | apply below_drew1 | refine below_set ?_ (IsS89.ge HI148.out)) | exact HB.out)⟩
                            · rw [if_neg c27] at H
                              have c27b0 : decide ((wrap64 (Int.tmod (IntKind.u64.wrap (a0)) 20)) < x8_12) = false := decide_eq_false c27
                              clear c27
                              replace H := Option.bind_eq_some_iff.mp H
                              obtain ⟨⟨t170, t171, t172, t173⟩, A290, H⟩ := H
                              replace H : (if t170 = x8_12 then ((life_Life_Left.f t171 t172 t173).bind fun bt174 => (if bt174.1 = (wrap64 ((wrap64 (Int.tmod (IntKind.u64.wrap (a0)) 20)) - x8_12)) then (monocoquelaw32_LifeBounds.l0 kj20 l1 (wrap64 (Int.tmod (IntKind.u64.wrap (a0)) 20)) x8_12 (t166 == 0) (wrap64 (x10_1 + 1)) bt174.2.1 bt174.2.2.1 bt174.2.2.2) else (some false))) else (some false)) = some r := H
                              have A29 := Aside0.mk A290
                              clear A290
                              by_cases c30 : t170 = x8_12
                              · rw [if_pos c30] at H
                                have c30b0 : (t170 == x8_12) = true := beq_iff_eq.mpr c30
                                have c30b1 : (t170 != x8_12) = false := bne_eq_false_iff_eq.mpr c30
                                clear c30
                                replace H := Option.bind_eq_some_iff.mp H
                                obtain ⟨⟨t174, t175, t176, t177⟩, A310, H⟩ := H
                                replace H : (if t174 = (wrap64 ((wrap64 (Int.tmod (IntKind.u64.wrap (a0)) 20)) - x8_12)) then (monocoquelaw32_LifeBounds.l0 kj20 l1 (wrap64 (Int.tmod (IntKind.u64.wrap (a0)) 20)) x8_12 (t166 == 0) (wrap64 (x10_1 + 1)) t175 t176 t177) else (some false)) = some r := H
                                have A31 := Aside0.mk A310
                                clear A310
                                by_cases c32 : t174 = (wrap64 ((wrap64 (Int.tmod (IntKind.u64.wrap (a0)) 20)) - x8_12))
                                · rw [if_pos c32] at H
                                  have c32b0 : (t174 == (wrap64 ((wrap64 (Int.tmod (IntKind.u64.wrap (a0)) 20)) - x8_12))) = true := beq_iff_eq.mpr c32
                                  have c32b1 : (t174 != (wrap64 ((wrap64 (Int.tmod (IntKind.u64.wrap (a0)) 20)) - x8_12))) = false := bne_eq_false_iff_eq.mpr c32
                                  clear c32
                                  have H' := Aside0.mk H
                                  clear H
                                  go_wp2_with (first | ((with_reducible refine gate_callee (f := 33) rfl ?_); refine goesL_ (some 69) rfl rfl Try.func33 (by kernel_rfl) rfl #[.pointer (some ⟨g148, 0, none⟩)] rfl (by (try simp only [List.map_toArray, List.map_cons, List.map_nil]); first | done | rfl | (simp only [List.length_drop, List.length_take]; rfl)) ?_; (with_reducible refine (life_Life_Mode.calls g148 x149000_20 x149001_20 x149002_20 t166 t167 t168 t169 w _ ?side1 ?side2 A26.out).mono ?_); (case side1 => repeat (first | (with_reducible first | exact HI148.out | apply IsS89.alloc | apply IsS89.drewN | apply IsS89.drew | apply IsS89.set_0 | apply IsS89.set_1 | apply IsS89.set_2) | exact HI148.out)); (case side2 => repeat (first | (with_reducible first | exact HB.out | apply below_alloc | apply pw_below_drewN | apply below_drew1 | refine below_set ?_ (IsS89.ge HI148.out)) | exact HB.out)); rintro e w33 ⟨rfl, hi, hb, hk⟩; refine ⟨_, rfl, ?_⟩; have n0_ := Aside0.mk (hb); have n1_ := Aside0.mk (hi); clear HB; clear HI148; have HB := n0_; have HI148 := n1_; clear n0_ n1_; (try clear hb); (try clear hb2); (try clear hk); (try clear hi)) | (go_at_call 34; (with_reducible refine (life_Life_Starts.calls g148 t167 t168 t169 t170 t171 t172 t173 w _ ?side1 ?side2 A29.out).mono ?_); (case side1 => repeat (first | (with_reducible first | exact HI148.out | apply IsS89.alloc | apply IsS89.drewN | apply IsS89.drew | apply IsS89.set_0 | apply IsS89.set_1 | apply IsS89.set_2) | exact HI148.out)); (case side2 => repeat (first | (with_reducible first | exact HB.out | apply below_alloc | apply pw_below_drewN | apply below_drew1 | refine below_set ?_ (IsS89.ge HI148.out)) | exact HB.out)); rintro e w34 ⟨rfl, hi, hb, hk⟩; have n0_ := Aside0.mk (hb); have n1_ := Aside0.mk (hi); clear HB; clear HI148; have HB := n0_; have HI148 := n1_; clear n0_ n1_; (try clear hb); (try clear hb2); (try clear hk); (try clear hi)) | (go_at_call 35; (with_reducible refine (life_Life_Left.calls g148 t171 t172 t173 t174 t175 t176 t177 w _ ?side1 ?side2 A31.out).mono ?_); (case side1 => repeat (first | (with_reducible first | exact HI148.out | apply IsS89.alloc | apply IsS89.drewN | apply IsS89.drew | apply IsS89.set_0 | apply IsS89.set_1 | apply IsS89.set_2) | exact HI148.out)); (case side2 => repeat (first | (with_reducible first | exact HB.out | apply below_alloc | apply pw_below_drewN | apply below_drew1 | refine below_set ?_ (IsS89.ge HI148.out)) | exact HB.out)); rintro e w35 ⟨rfl, hi, hb, hk⟩; have n0_ := Aside0.mk (hb); have n1_ := Aside0.mk (hi); clear HB; clear HI148; have HB := n0_; have HI148 := n1_; clear n0_ n1_; (try clear hb); (try clear hb2); (try clear hk); (try clear hi)))
                                  go_roundg kj20
                                  case measure => have := HK1.out; have := HJ7.out; have := HJ12.out; have := HJ20.out; omega
                                  case rel => exact ⟨(x8_12), ((t166 == 0)), (wrap64 (x10_1 + 1)), (t175), (t176), (t177), (by first | rfl | (simp; done) | (simp [*]; done)), (by first | rfl | (simp; done) | (simp [*]; done)), (by first | rfl | (simp; done) | (simp [*]; done)), H', ⟨by have := HK1.out; have := HJ7.out; have := HJ12.out; have := HJ20.out; omega⟩, ⟨by repeat (first | (with_reducible first | exact HI148.out | apply IsS89.alloc | apply IsS89.drewN | apply IsS89.drew | apply IsS89.set_0 | apply IsS89.set_1 | apply IsS89.set_2) | exact HI148.out)⟩, ⟨by repeat (first | (with_reducible first | exact HB.out | apply below_alloc | apply pw_below_drewN | apply below_drew1 | refine below_set ?_ (IsS89.ge HI148.out)) | exact HB.out)⟩⟩
                                · rw [if_neg c32] at H
                                  have c32b0 : (t174 == (wrap64 ((wrap64 (Int.tmod (IntKind.u64.wrap (a0)) 20)) - x8_12))) = false := beq_eq_false_iff_ne.mpr c32
                                  have c32b1 : (t174 != (wrap64 ((wrap64 (Int.tmod (IntKind.u64.wrap (a0)) 20)) - x8_12))) = true := bne_iff_ne.mpr c32
                                  obtain rfl := Option.some.inj H
                                  go_wp2_with (first | ((with_reducible refine gate_callee (f := 33) rfl ?_); refine goesL_ (some 69) rfl rfl Try.func33 (by kernel_rfl) rfl #[.pointer (some ⟨g148, 0, none⟩)] rfl (by (try simp only [List.map_toArray, List.map_cons, List.map_nil]); first | done | rfl | (simp only [List.length_drop, List.length_take]; rfl)) ?_; (with_reducible refine (life_Life_Mode.calls g148 x149000_20 x149001_20 x149002_20 t166 t167 t168 t169 w _ ?side1 ?side2 A26.out).mono ?_); (case side1 => repeat (first | (with_reducible first | exact HI148.out | apply IsS89.alloc | apply IsS89.drewN | apply IsS89.drew | apply IsS89.set_0 | apply IsS89.set_1 | apply IsS89.set_2) | exact HI148.out)); (case side2 => repeat (first | (with_reducible first | exact HB.out | apply below_alloc | apply pw_below_drewN | apply below_drew1 | refine below_set ?_ (IsS89.ge HI148.out)) | exact HB.out)); rintro e w36 ⟨rfl, hi, hb, hk⟩; refine ⟨_, rfl, ?_⟩; have n0_ := Aside0.mk (hb); have n1_ := Aside0.mk (hi); clear HB; clear HI148; have HB := n0_; have HI148 := n1_; clear n0_ n1_; (try clear hb); (try clear hb2); (try clear hk); (try clear hi)) | (go_at_call 34; (with_reducible refine (life_Life_Starts.calls g148 t167 t168 t169 t170 t171 t172 t173 w _ ?side1 ?side2 A29.out).mono ?_); (case side1 => repeat (first | (with_reducible first | exact HI148.out | apply IsS89.alloc | apply IsS89.drewN | apply IsS89.drew | apply IsS89.set_0 | apply IsS89.set_1 | apply IsS89.set_2) | exact HI148.out)); (case side2 => repeat (first | (with_reducible first | exact HB.out | apply below_alloc | apply pw_below_drewN | apply below_drew1 | refine below_set ?_ (IsS89.ge HI148.out)) | exact HB.out)); rintro e w37 ⟨rfl, hi, hb, hk⟩; have n0_ := Aside0.mk (hb); have n1_ := Aside0.mk (hi); clear HB; clear HI148; have HB := n0_; have HI148 := n1_; clear n0_ n1_; (try clear hb); (try clear hb2); (try clear hk); (try clear hi)) | (go_at_call 35; (with_reducible refine (life_Life_Left.calls g148 t171 t172 t173 t174 t175 t176 t177 w _ ?side1 ?side2 A31.out).mono ?_); (case side1 => repeat (first | (with_reducible first | exact HI148.out | apply IsS89.alloc | apply IsS89.drewN | apply IsS89.drew | apply IsS89.set_0 | apply IsS89.set_1 | apply IsS89.set_2) | exact HI148.out)); (case side2 => repeat (first | (with_reducible first | exact HB.out | apply below_alloc | apply pw_below_drewN | apply below_drew1 | refine below_set ?_ (IsS89.ge HI148.out)) | exact HB.out)); rintro e w38 ⟨rfl, hi, hb, hk⟩; have n0_ := Aside0.mk (hb); have n1_ := Aside0.mk (hi); clear HB; clear HI148; have HB := n0_; have HI148 := n1_; clear n0_ n1_; (try clear hb); (try clear hb2); (try clear hk); (try clear hi)))
                                  go_ret
                                  exact ⟨by first | rfl | (simp [errW_none, errW_some] <;> rfl) | (simp [*, errW_none, errW_some] <;> rfl), by repeat (first | (with_reducible first | exact HB.out | apply below_alloc | apply pw_below_drewN | apply below_drew1 | refine below_set ?_ (IsS89.ge HI148.out)) | exact HB.out)⟩
                              · rw [if_neg c30] at H
                                have c30b0 : (t170 == x8_12) = false := beq_eq_false_iff_ne.mpr c30
                                have c30b1 : (t170 != x8_12) = true := bne_iff_ne.mpr c30
                                obtain rfl := Option.some.inj H
                                go_wp2_with (first | ((with_reducible refine gate_callee (f := 33) rfl ?_); refine goesL_ (some 69) rfl rfl Try.func33 (by kernel_rfl) rfl #[.pointer (some ⟨g148, 0, none⟩)] rfl (by (try simp only [List.map_toArray, List.map_cons, List.map_nil]); first | done | rfl | (simp only [List.length_drop, List.length_take]; rfl)) ?_; (with_reducible refine (life_Life_Mode.calls g148 x149000_20 x149001_20 x149002_20 t166 t167 t168 t169 w _ ?side1 ?side2 A26.out).mono ?_); (case side1 => repeat (first | (with_reducible first | exact HI148.out | apply IsS89.alloc | apply IsS89.drewN | apply IsS89.drew | apply IsS89.set_0 | apply IsS89.set_1 | apply IsS89.set_2) | exact HI148.out)); (case side2 => repeat (first | (with_reducible first | exact HB.out | apply below_alloc | apply pw_below_drewN | apply below_drew1 | refine below_set ?_ (IsS89.ge HI148.out)) | exact HB.out)); rintro e w39 ⟨rfl, hi, hb, hk⟩; refine ⟨_, rfl, ?_⟩; have n0_ := Aside0.mk (hb); have n1_ := Aside0.mk (hi); clear HB; clear HI148; have HB := n0_; have HI148 := n1_; clear n0_ n1_; (try clear hb); (try clear hb2); (try clear hk); (try clear hi)) | (go_at_call 34; (with_reducible refine (life_Life_Starts.calls g148 t167 t168 t169 t170 t171 t172 t173 w _ ?side1 ?side2 A29.out).mono ?_); (case side1 => repeat (first | (with_reducible first | exact HI148.out | apply IsS89.alloc | apply IsS89.drewN | apply IsS89.drew | apply IsS89.set_0 | apply IsS89.set_1 | apply IsS89.set_2) | exact HI148.out)); (case side2 => repeat (first | (with_reducible first | exact HB.out | apply below_alloc | apply pw_below_drewN | apply below_drew1 | refine below_set ?_ (IsS89.ge HI148.out)) | exact HB.out)); rintro e w40 ⟨rfl, hi, hb, hk⟩; have n0_ := Aside0.mk (hb); have n1_ := Aside0.mk (hi); clear HB; clear HI148; have HB := n0_; have HI148 := n1_; clear n0_ n1_; (try clear hb); (try clear hb2); (try clear hk); (try clear hi)))
                                go_ret
                                exact ⟨by first | rfl | (simp [errW_none, errW_some] <;> rfl) | (simp [*, errW_none, errW_some] <;> rfl), by repeat (first | (with_reducible first | exact HB.out | apply below_alloc | apply pw_below_drewN | apply below_drew1 | refine below_set ?_ (IsS89.ge HI148.out)) | exact HB.out)⟩
                · rw [if_neg c12] at H
                  exact absurd H (by simp)
              · rw [if_neg c11] at H
                exact absurd H (by simp)
            · replace c10 := Bool.eq_false_iff.mpr c10
              subst c10
              have H1 : (some true) = some r := by rw [if_neg (show ¬ (false = true) by decide)] at H; exact H
              clear H
              have H := H1
              clear H1
              obtain rfl := Option.some.inj H
              go_wp2
              go_ret
              exact ⟨by first | rfl | (simp [errW_none, errW_some] <;> rfl) | (simp [*, errW_none, errW_some] <;> rfl), by repeat (first | (with_reducible first | exact HB.out | apply below_alloc | apply pw_below_drewN | apply below_drew1 | refine below_set ?_ (IsS89.ge HI148.out)) | exact HB.out)⟩
  · replace c5 := Bool.eq_false_iff.mpr c5
    subst c5
    have H1 : (some false) = some r := by rw [if_neg (show ¬ (false = true) by decide)] at H; exact H
    clear H
    have H := H1
    clear H1
    obtain rfl := Option.some.inj H
    go_enter Try.func9, Try.ntmps9
    go_wp2_with (first | ((with_reducible refine gate_callee (f := 29) rfl ?_); refine goesL_ (some 21) rfl rfl Try.func29 (by kernel_rfl) rfl #[.int .i64 (wrap64 (Int.tmod (IntKind.u64.wrap (a0)) 20))] rfl (by (try simp only [List.map_toArray, List.map_cons, List.map_nil]); first | done | rfl | (simp only [List.length_drop, List.length_take]; rfl)) ?_; (with_reducible refine (life_New.calls (wrap64 (Int.tmod (IntKind.u64.wrap (a0)) 20)) t145 t146 t147 t149 w _ ?side1 A3.out).mono ?_); (case side1 => repeat (first | (with_reducible first | exact HB.out | apply below_alloc | apply pw_below_drewN | apply below_drew1) | exact HB.out)); rintro e w41 ⟨g148, rfl, hi, hb, hb2⟩; refine ⟨_, rfl, ?_⟩; have n0_ := Aside0.mk (hb); have n1_ := Aside0.mk (hi); clear HB; have HB := n0_; have HI148 := n1_; clear n0_ n1_; (try clear hb); (try clear hb2); (try clear hk); (try clear hi)) | (go_at_call 30; (with_reducible refine (monocoquelaw32_told.calls k  false _ A4.out).mono ?_); rintro e w42 ⟨rfl, hb⟩; have n0_ := Aside0.mk (IsS89.below (by repeat (first | (with_reducible first | exact HI148.out | apply IsS89.alloc | apply IsS89.drewN | apply IsS89.drew | apply IsS89.set_0 | apply IsS89.set_1 | apply IsS89.set_2) | exact HI148.out)) hb); have n1_ := Aside0.mk (below_step (by repeat (first | (with_reducible first | exact HB.out | apply below_alloc | apply pw_below_drewN | apply below_drew1 | refine below_set ?_ (IsS89.ge HI148.out)) | exact HB.out)) hb); clear HI148; clear HB; have HI148 := n0_; have HB := n1_; clear n0_ n1_; (try clear hb); (try clear hb2); (try clear hk); (try clear hi)))
    go_ret
    exact ⟨by first | rfl | (simp [errW_none, errW_some] <;> rfl) | (simp [*, errW_none, errW_some] <;> rfl), by repeat (first | (with_reducible first | exact HB.out | apply below_alloc | apply pw_below_drewN | apply below_drew1 | refine below_set ?_ (IsS89.ge HI148.out)) | exact HB.out)⟩

/-- THE ONE PURE STATEMENT of monocoquelaw32_LifeBounds: yours. -/
def monocoquelaw32_LifeBounds.Pure : Prop := ∀ (a0 : Int) (l1 : List Int), (Lit.int .i64 a0).wf = true → l1.length ≤ maxLen → l1.length * 8 ≤ 140737488351232 → (∀ x ∈ l1, (Lit.int .i64 x).wf = true) → ∃ k, monocoquelaw32_LifeBounds.f k a0 l1 = some true
theorem monocoquelaw32_LifeBounds.walk (P : monocoquelaw32_LifeBounds.Pure) (a0 : Int) (a1 : Option Addr) (len1 cap1 : Nat) (z1 : List Int) (w : World) (w0 : (Lit.int .i64 a0).wf = true) (w1 : (a1 = none ∧ len1 = 0 ∧ cap1 = 0 ∧ z1 = []) ∨ ∃ x, a1 = some x ∧ len1 ≤ cap1 ∧ cap1 ≤ maxLen ∧ z1.length = cap1 ∧ (∀ i, i < z1.length → w.cell? (x.add i) = some (.int .i64 (z1.getD i 0))) ∧ ∀ n ∈ z1, (Lit.int .i64 n).wf = true) (y1 : len1 * 8 ≤ 140737488351232) :
    Calls Try.prog 9 #[.int .i64 a0, .slice a1 len1 cap1] w fun e w' => e = .returned (.bool true) ∧ Below w.heap.size w w' := by
  obtain ⟨l1, rfl, hr1, hm1, hw1, hc1⟩ := ReadsInt.ofRowC w1
  obtain ⟨k, h⟩ := P a0 l1 w0 hm1 y1 hw1
  refine (monocoquelaw32_LifeBounds.calls k a0 _ _ l1 true w (Kd.C_of_reads (d := (0 : Int)) (h1 := fun _ => rfl) hr1) hc1 h).mono ?_
  rintro e w' ⟨rfl, hd⟩
  exact ⟨rfl, hd⟩

end Go.Proofs.Ytpabbpcklgipnaa.PLifeBounds
