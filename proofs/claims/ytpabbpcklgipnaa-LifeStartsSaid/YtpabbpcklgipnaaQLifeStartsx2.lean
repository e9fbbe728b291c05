/- The walks of functions that the law LifeStarts reaches. Written by this session's turn of the kit's printer, not by the kit's own. -/
import Derived.Test.YtpabbpcklgipnaaQLifeStartsx0
import Derived.Test.YtpabbpcklgipnaaQLifeStartsx1
namespace Go.Proofs.Ytpabbpcklgipnaa.PLifeStarts
open Go.RowKit Go.Proofs.YtpabbpcklgipnaaW.PrintWords Go.Proofs.YtpabbpcklgipnaaW.PrintLast Go.Proofs.YtpabbpcklgipnaaW.PrintMore
attribute [local go_sem] max2_int min2_int max_two min_two max_three min_three max_four min_four   -- for this text's walks alone
set_option linter.unusedVariables false
set_option linter.unusedSimpArgs false

/-! ### monocoquelaw32_LifeStarts: function 10 -/
mutual
def monocoquelaw32_LifeStarts.l0 : Nat → List Bool → Int → Int → Int → Int → Int → Option (Bool)
  | 0, _, _, _, _, _, _ => none
  | k + 1, x1, x5, x8, x149000, x149001, x149002 => if x8 < (x1.length : Int) then (monocoquelaw32_LifeStarts.j1 k x1 x5 x8 (decide (x8 < x5)) x149000 x149001 x149002) else (monocoquelaw32_LifeStarts.j1 k x1 x5 x8 false x149000 x149001 x149002)
def monocoquelaw32_LifeStarts.j1 : Nat → List Bool → Int → Int → Bool → Int → Int → Int → Option (Bool)
  | 0, _, _, _, _, _, _, _ => none
  | k + 1, x1, x5, x8, x39, x149000, x149001, x149002 => if x39 = true then (if (Int.tmod x8 3) = 2 then (monocoquelaw32_LifeStarts.j2 k x1 x5 x8 false x149000 x149001 x149002) else ((life_Life_Run.f x149000 x149001 x149002).bind fun bt151 => (monocoquelaw32_LifeStarts.j2 k x1 x5 x8 (bt151.1 != 0) bt151.2.1 bt151.2.2.1 bt151.2.2.2))) else (some true)
def monocoquelaw32_LifeStarts.j2 : Nat → List Bool → Int → Int → Bool → Int → Int → Int → Option (Bool)
  | 0, _, _, _, _, _, _, _ => none
  | k + 1, x1, x5, x8, x50, x149000, x149001, x149002 => if x50 = true then (some false) else ((life_Life_Mode.f x149000 x149001 x149002).bind fun bt155 => (if 0 ≤ x8 then (if x8 < (x1.length : Int) then (if rdOf false x1 x8 = true then (if bt155.1 = 1 then (monocoquelaw32_LifeStarts.j3 k x1 x5 x8 4 1 bt155.2.1 bt155.2.2.1 bt155.2.2.2) else (monocoquelaw32_LifeStarts.j3 k x1 x5 x8 4 2 bt155.2.1 bt155.2.2.1 bt155.2.2.2)) else (monocoquelaw32_LifeStarts.j3 k x1 x5 x8 5 1 bt155.2.1 bt155.2.2.1 bt155.2.2.2)) else (none)) else (none)))
def monocoquelaw32_LifeStarts.j3 : Nat → List Bool → Int → Int → Int → Int → Int → Int → Int → Option (Bool)
  | 0, _, _, _, _, _, _, _, _ => none
  | k + 1, x1, x5, x8, x11, x12, x149000, x149001, x149002 => (life_Life_Do.f k x149000 x149001 x149002 x11).bind fun bt160 => (if bt160.1 = x12 then (if bt160.2.1 = true then (if bt160.2.2.1 = 0 then ((life_Life_Mode.f bt160.2.2.2.1 bt160.2.2.2.2.1 bt160.2.2.2.2.2).bind fun bt166 => (if bt166.1 = x12 then ((life_Life_Left.f bt166.2.1 bt166.2.2.1 bt166.2.2.2).bind fun bt170 => (if bt170.1 = (wrap64 ((wrap64 (x5 - x8)) - 1)) then (monocoquelaw32_LifeStarts.l0 k x1 x5 (wrap64 (x8 + 1)) bt170.2.1 bt170.2.2.1 bt170.2.2.2) else (some false))) else (some false))) else (some false)) else (some false)) else (some false))
end
def monocoquelaw32_LifeStarts.f (k : Nat) (a0 : Int) (l1 : List Bool) : Option (Bool) := (life_New.f (wrap64 (Int.tmod (IntKind.u64.wrap (a0)) 30))).bind fun bt145 => ((monocoquelaw32_told.f k).bind fun t150 => (if t150 = true then (monocoquelaw32_LifeStarts.l0 k l1 (wrap64 (Int.tmod (IntKind.u64.wrap (a0)) 30)) 0 bt145.1 bt145.2.1 bt145.2.2.1) else (some false)))
theorem monocoquelaw32_LifeStarts.mono_l : ∀ k, (∀ y0 y1 y2 y3 y4 y5, LeO (monocoquelaw32_LifeStarts.l0 k y0 y1 y2 y3 y4 y5) (monocoquelaw32_LifeStarts.l0 (k + 1) y0 y1 y2 y3 y4 y5)) ∧ (∀ y0 y1 y2 y3 y4 y5 y6, LeO (monocoquelaw32_LifeStarts.j1 k y0 y1 y2 y3 y4 y5 y6) (monocoquelaw32_LifeStarts.j1 (k + 1) y0 y1 y2 y3 y4 y5 y6)) ∧ (∀ y0 y1 y2 y3 y4 y5 y6, LeO (monocoquelaw32_LifeStarts.j2 k y0 y1 y2 y3 y4 y5 y6) (monocoquelaw32_LifeStarts.j2 (k + 1) y0 y1 y2 y3 y4 y5 y6)) ∧ (∀ y0 y1 y2 y3 y4 y5 y6 y7, LeO (monocoquelaw32_LifeStarts.j3 k y0 y1 y2 y3 y4 y5 y6 y7) (monocoquelaw32_LifeStarts.j3 (k + 1) y0 y1 y2 y3 y4 y5 y6 y7))
  | 0 => ⟨fun _ _ _ _ _ _ r h => by simp [monocoquelaw32_LifeStarts.l0] at h, fun _ _ _ _ _ _ _ r h => by simp [monocoquelaw32_LifeStarts.j1] at h, fun _ _ _ _ _ _ _ r h => by simp [monocoquelaw32_LifeStarts.j2] at h, fun _ _ _ _ _ _ _ _ r h => by simp [monocoquelaw32_LifeStarts.j3] at h⟩
  | k + 1 => by
    obtain ⟨ih0, ih1, ih2, ih3⟩ := monocoquelaw32_LifeStarts.mono_l k
    refine ⟨?_, ?_, ?_, ?_⟩
    · intro y0 y1 y2 y3 y4 y5
      unfold monocoquelaw32_LifeStarts.l0
      repeat' first
      | (with_reducible exact ih0 _ _ _ _ _ _)
      | (with_reducible exact ih1 _ _ _ _ _ _ _)
      | (with_reducible exact ih2 _ _ _ _ _ _ _)
      | (with_reducible exact ih3 _ _ _ _ _ _ _ _)
      | (with_reducible exact life_Life_Do.mono _ _ _ _ _)
      | (with_reducible exact monocoquelaw32_told.mono _)
      | (with_reducible exact LeO.refl _)
      | (with_reducible exact LeO.none _)
      | (with_reducible refine LeO.ite ?_ ?_)
      | (with_reducible refine LeO.bind ?_ (fun _ => ?_))
      | exact ih0 _ _ _ _ _ _
      | exact ih1 _ _ _ _ _ _ _
      | exact ih2 _ _ _ _ _ _ _
      | exact ih3 _ _ _ _ _ _ _ _
      | exact life_Life_Do.mono _ _ _ _ _
      | exact monocoquelaw32_told.mono _
      | exact LeO.none _
      | refine LeO.ite ?_ ?_
      | refine LeO.bind ?_ (fun _ => ?_)
    · intro y0 y1 y2 y3 y4 y5 y6
      unfold monocoquelaw32_LifeStarts.j1
      repeat' first
      | (with_reducible exact ih0 _ _ _ _ _ _)
      | (with_reducible exact ih1 _ _ _ _ _ _ _)
      | (with_reducible exact ih2 _ _ _ _ _ _ _)
      | (with_reducible exact ih3 _ _ _ _ _ _ _ _)
      | (with_reducible exact life_Life_Do.mono _ _ _ _ _)
      | (with_reducible exact monocoquelaw32_told.mono _)
      | (with_reducible exact LeO.refl _)
      | (with_reducible exact LeO.none _)
      | (with_reducible refine LeO.ite ?_ ?_)
      | (with_reducible refine LeO.bind ?_ (fun _ => ?_))
      | exact ih0 _ _ _ _ _ _
      | exact ih1 _ _ _ _ _ _ _
      | exact ih2 _ _ _ _ _ _ _
      | exact ih3 _ _ _ _ _ _ _ _
      | exact life_Life_Do.mono _ _ _ _ _
      | exact monocoquelaw32_told.mono _
      | exact LeO.none _
      | refine LeO.ite ?_ ?_
      | refine LeO.bind ?_ (fun _ => ?_)
    · intro y0 y1 y2 y3 y4 y5 y6
      unfold monocoquelaw32_LifeStarts.j2
      repeat' first
      | (with_reducible exact ih0 _ _ _ _ _ _)
      | (with_reducible exact ih1 _ _ _ _ _ _ _)
      | (with_reducible exact ih2 _ _ _ _ _ _ _)
      | (with_reducible exact ih3 _ _ _ _ _ _ _ _)
      | (with_reducible exact life_Life_Do.mono _ _ _ _ _)
      | (with_reducible exact monocoquelaw32_told.mono _)
      | (with_reducible exact LeO.refl _)
      | (with_reducible exact LeO.none _)
      | (with_reducible refine LeO.ite ?_ ?_)
      | (with_reducible refine LeO.bind ?_ (fun _ => ?_))
      | exact ih0 _ _ _ _ _ _
      | exact ih1 _ _ _ _ _ _ _
      | exact ih2 _ _ _ _ _ _ _
      | exact ih3 _ _ _ _ _ _ _ _
      | exact life_Life_Do.mono _ _ _ _ _
      | exact monocoquelaw32_told.mono _
      | exact LeO.none _
      | refine LeO.ite ?_ ?_
      | refine LeO.bind ?_ (fun _ => ?_)
    · intro y0 y1 y2 y3 y4 y5 y6 y7
      unfold monocoquelaw32_LifeStarts.j3
      repeat' first
      | (with_reducible exact ih0 _ _ _ _ _ _)
      | (with_reducible exact ih1 _ _ _ _ _ _ _)
      | (with_reducible exact ih2 _ _ _ _ _ _ _)
      | (with_reducible exact ih3 _ _ _ _ _ _ _ _)
      | (with_reducible exact life_Life_Do.mono _ _ _ _ _)
      | (with_reducible exact monocoquelaw32_told.mono _)
      | (with_reducible exact LeO.refl _)
      | (with_reducible exact LeO.none _)
      | (with_reducible refine LeO.ite ?_ ?_)
      | (with_reducible refine LeO.bind ?_ (fun _ => ?_))
      | exact ih0 _ _ _ _ _ _
      | exact ih1 _ _ _ _ _ _ _
      | exact ih2 _ _ _ _ _ _ _
      | exact ih3 _ _ _ _ _ _ _ _
      | exact life_Life_Do.mono _ _ _ _ _
      | exact monocoquelaw32_told.mono _
      | exact LeO.none _
      | refine LeO.ite ?_ ?_
      | refine LeO.bind ?_ (fun _ => ?_)
theorem monocoquelaw32_LifeStarts.mono : ∀ a0 a1 k, LeO (monocoquelaw32_LifeStarts.f k a0 a1) (monocoquelaw32_LifeStarts.f (k + 1) a0 a1) := by
  intro a0 a1 k
  obtain ⟨ih0, ih1, ih2, ih3⟩ := monocoquelaw32_LifeStarts.mono_l k
  unfold monocoquelaw32_LifeStarts.f
  repeat' first
      | (with_reducible exact ih0 _ _ _ _ _ _)
      | (with_reducible exact ih1 _ _ _ _ _ _ _)
      | (with_reducible exact ih2 _ _ _ _ _ _ _)
      | (with_reducible exact ih3 _ _ _ _ _ _ _ _)
      | (with_reducible exact life_Life_Do.mono _ _ _ _ _)
      | (with_reducible exact monocoquelaw32_told.mono _)
      | (with_reducible exact LeO.refl _)
      | (with_reducible exact LeO.none _)
      | (with_reducible refine LeO.ite ?_ ?_)
      | (with_reducible refine LeO.bind ?_ (fun _ => ?_))
      | exact ih0 _ _ _ _ _ _
      | exact ih1 _ _ _ _ _ _ _
      | exact ih2 _ _ _ _ _ _ _
      | exact ih3 _ _ _ _ _ _ _ _
      | exact life_Life_Do.mono _ _ _ _ _
      | exact monocoquelaw32_told.mono _
      | exact LeO.none _
      | refine LeO.ite ?_ ?_
      | refine LeO.bind ?_ (fun _ => ?_)
set_option maxHeartbeats 8000000 in
set_option maxRecDepth 100000 in
theorem monocoquelaw32_LifeStarts.calls (k : Nat) (a0 : Int) (A1 : Option Addr) (c1 : Nat) (l1 : List Bool) (r : Bool) (w : World) (hr1 : Kd.C Kd.bool w A1 l1.length l1) (hc1 : l1.length ≤ c1) (h : monocoquelaw32_LifeStarts.f k a0 l1 = some r) :
    Calls Try.prog 10 #[.int .i64 a0, .slice A1 l1.length c1] w fun e w' => e = .returned (.bool r) ∧ Below w.heap.size w w' := by
  have hu58 := Try.underlying58
  have HR1 := Aside0.mk hr1
  have HC1 := Aside0.mk hc1
  clear hr1 hc1
  have HB := Aside0.mk (Below.refl w.heap.size w)
  have H : ((life_New.f (wrap64 (Int.tmod (IntKind.u64.wrap (a0)) 30))).bind fun bt145 => ((monocoquelaw32_told.f k).bind fun t150 => (if t150 = true then (monocoquelaw32_LifeStarts.l0 k l1 (wrap64 (Int.tmod (IntKind.u64.wrap (a0)) 30)) 0 bt145.1 bt145.2.1 bt145.2.2.1) else (some false)))) = some r := h
  clear h
  replace H := Option.bind_eq_some_iff.mp H
  obtain ⟨⟨t145, t146, t147, t149⟩, A30, H⟩ := H
  replace H : ((monocoquelaw32_told.f k).bind fun t150 => (if t150 = true then (monocoquelaw32_LifeStarts.l0 k l1 (wrap64 (Int.tmod (IntKind.u64.wrap (a0)) 30)) 0 t145 t146 t147) else (some false))) = some r := H
  have A3 := Aside0.mk A30
  clear A30
  replace H := Option.bind_eq_some_iff.mp H
  obtain ⟨t150, A40, H⟩ := H
  replace H : (if t150 = true then (monocoquelaw32_LifeStarts.l0 k l1 (wrap64 (Int.tmod (IntKind.u64.wrap (a0)) 30)) 0 t145 t146 t147) else (some false)) = some r := H
  have A4 := Aside0.mk A40
  clear A40
  by_cases c5 : t150 = true
  · subst c5
    have H1 : (monocoquelaw32_LifeStarts.l0 k l1 (wrap64 (Int.tmod (IntKind.u64.wrap (a0)) 30)) 0 t145 t146 t147) = some r := by rw [if_pos rfl] at H; exact H
    clear H
    have H := H1
    clear H1
    have H' := Aside0.mk H
    clear H
    go_enter Try.func10, Try.ntmps10
    go_wp2_with (first | ((with_reducible refine gate_callee (f := 29) rfl ?_); refine goesL_ (some 22) rfl rfl Try.func29 (by kernel_rfl) rfl #[.int .i64 (wrap64 (Int.tmod (IntKind.u64.wrap (a0)) 30))] rfl (by (try simp only [List.map_toArray, List.map_cons, List.map_nil]); first | done | rfl | (simp only [List.length_drop, List.length_take]; rfl)) ?_; (with_reducible refine (life_New.calls (wrap64 (Int.tmod (IntKind.u64.wrap (a0)) 30)) t145 t146 t147 t149 w _ ?side1 A3.out).mono ?_); (case side1 => repeat (first | (with_reducible first | exact HB.out | apply below_alloc | apply pw_below_drewN | apply below_drew1) | exact HB.out)); rintro e w6 ⟨g148, rfl, hi, hb, hb2⟩; refine ⟨_, rfl, ?_⟩; have n0_ := Aside0.mk (hb); have n1_ := Aside0.mk (hi); clear HB; have HB := n0_; have HI148 := n1_; clear n0_ n1_; (try clear hb); (try clear hb2); (try clear hk); (try clear hi)) | (go_at_call 30; (with_reducible refine (monocoquelaw32_told.calls k  true _ A4.out).mono ?_); rintro e w7 ⟨rfl, hb⟩; have n0_ := Aside0.mk (IsS89.below (by repeat (first | (with_reducible first | exact HI148.out | apply IsS89.alloc | apply IsS89.drewN | apply IsS89.drew | apply IsS89.set_0 | apply IsS89.set_1 | apply IsS89.set_2) | exact HI148.out)) hb); have n1_ := Aside0.mk (below_step (by repeat (first | (with_reducible first | exact HB.out | apply below_alloc | apply pw_below_drewN | apply below_drew1 | refine below_set ?_ (IsS89.ge HI148.out)) | exact HB.out)) hb); clear HI148; clear HB; have HI148 := n0_; have HB := n1_; clear n0_ n1_; (try clear hb); (try clear hb2); (try clear hk); (try clear hi)))
    go_loopg [8] k (fun kq v8 w' => ∃ (x8_1 : Int) (x149000_1 : Int) (x149001_1 : Int) (x149002_1 : Int), v8 = .int .i64 x8_1 ∧ Aside0 (monocoquelaw32_LifeStarts.l0 kq l1 (wrap64 (Int.tmod (IntKind.u64.wrap (a0)) 30)) x8_1 x149000_1 x149001_1 x149002_1 = some r) ∧ Aside0 (kq ≤ k) ∧ Aside0 (IsS89 w w' g148 x149000_1 x149001_1 x149002_1) ∧ Aside0 (Below w.heap.size w w'))
    case atStart => exact ⟨(0), (t145), (t146), (t147), (by first | rfl | (simp; done) | (simp [*]; done)), H', ⟨Nat.le_refl _⟩, ⟨by repeat (first | (with_reducible first | exact HI148.out | apply IsS89.alloc | apply IsS89.drewN | apply IsS89.drew | apply IsS89.set_0 | apply IsS89.set_1 | apply IsS89.set_2) | exact HI148.out)⟩, ⟨by repeat (first | (with_reducible first | exact HB.out | apply below_alloc | apply pw_below_drewN | apply below_drew1 | refine below_set ?_ (IsS89.ge HI148.out)) | exact HB.out)⟩⟩
    case round =>
      clear H'
      try clear c1
      try clear c2
      try clear p2
      try clear c5
      try clear p6
      obtain ⟨x8_1, x149000_1, x149001_1, x149002_1, rfl, HA, HK1, HI148, HB⟩ := hrel
      cases gk with
      | zero => exact absurd HA.out (by simp [monocoquelaw32_LifeStarts.l0])
      | succ k1 =>
        have H := HA.out
        clear HA
        simp only [monocoquelaw32_LifeStarts.l0] at H
        have HC8 := Aside0.mk H
        clear H
        go_upto_region 6 with (fail)
        go_cut [39] (fun v39 wc => ∃ (kq : Nat) (x39_7 : Bool), v39 = .bool x39_7 ∧ Aside0 (monocoquelaw32_LifeStarts.j1 kq l1 (wrap64 (Int.tmod (IntKind.u64.wrap (a0)) 30)) x8_1 x39_7 x149000_1 x149001_1 x149002_1 = some r) ∧ Aside0 (kq ≤ k1) ∧ Aside0 (IsS89 w wc g148 x149000_1 x149001_1 x149002_1) ∧ Aside0 (Below w.heap.size w wc))
        case first =>
          have H := HC8.out
          clear HC8
          by_cases c9 : x8_1 < (l1.length : Int)
          · rw [if_pos c9] at H
            have c9b0 : decide (x8_1 < (l1.length : Int)) = true := decide_eq_true c9
            clear c9
            (first | rw [c9b0] | (simp only [i64_w, i32_w]; rw [c9b0]) | skip)
            have H' := Aside0.mk H
            clear H
            go_wp2
            go_meet
            case rel => exact ⟨_, (decide (x8_1 < (wrap64 (Int.tmod (IntKind.u64.wrap (a0)) 30)))), (by first | rfl | (simp; done) | (simp [*]; done)), H', ⟨by have := HK1.out; first | omega | exact Nat.le_refl _⟩, ⟨by repeat (first | (with_reducible first | exact HI148.out | apply IsS89.alloc | apply IsS89.drewN | apply IsS89.drew | apply IsS89.set_0 | apply IsS89.set_1 | apply IsS89.set_2) | exact HI148.out)⟩, ⟨by repeat (first | (with_reducible first | exact HB.out | apply below_alloc | apply pw_below_drewN | apply below_drew1 | refine below_set ?_ (IsS89.ge HI148.out)) | exact HB.out)⟩⟩
          · rw [if_neg c9] at H
            have c9b0 : decide (x8_1 < (l1.length : Int)) = false := decide_eq_false c9
            clear c9
            (first | rw [c9b0] | (simp only [i64_w, i32_w]; rw [c9b0]) | skip)
            have H' := Aside0.mk H
            clear H
            go_wp2
            go_meet
            case rel => exact ⟨_, (false), (by first | rfl | (simp; done) | (simp [*]; done)), H', ⟨by have := HK1.out; first | omega | exact Nat.le_refl _⟩, ⟨by repeat (first | (with_reducible first | exact HI148.out | apply IsS89.alloc | apply IsS89.drewN | apply IsS89.drew | apply IsS89.set_0 | apply IsS89.set_1 | apply IsS89.set_2) | exact HI148.out)⟩, ⟨by repeat (first | (with_reducible first | exact HB.out | apply below_alloc | apply pw_below_drewN | apply below_drew1 | refine below_set ?_ (IsS89.ge HI148.out)) | exact HB.out)⟩⟩
        case rest =>
          clear HC8
          try clear c1
          try clear c2
          try clear p2
          try clear c5
          try clear p6
          try clear c9
          try clear c9b0
          try clear p2
          try clear p6
          obtain ⟨kq, x39_7, rfl, HA, HJ7, HI148, HB⟩ := hcut
          cases kq with
          | zero => exact absurd HA.out (by simp [monocoquelaw32_LifeStarts.j1])
          | succ kj7 =>
            have H := HA.out
            clear HA
            simp only [monocoquelaw32_LifeStarts.j1] at H
            by_cases c10 : x39_7 = true
            · subst c10
              have H1 : (if (Int.tmod x8_1 3) = 2 then (monocoquelaw32_LifeStarts.j2 kj7 l1 (wrap64 (Int.tmod (IntKind.u64.wrap (a0)) 30)) x8_1 false x149000_1 x149001_1 x149002_1) else ((life_Life_Run.f x149000_1 x149001_1 x149002_1).bind fun bt151 => (monocoquelaw32_LifeStarts.j2 kj7 l1 (wrap64 (Int.tmod (IntKind.u64.wrap (a0)) 30)) x8_1 (bt151.1 != 0) bt151.2.1 bt151.2.2.1 bt151.2.2.2))) = some r := by rw [if_pos rfl] at H; exact H
              clear H
              have H := H1
              clear H1
              have HC11 := Aside0.mk H
              clear H
              go_upto_region 9 with (fail)
              generalize hb9 : ((Int.tmod x8_1 3) != 2) = b9
              go_cut [50] (fun v50 wc => ∃ (kq : Nat) (x50_10 : Bool) (x149000_10 : Int) (x149001_10 : Int) (x149002_10 : Int), v50 = .bool x50_10 ∧ Aside0 (monocoquelaw32_LifeStarts.j2 kq l1 (wrap64 (Int.tmod (IntKind.u64.wrap (a0)) 30)) x8_1 x50_10 x149000_10 x149001_10 x149002_10 = some r) ∧ Aside0 (kq ≤ kj7) ∧ Aside0 (IsS89 w wc g148 x149000_10 x149001_10 x149002_10) ∧ Aside0 (Below w.heap.size w wc))
              case first =>
                have H := HC11.out
                clear HC11
                by_cases c12 : (Int.tmod x8_1 3) = 2
                · rw [if_pos c12] at H
                  have c12b0 : ((Int.tmod x8_1 3) == 2) = true := beq_iff_eq.mpr c12
                  have c12b1 : ((Int.tmod x8_1 3) != 2) = false := bne_eq_false_iff_eq.mpr c12
                  have e9 : b9 = false := hb9.symm.trans c12b1
                  subst e9
                  clear c12
                  (first | rw [c12b0] | (simp only [i64_w, i32_w]; rw [c12b0]) | skip)
                  have H' := Aside0.mk H
                  clear H
                  go_wp2
                  go_meet
                  case rel => exact ⟨_, (false), (x149000_1), (x149001_1), (x149002_1), (by first | rfl | (simp; done) | (simp [*]; done)), H', ⟨by have := HK1.out; have := HJ7.out; first | omega | exact Nat.le_refl _⟩, ⟨by repeat (first | (with_reducible first | exact HI148.out | apply IsS89.alloc | apply IsS89.drewN | apply IsS89.drew | apply IsS89.set_0 | apply IsS89.set_1 | apply IsS89.set_2) | exact HI148.out)⟩, ⟨by repeat (first | (with_reducible first | exact HB.out | apply below_alloc | apply pw_below_drewN | apply below_drew1 | refine below_set ?_ (IsS89.ge HI148.out)) | exact HB.out)⟩⟩
                · rw [if_neg c12] at H
                  have c12b0 : ((Int.tmod x8_1 3) == 2) = false := beq_eq_false_iff_ne.mpr c12
                  have c12b1 : ((Int.tmod x8_1 3) != 2) = true := bne_iff_ne.mpr c12
                  have e9 : b9 = true := hb9.symm.trans c12b1
                  subst e9
                  (first | rw [c12b0] | (simp only [i64_w, i32_w]; rw [c12b0]) | skip)
                  replace H := Option.bind_eq_some_iff.mp H
                  obtain ⟨⟨t151, t152, t153, t154⟩, A130, H⟩ := H
                  replace H : (monocoquelaw32_LifeStarts.j2 kj7 l1 (wrap64 (Int.tmod (IntKind.u64.wrap (a0)) 30)) x8_1 (t151 != 0) t152 t153 t154) = some r := H
                  have A13 := Aside0.mk A130
                  clear A130
                  have H' := Aside0.mk H
                  clear H
                  go_wp2_with (first | (go_at_call 31; (with_reducible refine (life_Life_Run.calls g148 x149000_1 x149001_1 x149002_1 t151 t152 t153 t154 w _ ?side1 ?side2 A13.out).mono ?_); (case side1 => repeat (first | (with_reducible first | exact HI148.out | apply IsS89.alloc | apply IsS89.drewN | apply IsS89.drew | apply IsS89.set_0 | apply IsS89.set_1 | apply IsS89.set_2) | exact HI148.out)); (case side2 => repeat (first | (with_reducible first | exact HB.out | apply below_alloc | apply pw_below_drewN | apply below_drew1 | refine below_set ?_ (IsS89.ge HI148.out)) | exact HB.out)); rintro e w14 ⟨rfl, hi, hb, hk⟩; have n0_ := Aside0.mk (hb); have n1_ := Aside0.mk (hi); clear HB; clear HI148; have HB := n0_; have HI148 := n1_; clear n0_ n1_; (try clear hb); (try clear hb2); (try clear hk); (try clear hi)))
                  go_meet
                  case rel => exact ⟨_, ((t151 != 0)), (t152), (t153), (t154), (by first | rfl | (simp; done) | (simp [*]; done)), H', ⟨by have := HK1.out; have := HJ7.out; first | omega | exact Nat.le_refl _⟩, ⟨by repeat (first | (with_reducible first | exact HI148.out | apply IsS89.alloc | apply IsS89.drewN | apply IsS89.drew | apply IsS89.set_0 | apply IsS89.set_1 | apply IsS89.set_2) | exact HI148.out)⟩, ⟨by repeat (first | (with_reducible first | exact HB.out | apply below_alloc | apply pw_below_drewN | apply below_drew1 | refine below_set ?_ (IsS89.ge HI148.out)) | exact HB.out)⟩⟩
              case rest =>
                clear HC11
                try clear c1
                try clear c2
                try clear p2
                try clear c5
                try clear p6
                try clear c9
                try clear c9b0
                try clear c10
                try clear c12
                try clear c12b0
                try clear c12b1
                try clear p2
                try clear p6
                obtain ⟨kq, x50_10, x149000_10, x149001_10, x149002_10, rfl, HA, HJ10, HI148, HB⟩ := hcut
                cases kq with
                | zero => exact absurd HA.out (by simp [monocoquelaw32_LifeStarts.j2])
                | succ kj10 =>
                  have H := HA.out
                  clear HA
                  simp only [monocoquelaw32_LifeStarts.j2] at H
                  by_cases c15 : x50_10 = true
                  · subst c15
                    have H1 : (some false) = some r := by rw [if_pos rfl] at H; exact H
                    clear H
                    have H := H1
                    clear H1
                    obtain rfl := Option.some.inj H
                    go_wp2
                    go_ret
                    exact ⟨by first | rfl | (simp [errW_none, errW_some] <;> rfl) | (simp [*, errW_none, errW_some] <;> rfl), by repeat (first | (with_reducible first | exact HB.out | apply below_alloc | apply pw_below_drewN | apply below_drew1 | refine below_set ?_ (IsS89.ge HI148.out)) | exact HB.out)⟩
                  · replace c15 := Bool.eq_false_iff.mpr c15
                    subst c15
                    have H1 : ((life_Life_Mode.f x149000_10 x149001_10 x149002_10).bind fun bt155 => (if 0 ≤ x8_1 then (if x8_1 < (l1.length : Int) then (if rdOf false l1 x8_1 = true then (if bt155.1 = 1 then (monocoquelaw32_LifeStarts.j3 kj10 l1 (wrap64 (Int.tmod (IntKind.u64.wrap (a0)) 30)) x8_1 4 1 bt155.2.1 bt155.2.2.1 bt155.2.2.2) else (monocoquelaw32_LifeStarts.j3 kj10 l1 (wrap64 (Int.tmod (IntKind.u64.wrap (a0)) 30)) x8_1 4 2 bt155.2.1 bt155.2.2.1 bt155.2.2.2)) else (monocoquelaw32_LifeStarts.j3 kj10 l1 (wrap64 (Int.tmod (IntKind.u64.wrap (a0)) 30)) x8_1 5 1 bt155.2.1 bt155.2.2.1 bt155.2.2.2)) else (none)) else (none))) = some r := by rw [if_neg (show ¬ (false = true) by decide)] at H; exact H
                    clear H
                    have H := H1
                    clear H1
                    replace H := Option.bind_eq_some_iff.mp H
                    obtain ⟨⟨t155, t156, t157, t158⟩, A160, H⟩ := H
                    replace H : (if 0 ≤ x8_1 then (if x8_1 < (l1.length : Int) then (if rdOf false l1 x8_1 = true then (if t155 = 1 then (monocoquelaw32_LifeStarts.j3 kj10 l1 (wrap64 (Int.tmod (IntKind.u64.wrap (a0)) 30)) x8_1 4 1 t156 t157 t158) else (monocoquelaw32_LifeStarts.j3 kj10 l1 (wrap64 (Int.tmod (IntKind.u64.wrap (a0)) 30)) x8_1 4 2 t156 t157 t158)) else (monocoquelaw32_LifeStarts.j3 kj10 l1 (wrap64 (Int.tmod (IntKind.u64.wrap (a0)) 30)) x8_1 5 1 t156 t157 t158)) else (none)) else (none)) = some r := H
                    have A16 := Aside0.mk A160
                    clear A160
                    by_cases c17 : 0 ≤ x8_1
                    · rw [if_pos c17] at H
                      have c17b0 : decide (0 ≤ x8_1) = true := decide_eq_true c17
                      clear c17
                      by_cases c18 : x8_1 < (l1.length : Int)
                      · rw [if_pos c18] at H
                        have c18b0 : decide (x8_1 < (l1.length : Int)) = true := decide_eq_true c18
                        clear c18
                        have HC19 := Aside0.mk H
                        clear H
                        go_upto_if 56 with (first | ((with_reducible refine gate_callee (f := 33) rfl ?_); refine goesL_ (some 52) rfl rfl Try.func33 (by kernel_rfl) rfl #[.pointer (some ⟨g148, 0, none⟩)] rfl (by (try simp only [List.map_toArray, List.map_cons, List.map_nil]); first | done | rfl | (simp only [List.length_drop, List.length_take]; rfl)) ?_; (with_reducible refine (life_Life_Mode.calls g148 x149000_10 x149001_10 x149002_10 t155 t156 t157 t158 w _ ?side1 ?side2 A16.out).mono ?_); (case side1 => repeat (first | (with_reducible first | exact HI148.out | apply IsS89.alloc | apply IsS89.drewN | apply IsS89.drew | apply IsS89.set_0 | apply IsS89.set_1 | apply IsS89.set_2) | exact HI148.out)); (case side2 => repeat (first | (with_reducible first | exact HB.out | apply below_alloc | apply pw_below_drewN | apply below_drew1 | refine below_set ?_ (IsS89.ge HI148.out)) | exact HB.out)); rintro e w20 ⟨rfl, hi, hb, hk⟩; refine ⟨_, rfl, ?_⟩; have n0_ := Aside0.mk (hb); have n1_ := Aside0.mk (hi); clear HB; clear HI148; have HB := n0_; have HI148 := n1_; clear n0_ n1_; (try clear hb); (try clear hb2); (try clear hk); (try clear hi); have p159 : 0 ≤ (x8_1 : Int) := of_decide_eq_true (by first | (with_reducible assumption) | assumption); have q159 : x8_1 < (l1.length : Int) := of_decide_eq_true (by first | (with_reducible assumption) | assumption); obtain ⟨ad159, e159, hx159_0⟩ := Kd.at_bool HR1.out x8_1 p159 q159; cases e159; replace hx159_0 := (HB.out.cell (World.block_lt_of_cell? w _ hx159_0)).trans hx159_0; replace p159 := eq_true p159; replace q159 := eq_true q159))
                        (try simp only [Act.put, List.setIfInBounds_toArray, List.set_cons_zero, List.set_cons_succ])
                        go_cut [11, 12] (fun v11 v12 wc => ∃ (kq : Nat) (x11_18 : Int) (x12_18 : Int), v11 = .int .i64 x11_18 ∧ v12 = .int .i64 x12_18 ∧ Aside0 (monocoquelaw32_LifeStarts.j3 kq l1 (wrap64 (Int.tmod (IntKind.u64.wrap (a0)) 30)) x8_1 x11_18 x12_18 t156 t157 t158 = some r) ∧ Aside0 (kq ≤ kj10) ∧ Aside0 (IsS89 w wc g148 t156 t157 t158) ∧ Aside0 (Below w.heap.size w wc))
                        case first =>
                          have H := HC19.out
                          clear HC19
                          obtain ⟨bq21, hbq21⟩ : ∃ b_ : Bool, b_ = (rdOf false l1 x8_1) := ⟨_, rfl⟩
                          replace H : (if bq21 = true then (if t155 = 1 then (monocoquelaw32_LifeStarts.j3 kj10 l1 (wrap64 (Int.tmod (IntKind.u64.wrap (a0)) 30)) x8_1 4 1 t156 t157 t158) else (monocoquelaw32_LifeStarts.j3 kj10 l1 (wrap64 (Int.tmod (IntKind.u64.wrap (a0)) 30)) x8_1 4 2 t156 t157 t158)) else (monocoquelaw32_LifeStarts.j3 kj10 l1 (wrap64 (Int.tmod (IntKind.u64.wrap (a0)) 30)) x8_1 5 1 t156 t157 t158)) = some r := by rw [← hbq21] at H; exact H
                          have Nbq21 := Aside0.mk hbq21
                          clear hbq21
                          (try rw [← Nbq21.out])
                          by_cases c22 : bq21 = true
                          · subst c22
                            have H1 : (if t155 = 1 then (monocoquelaw32_LifeStarts.j3 kj10 l1 (wrap64 (Int.tmod (IntKind.u64.wrap (a0)) 30)) x8_1 4 1 t156 t157 t158) else (monocoquelaw32_LifeStarts.j3 kj10 l1 (wrap64 (Int.tmod (IntKind.u64.wrap (a0)) 30)) x8_1 4 2 t156 t157 t158)) = some r := by rw [if_pos rfl] at H; exact H
                            clear H
                            have H := H1
                            clear H1
                            by_cases c23 : t155 = 1
                            · rw [if_pos c23] at H
                              have c23b0 : (t155 == 1) = true := beq_iff_eq.mpr c23
                              have c23b1 : (t155 != 1) = false := bne_eq_false_iff_eq.mpr c23
                              clear c23
                              have H' := Aside0.mk H
                              clear H
                              go_wp2
                              go_meet
                              case rel => exact ⟨_, (4), (1), (by first | rfl | (simp; done) | (simp [*]; done)), (by first | rfl | (simp; done) | (simp [*]; done)), H', ⟨by have := HK1.out; have := HJ7.out; have := HJ10.out; first | omega | exact Nat.le_refl _⟩, ⟨by repeat (first | (with_reducible first | exact HI148.out | apply IsS89.alloc | apply IsS89.drewN | apply IsS89.drew | apply IsS89.set_0 | apply IsS89.set_1 | apply IsS89.set_2) | exact HI148.out)⟩, ⟨by repeat (first | (with_reducible first | exact HB.out | apply below_alloc | apply pw_below_drewN | apply below_drew1 | refine below_set ?_ (IsS89.ge HI148.out)) | exact HB.out)⟩⟩
                            · rw [if_neg c23] at H
                              have c23b0 : (t155 == 1) = false := beq_eq_false_iff_ne.mpr c23
                              have c23b1 : (t155 != 1) = true := bne_iff_ne.mpr c23
                              have H' := Aside0.mk H
                              clear H
                              go_wp2
                              go_meet
                              case rel => exact ⟨_, (4), (2), (by first | rfl | (simp; done) | (simp [*]; done)), (by first | rfl | (simp; done) | (simp [*]; done)), H', ⟨by have := HK1.out; have := HJ7.out; have := HJ10.out; first | omega | exact Nat.le_refl _⟩, ⟨by repeat (first | (with_reducible first | exact HI148.out | apply IsS89.alloc | apply IsS89.drewN | apply IsS89.drew | apply IsS89.set_0 | apply IsS89.set_1 | apply IsS89.set_2) | exact HI148.out)⟩, ⟨by repeat (first | (with_reducible first | exact HB.out | apply below_alloc | apply pw_below_drewN | apply below_drew1 | refine below_set ?_ (IsS89.ge HI148.out)) | exact HB.out)⟩⟩
                          · replace c22 := Bool.eq_false_iff.mpr c22
                            subst c22
                            have H1 : (monocoquelaw32_LifeStarts.j3 kj10 l1 (wrap64 (Int.tmod (IntKind.u64.wrap (a0)) 30)) x8_1 5 1 t156 t157 t158) = some r := by rw [if_neg (show ¬ (false = true) by decide)] at H; exact H
                            clear H
                            have H := H1
                            clear H1
                            have H' := Aside0.mk H
                            clear H
                            go_wp2
                            go_meet
                            case rel => exact ⟨_, (5), (1), (by first | rfl | (simp; done) | (simp [*]; done)), (by first | rfl | (simp; done) | (simp [*]; done)), H', ⟨by have := HK1.out; have := HJ7.out; have := HJ10.out; first | omega | exact Nat.le_refl _⟩, ⟨by repeat (first | (with_reducible first | exact HI148.out | apply IsS89.alloc | apply IsS89.drewN | apply IsS89.drew | apply IsS89.set_0 | apply IsS89.set_1 | apply IsS89.set_2) | exact HI148.out)⟩, ⟨by repeat (first | (with_reducible first | exact HB.out | apply below_alloc | apply pw_below_drewN | apply below_drew1 | refine below_set ?_ (IsS89.ge HI148.out)) | exact HB.out)⟩⟩
                        case rest =>
                          clear HC19
                          try clear c1
                          try clear p1
                          try clear q1
                          try clear hx1
                          try clear c2
                          try clear p2
                          try clear q2
                          try clear c3
                          try clear c5
                          try clear p6
                          try clear c9
                          try clear c9b0
                          try clear c10
                          try clear c12
                          try clear c12b0
                          try clear c12b1
                          try clear c15
                          try clear p15
                          try clear q15
                          try clear hx15
                          try clear c17
                          try clear c17b0
                          try clear c18
                          try clear c18b0
                          try clear q21
                          try clear c22
                          try clear c23
                          try clear c23b0
                          try clear c23b1
                          try clear hx159_0
                          try clear p159
                          try clear p2
                          try clear p6
                          try clear q159
                          obtain ⟨kq, x11_18, x12_18, rfl, rfl, HA, HJ18, HI148, HB⟩ := hcut
                          cases kq with
                          | zero => exact absurd HA.out (by simp [monocoquelaw32_LifeStarts.j3])
                          | succ kj18 =>
                            have H := HA.out
                            clear HA
                            simp only [monocoquelaw32_LifeStarts.j3] at H
                            replace H := Option.bind_eq_some_iff.mp H
                            obtain ⟨⟨t160, t161, t162, t163, t164, t165⟩, A240, H⟩ := H
                            replace H : (if t160 = x12_18 then (if t161 = true then (if t162 = 0 then ((life_Life_Mode.f t163 t164 t165).bind fun bt166 => (if bt166.1 = x12_18 then ((life_Life_Left.f bt166.2.1 bt166.2.2.1 bt166.2.2.2).bind fun bt170 => (if bt170.1 = (wrap64 ((wrap64 ((wrap64 (Int.tmod (IntKind.u64.wrap (a0)) 30)) - x8_1)) - 1)) then (monocoquelaw32_LifeStarts.l0 kj18 l1 (wrap64 (Int.tmod (IntKind.u64.wrap (a0)) 30)) (wrap64 (x8_1 + 1)) bt170.2.1 bt170.2.2.1 bt170.2.2.2) else (some false))) else (some false))) else (some false)) else (some false)) else (some false)) = some r := H
                            have A24 := Aside0.mk A240
                            clear A240
                            by_cases c25 : t160 = x12_18
                            · rw [if_pos c25] at H
                              have c25b0 : (t160 == x12_18) = true := beq_iff_eq.mpr c25
                              have c25b1 : (t160 != x12_18) = false := bne_eq_false_iff_eq.mpr c25
                              clear c25
                              by_cases c26 : t161 = true
                              · subst c26
                                have H1 : (if t162 = 0 then ((life_Life_Mode.f t163 t164 t165).bind fun bt166 => (if bt166.1 = x12_18 then ((life_Life_Left.f bt166.2.1 bt166.2.2.1 bt166.2.2.2).bind fun bt170 => (if bt170.1 = (wrap64 ((wrap64 ((wrap64 (Int.tmod (IntKind.u64.wrap (a0)) 30)) - x8_1)) - 1)) then (monocoquelaw32_LifeStarts.l0 kj18 l1 (wrap64 (Int.tmod (IntKind.u64.wrap (a0)) 30)) (wrap64 (x8_1 + 1)) bt170.2.1 bt170.2.2.1 bt170.2.2.2) else (some false))) else (some false))) else (some false)) = some r := by rw [if_pos rfl] at H; exact H
                                clear H
                                have H := H1
                                clear H1
                                by_cases c27 : t162 = 0
                                · rw [if_pos c27] at H
                                  have c27b0 : (t162 == 0) = true := beq_iff_eq.mpr c27
                                  have c27b1 : (t162 != 0) = false := bne_eq_false_iff_eq.mpr c27
                                  clear c27
                                  replace H := Option.bind_eq_some_iff.mp H
                                  obtain ⟨⟨t166, t167, t168, t169⟩, A280, H⟩ := H
                                  replace H : (if t166 = x12_18 then ((life_Life_Left.f t167 t168 t169).bind fun bt170 => (if bt170.1 = (wrap64 ((wrap64 ((wrap64 (Int.tmod (IntKind.u64.wrap (a0)) 30)) - x8_1)) - 1)) then (monocoquelaw32_LifeStarts.l0 kj18 l1 (wrap64 (Int.tmod (IntKind.u64.wrap (a0)) 30)) (wrap64 (x8_1 + 1)) bt170.2.1 bt170.2.2.1 bt170.2.2.2) else (some false))) else (some false)) = some r := H
                                  have A28 := Aside0.mk A280
                                  clear A280
                                  by_cases c29 : t166 = x12_18
                                  · rw [if_pos c29] at H
                                    have c29b0 : (t166 == x12_18) = true := beq_iff_eq.mpr c29
                                    have c29b1 : (t166 != x12_18) = false := bne_eq_false_iff_eq.mpr c29
                                    clear c29
                                    replace H := Option.bind_eq_some_iff.mp H
                                    obtain ⟨⟨t170, t171, t172, t173⟩, A300, H⟩ := H
                                    replace H : (if t170 = (wrap64 ((wrap64 ((wrap64 (Int.tmod (IntKind.u64.wrap (a0)) 30)) - x8_1)) - 1)) then (monocoquelaw32_LifeStarts.l0 kj18 l1 (wrap64 (Int.tmod (IntKind.u64.wrap (a0)) 30)) (wrap64 (x8_1 + 1)) t171 t172 t173) else (some false)) = some r := H
                                    have A30 := Aside0.mk A300
                                    clear A300
                                    by_cases c31 : t170 = (wrap64 ((wrap64 ((wrap64 (Int.tmod (IntKind.u64.wrap (a0)) 30)) - x8_1)) - 1))
                                    · rw [if_pos c31] at H
                                      have c31b0 : (t170 == (wrap64 ((wrap64 ((wrap64 (Int.tmod (IntKind.u64.wrap (a0)) 30)) - x8_1)) - 1))) = true := beq_iff_eq.mpr c31
                                      have c31b1 : (t170 != (wrap64 ((wrap64 ((wrap64 (Int.tmod (IntKind.u64.wrap (a0)) 30)) - x8_1)) - 1))) = false := bne_eq_false_iff_eq.mpr c31
                                      clear c31
                                      have H' := Aside0.mk H
                                      clear H
                                      go_wp2_with (first | ((with_reducible refine gate_callee (f := 32) rfl ?_); refine goesL_ (some 62) rfl rfl Try.func32 (by kernel_rfl) rfl #[.pointer (some ⟨g148, 0, none⟩), .int .i64 x11_18] rfl (by (try simp only [List.map_toArray, List.map_cons, List.map_nil]); first | done | rfl | (simp only [List.length_drop, List.length_take]; rfl)) ?_; (with_reducible refine (life_Life_Do.calls kj18 g148 t156 t157 t158 x11_18 t160 true t162 t163 t164 t165 w _ ?side1 ?side2 A24.out).mono ?_); (case side1 => repeat (first | (with_reducible first | exact HI148.out | apply IsS89.alloc | apply IsS89.drewN | apply IsS89.drew | apply IsS89.set_0 | apply IsS89.set_1 | apply IsS89.set_2) | exact HI148.out)); (case side2 => repeat (first | (with_reducible first | exact HB.out | apply below_alloc | apply pw_below_drewN | apply below_drew1 | refine below_set ?_ (IsS89.ge HI148.out)) | exact HB.out)); rintro e w32 ⟨rfl, hi, hb, hk⟩; refine ⟨_, rfl, ?_⟩; have n0_ := Aside0.mk (hb); have n1_ := Aside0.mk (hi); clear HB; clear HI148; have HB := n0_; have HI148 := n1_; clear n0_ n1_; (try clear hb); (try clear hb2); (try clear hk); (try clear hi)) | (go_at_call 33; (with_reducible refine (life_Life_Mode.calls g148 t163 t164 t165 t166 t167 t168 t169 w _ ?side1 ?side2 A28.out).mono ?_); (case side1 => repeat (first | (with_reducible first | exact HI148.out | apply IsS89.alloc | apply IsS89.drewN | apply IsS89.drew | apply IsS89.set_0 | apply IsS89.set_1 | apply IsS89.set_2) | exact HI148.out)); (case side2 => repeat (first | (with_reducible first | exact HB.out | apply below_alloc | apply pw_below_drewN | apply below_drew1 | refine below_set ?_ (IsS89.ge HI148.out)) | exact HB.out)); rintro e w33 ⟨rfl, hi, hb, hk⟩; have n0_ := Aside0.mk (hb); have n1_ := Aside0.mk (hi); clear HB; clear HI148; have HB := n0_; have HI148 := n1_; clear n0_ n1_; (try clear hb); (try clear hb2); (try clear hk); (try clear hi)) | (go_at_call 35; (with_reducible refine (life_Life_Left.calls g148 t167 t168 t169 t170 t171 t172 t173 w _ ?side1 ?side2 A30.out).mono ?_); (case side1 => repeat (first | (with_reducible first | exact HI148.out | apply IsS89.alloc | apply IsS89.drewN | apply IsS89.drew | apply IsS89.set_0 | apply IsS89.set_1 | apply IsS89.set_2) | exact HI148.out)); (case side2 => repeat (first | (with_reducible first | exact HB.out | apply below_alloc | apply pw_below_drewN | apply below_drew1 | refine below_set ?_ (IsS89.ge HI148.out)) | exact HB.out)); rintro e w34 ⟨rfl, hi, hb, hk⟩; have n0_ := Aside0.mk (hb); have n1_ := Aside0.mk (hi); clear HB; clear HI148; have HB := n0_; have HI148 := n1_; clear n0_ n1_; (try clear hb); (try clear hb2); (try clear hk); (try clear hi)))
                                      go_roundg kj18
                                      case measure => have := HK1.out; have := HJ7.out; have := HJ10.out; have := HJ18.out; omega
                                      case rel => exact ⟨(wrap64 (x8_1 + 1)), (t171), (t172), (t173), (by first | rfl | (simp; done) | (simp [*]; done)), H', ⟨by have := HK1.out; have := HJ7.out; have := HJ10.out; have := HJ18.out; omega⟩, ⟨by repeat (first | (with_reducible first | exact HI148.out | apply IsS89.alloc | apply IsS89.drewN | apply IsS89.drew | apply IsS89.set_0 | apply IsS89.set_1 | apply IsS89.set_2) | exact HI148.out)⟩, ⟨by repeat (first | (with_reducible first | exact HB.out | apply below_alloc | apply pw_below_drewN | apply below_drew1 | refine below_set ?_ (IsS89.ge HI148.out)) | exact HB.out)⟩⟩
                                    · rw [if_neg c31] at H
                                      have c31b0 : (t170 == (wrap64 ((wrap64 ((wrap64 (Int.tmod (IntKind.u64.wrap (a0)) 30)) - x8_1)) - 1))) = false := beq_eq_false_iff_ne.mpr c31
                                      have c31b1 : (t170 != (wrap64 ((wrap64 ((wrap64 (Int.tmod (IntKind.u64.wrap (a0)) 30)) - x8_1)) - 1))) = true := bne_iff_ne.mpr c31
                                      obtain rfl := Option.some.inj H
                                      go_wp2_with (first | ((with_reducible refine gate_callee (f := 32) rfl ?_); refine goesL_ (some 62) rfl rfl Try.func32 (by kernel_rfl) rfl #[.pointer (some ⟨g148, 0, none⟩), .int .i64 x11_18] rfl (by (try simp only [List.map_toArray, List.map_cons, List.map_nil]); first | done | rfl | (simp only [List.length_drop, List.length_take]; rfl)) ?_; (with_reducible refine (life_Life_Do.calls kj18 g148 t156 t157 t158 x11_18 t160 true t162 t163 t164 t165 w _ ?side1 ?side2 A24.out).mono ?_); (case side1 => repeat (first | (with_reducible first | exact HI148.out | apply IsS89.alloc | apply IsS89.drewN | apply IsS89.drew | apply IsS89.set_0 | apply IsS89.set_1 | apply IsS89.set_2) | exact HI148.out)); (case side2 => repeat (first | (with_reducible first | exact HB.out | apply below_alloc | apply pw_below_drewN | apply below_drew1 | refine below_set ?_ (IsS89.ge HI148.out)) | exact HB.out)); rintro e w35 ⟨rfl, hi, hb, hk⟩; refine ⟨_, rfl, ?_⟩; have n0_ := Aside0.mk (hb); have n1_ := Aside0.mk (hi); clear HB; clear HI148; have HB := n0_; have HI148 := n1_; clear n0_ n1_; (try clear hb); (try clear hb2); (try clear hk); (try clear hi)) | (go_at_call 33; (with_reducible refine (life_Life_Mode.calls g148 t163 t164 t165 t166 t167 t168 t169 w _ ?side1 ?side2 A28.out).mono ?_); (case side1 => repeat (first | (with_reducible first | exact HI148.out | apply IsS89.alloc | apply IsS89.drewN | apply IsS89.drew | apply IsS89.set_0 | apply IsS89.set_1 | apply IsS89.set_2) | exact HI148.out)); (case side2 => repeat (first | (with_reducible first | exact HB.out | apply below_alloc | apply pw_below_drewN | apply below_drew1 | refine below_set ?_ (IsS89.ge HI148.out)) | exact HB.out)); rintro e w36 ⟨rfl, hi, hb, hk⟩; have n0_ := Aside0.mk (hb); have n1_ := Aside0.mk (hi); clear HB; clear HI148; have HB := n0_; have HI148 := n1_; clear n0_ n1_; (try clear hb); (try clear hb2); (try clear hk); (try clear hi)) | (go_at_call 35; (with_reducible refine (life_Life_Left.calls g148 t167 t168 t169 t170 t171 t172 t173 w _ ?side1 ?side2 A30.out).mono ?_); (case side1 => repeat (first | (with_reducible first | exact HI148.out | apply IsS89.alloc | apply IsS89.drewN | apply IsS89.drew | apply IsS89.set_0 | apply IsS89.set_1 | apply IsS89.set_2) | exact HI148.out)); (case side2 => repeat (first | (with_reducible first | exact HB.out | apply below_alloc | apply pw_below_drewN | apply below_drew1 | refine below_set ?_ (IsS89.ge HI148.out)) | exact HB.out)); rintro e w37 ⟨rfl, hi, hb, hk⟩; have n0_ := Aside0.mk (hb); have n1_ := Aside0.mk (hi); clear HB; clear HI148; have HB := n0_; have HI148 := n1_; clear n0_ n1_; (try clear hb); (try clear hb2); (try clear hk); (try clear hi)))
                                      go_ret
                                      exact ⟨by first | rfl | (simp [errW_none, errW_some] <;> rfl) | (simp [*, errW_none, errW_some] <;> rfl), by repeat (first | (with_reducible first | exact HB.out | apply below_alloc | apply pw_below_drewN | apply below_drew1 | refine below_set ?_ (IsS89.ge HI148.out)) | exact HB.out)⟩
                                  · rw [if_neg c29] at H
                                    have c29b0 : (t166 == x12_18) = false := beq_eq_false_iff_ne.mpr c29
                                    have c29b1 : (t166 != x12_18) = true := bne_iff_ne.mpr c29
                                    obtain rfl := Option.some.inj H
                                    go_wp2_with (first | ((with_reducible refine gate_callee (f := 32) rfl ?_); refine goesL_ (some 62) rfl rfl Try.func32 (by kernel_rfl) rfl #[.pointer (some ⟨g148, 0, none⟩), .int .i64 x11_18] rfl (by (try simp only [List.map_toArray, List.map_cons, List.map_nil]); first | done | rfl | (simp only [List.length_drop, List.length_take]; rfl)) ?_; (with_reducible refine (life_Life_Do.calls kj18 g148 t156 t157 t158 x11_18 t160 true t162 t163 t164 t165 w _ ?side1 ?side2 A24.out).mono ?_); (case side1 => repeat (first | (with_reducible first | exact HI148.out | apply IsS89.alloc | apply IsS89.drewN | apply IsS89.drew | apply IsS89.set_0 | apply IsS89.set_1 | apply IsS89.set_2) | exact HI148.out)); (case side2 => repeat (first | (with_reducible first | exact HB.out | apply below_alloc | apply pw_below_drewN | apply below_drew1 | refine below_set ?_ (IsS89.ge HI148.out)) | exact HB.out)); rintro e w38 ⟨rfl, hi, hb, hk⟩; refine ⟨_, rfl, ?_⟩; have n0_ := Aside0.mk (hb); have n1_ := Aside0.mk (hi); clear HB; clear HI148; have HB := n0_; have HI148 := n1_; clear n0_ n1_; (try clear hb); (try clear hb2); (try clear hk); (try clear hi)) | (go_at_call 33; (with_reducible refine (life_Life_Mode.calls g148 t163 t164 t165 t166 t167 t168 t169 w _ ?side1 ?side2 A28.out).mono ?_); (case side1 => repeat (first | (with_reducible first | exact HI148.out | apply IsS89.alloc | apply IsS89.drewN | apply IsS89.drew | apply IsS89.set_0 | apply IsS89.set_1 | apply IsS89.set_2) | exact HI148.out)); (case side2 => repeat (first | (with_reducible first | exact HB.out | apply below_alloc | apply pw_below_drewN | apply below_drew1 | refine below_set ?_ (IsS89.ge HI148.out)) | exact HB.out)); rintro e w39 ⟨rfl, hi, hb, hk⟩; have n0_ := Aside0.mk (hb); have n1_ := Aside0.mk (hi); clear HB; clear HI148; have HB := n0_; have HI148 := n1_; clear n0_ n1_; (try clear hb); (try clear hb2); (try clear hk); (try clear hi)))
                                    go_ret
                                    exact ⟨by first | rfl | (simp [errW_none, errW_some] <;> rfl) | (simp [*, errW_none, errW_some] <;> rfl), by repeat (first | (with_reducible first | exact HB.out | apply below_alloc | apply pw_below_drewN | apply below_drew1 | refine below_set ?_ (IsS89.ge HI148.out)) | exact HB.out)⟩
                                · rw [if_neg c27] at H
                                  have c27b0 : (t162 == 0) = false := beq_eq_false_iff_ne.mpr c27
                                  have c27b1 : (t162 != 0) = true := bne_iff_ne.mpr c27
                                  obtain rfl := Option.some.inj H
                                  go_wp2_with (first | ((with_reducible refine gate_callee (f := 32) rfl ?_); refine goesL_ (some 62) rfl rfl Try.func32 (by kernel_rfl) rfl #[.pointer (some ⟨g148, 0, none⟩), .int .i64 x11_18] rfl (by (try simp only [List.map_toArray, List.map_cons, List.map_nil]); first | done | rfl | (simp only [List.length_drop, List.length_take]; rfl)) ?_; (with_reducible refine (life_Life_Do.calls kj18 g148 t156 t157 t158 x11_18 t160 true t162 t163 t164 t165 w _ ?side1 ?side2 A24.out).mono ?_); (case side1 => repeat (first | (with_reducible first | exact HI148.out | apply IsS89.alloc | apply IsS89.drewN | apply IsS89.drew | apply IsS89.set_0 | apply IsS89.set_1 | apply IsS89.set_2) | exact HI148.out)); (case side2 => repeat (first | (with_reducible first | exact HB.out | apply below_alloc | apply pw_below_drewN | apply below_drew1 | refine below_set ?_ (IsS89.ge HI148.out)) | exact HB.out)); rintro e w40 ⟨rfl, hi, hb, hk⟩; refine ⟨_, rfl, ?_⟩; have n0_ := Aside0.mk (hb); have n1_ := Aside0.mk (hi); clear HB; clear HI148; have HB := n0_; have HI148 := n1_; clear n0_ n1_; (try clear hb); (try clear hb2); (try clear hk); (try clear hi)))
                                  go_ret
                                  exact ⟨by first | rfl | (simp [errW_none, errW_some] <;> rfl) | (simp [*, errW_none, errW_some] <;> rfl), by repeat (first | (with_reducible first | exact HB.out | apply below_alloc | apply pw_below_drewN | apply below_drew1 | refine below_set ?_ (IsS89.ge HI148.out)) | exact HB.out)⟩
                              · replace c26 := Bool.eq_false_iff.mpr c26
                                subst c26
                                have H1 : (some false) = some r := by rw [if_neg (show ¬ (false = true) by decide)] at H; exact H
                                clear H
                                have H := H1
                                clear H1
                                obtain rfl := Option.some.inj H
                                go_wp2_with (first | ((with_reducible refine gate_callee (f := 32) rfl ?_); refine goesL_ (some 62) rfl rfl Try.func32 (by kernel_rfl) rfl #[.pointer (some ⟨g148, 0, none⟩), .int .i64 x11_18] rfl (by (try simp only [List.map_toArray, List.map_cons, List.map_nil]); first | done | rfl | (simp only [List.length_drop, List.length_take]; rfl)) ?_; (with_reducible refine (life_Life_Do.calls kj18 g148 t156 t157 t158 x11_18 t160 false t162 t163 t164 t165 w _ ?side1 ?side2 A24.out).mono ?_); (case side1 => repeat (first | (with_reducible first | exact HI148.out | apply IsS89.alloc | apply IsS89.drewN | apply IsS89.drew | apply IsS89.set_0 | apply IsS89.set_1 | apply IsS89.set_2) | exact HI148.out)); (case side2 => repeat (first | (with_reducible first | exact HB.out | apply below_alloc | apply pw_below_drewN | apply below_drew1 | refine below_set ?_ (IsS89.ge HI148.out)) | exact HB.out)); rintro e w41 ⟨rfl, hi, hb, hk⟩; refine ⟨_, rfl, ?_⟩; have n0_ := Aside0.mk (hb); have n1_ := Aside0.mk (hi); clear HB; clear HI148; have HB := n0_; have HI148 := n1_; clear n0_ n1_; (try clear hb); (try clear hb2); (try clear hk); (try clear hi)))
                                go_ret
                                exact ⟨by first | rfl | (simp [errW_none, errW_some] <;> rfl) | (simp [*, errW_none, errW_some] <;> rfl), by repeat (first | (with_reducible first | exact HB.out | apply below_alloc | apply pw_below_drewN | apply below_drew1 | refine below_set ?_ (IsS89.ge HI148.out)) | exact HB.out)⟩
                            · rw [if_neg c25] at H
                              have c25b0 : (t160 == x12_18) = false := beq_eq_false_iff_ne.mpr c25
                              have c25b1 : (t160 != x12_18) = true := bne_iff_ne.mpr c25
                              obtain rfl := Option.some.inj H
                              go_wp2_with (first | ((with_reducible refine gate_callee (f := 32) rfl ?_); refine goesL_ (some 62) rfl rfl Try.func32 (by kernel_rfl) rfl #[.pointer (some ⟨g148, 0, none⟩), .int .i64 x11_18] rfl (by (try simp only [List.map_toArray, List.map_cons, List.map_nil]); first | done | rfl | (simp only [List.length_drop, List.length_take]; rfl)) ?_; (with_reducible refine (life_Life_Do.calls kj18 g148 t156 t157 t158 x11_18 t160 t161 t162 t163 t164 t165 w _ ?side1 ?side2 A24.out).mono ?_); (case side1 => repeat (first | (with_reducible first | exact HI148.out | apply IsS89.alloc | apply IsS89.drewN | apply IsS89.drew | apply IsS89.set_0 | apply IsS89.set_1 | apply IsS89.set_2) | exact HI148.out)); (case side2 => repeat (first | (with_reducible first | exact HB.out | apply below_alloc | apply pw_below_drewN | apply below_drew1 | refine below_set ?_ (IsS89.ge HI148.out)) | exact HB.out)); rintro e w42 ⟨rfl, hi, hb, hk⟩; refine ⟨_, rfl, ?_⟩; have n0_ := Aside0.mk (hb); have n1_ := Aside0.mk (hi); clear HB; clear HI148; have HB := n0_; have HI148 := n1_; clear n0_ n1_; (try clear hb); (try clear hb2); (try clear hk); (try clear hi)))
                              go_ret
                              exact ⟨by first | rfl | (simp [errW_none, errW_some] <;> rfl) | (simp [*, errW_none, errW_some] <;> rfl), by repeat (first | (with_reducible first | exact HB.out | apply below_alloc | apply pw_below_drewN | apply below_drew1 | refine below_set ?_ (IsS89.ge HI148.out)) | exact HB.out)⟩
                      · rw [if_neg c18] at H
                        exact absurd H (by simp)
                    · rw [if_neg c17] at H
                      exact absurd H (by simp)
            · replace c10 := Bool.eq_false_iff.mpr c10
              subst c10
              have H1 : (some true) = some r := by rw [if_neg (show ¬ (false = true) by decide)] at H; exact H
              clear H
              have H := H1
              clear H1
              obtain rfl := Option.some.inj H
              go_wp2
              go_ret
              exact ⟨by first | rfl | (simp [errW_none, errW_some] <;> rfl) | (simp [*, errW_none, errW_some] <;> rfl), by repeat (first | (with_reducible first | exact HB.out | apply below_alloc | apply pw_below_drewN | apply below_drew1 | refine below_set ?_ (IsS89.ge HI148.out)) | exact HB.out)⟩
  · replace c5 := Bool.eq_false_iff.mpr c5
    subst c5
    have H1 : (some false) = some r := by rw [if_neg (show ¬ (false = true) by decide)] at H; exact H
    clear H
    have H := H1
    clear H1
    obtain rfl := Option.some.inj H
    go_enter Try.func10, Try.ntmps10
    go_wp2_with (first | ((with_reducible refine gate_callee (f := 29) rfl ?_); refine goesL_ (some 22) rfl rfl Try.func29 (by kernel_rfl) rfl #[.int .i64 (wrap64 (Int.tmod (IntKind.u64.wrap (a0)) 30))] rfl (by (try simp only [List.map_toArray, List.map_cons, List.map_nil]); first | done | rfl | (simp only [List.length_drop, List.length_take]; rfl)) ?_; (with_reducible refine (life_New.calls (wrap64 (Int.tmod (IntKind.u64.wrap (a0)) 30)) t145 t146 t147 t149 w _ ?side1 A3.out).mono ?_); (case side1 => repeat (first | (with_reducible first | exact HB.out | apply below_alloc | apply pw_below_drewN | apply below_drew1) | exact HB.out)); rintro e w43 ⟨g148, rfl, hi, hb, hb2⟩; refine ⟨_, rfl, ?_⟩; have n0_ := Aside0.mk (hb); have n1_ := Aside0.mk (hi); clear HB; have HB := n0_; have HI148 := n1_; clear n0_ n1_; (try clear hb); (try clear hb2); (try clear hk); (try clear hi)) | (go_at_call 30; (with_reducible refine (monocoquelaw32_told.calls k  false _ A4.out).mono ?_); rintro e w44 ⟨rfl, hb⟩; have n0_ := Aside0.mk (IsS89.below (by repeat (first | (with_reducible first | exact HI148.out | apply IsS89.alloc | apply IsS89.drewN | apply IsS89.drew | apply IsS89.set_0 | apply IsS89.set_1 | apply IsS89.set_2) | exact HI148.out)) hb); have n1_ := Aside0.mk (below_step (by repeat (first | (with_reducible first | exact HB.out | apply below_alloc | apply pw_below_drewN | apply below_drew1 | refine below_set ?_ (IsS89.ge HI148.out)) | exact HB.out)) hb); clear HI148; clear HB; have HI148 := n0_; have HB := n1_; clear n0_ n1_; (try clear hb); (try clear hb2); (try clear hk); (try clear hi)))
    go_ret
    exact ⟨by first | rfl | (simp [errW_none, errW_some] <;> rfl) | (simp [*, errW_none, errW_some] <;> rfl), by repeat (first | (with_reducible first | exact HB.out | apply below_alloc | apply pw_below_drewN | apply below_drew1 | refine below_set ?_ (IsS89.ge HI148.out)) | exact HB.out)⟩

end Go.Proofs.Ytpabbpcklgipnaa.PLifeStarts
