/- The walks of functions that the law SpanShares reaches. Written by this session's turn of the kit's printer, not by the kit's own. -/
import Derived.Test.YtlhjmbhoeabhmaaQSpanSharesx0
import Derived.Test.YtlhjmbhoeabhmaaQSpanSharesx1
namespace Go.Proofs.Ytlhjmbhoeabhmaa.PSpanShares
open Go.RowKit Go.Proofs.YtlhjmbhoeabhmaaW.PrintWords Go.Proofs.YtlhjmbhoeabhmaaW.PrintLast Go.Proofs.YtlhjmbhoeabhmaaW.PrintMore
attribute [local go_sem] max2_int min2_int max_two min_two max_three min_three max_four min_four   -- for this text's walks alone
set_option linter.unusedVariables false
set_option linter.unusedSimpArgs false

/-! ### monocoquelaw01_SpanShares: function 8 -/
mutual
def monocoquelaw01_SpanShares.j0 : Nat → List Int → Int → Bool → Option (Bool)
  | 0, _, _, _ => none
  | k + 1, x0, x1, x25 => if x25 = true then ((monocoquelaw01_speaks.f k).bind fun t121 => (some t121)) else (monocoquelaw01_SpanShares.l0 k x1 ([] : List Int) x0 (x0.length : Int) 0)
def monocoquelaw01_SpanShares.l0 : Nat → Int → List Int → List Int → Int → Int → Option (Bool)
  | 0, _, _, _, _, _ => none
  | k + 1, x1, x5, x27, x28, x29 => if x29 < x28 then (if 0 ≤ x29 then (if x29 < (x27.length : Int) then (if x5.length < 17592186044416 then (monocoquelaw01_SpanShares.l0 k x1 (x5 ++ [wrap64 (rd x27 x29)]) x27 x28 (wrap64 (x29 + 1))) else (none)) else (none)) else (none)) else (monocoquelaw01_SpanShares.l1 k x5 (wrap64 ((wrap64 (x1)) + 1)) ([] : List Int) x5 (x5.length : Int) 0)
def monocoquelaw01_SpanShares.l1 : Nat → List Int → Int → List Int → List Int → Int → Int → Option (Bool)
  | 0, _, _, _, _, _, _ => none
  | k + 1, x5, x8, x9, x42, x43, x44 => if x44 < x43 then (if 0 ≤ x44 then (if x44 < (x42.length : Int) then (if x9.length < 17592186044416 then (monocoquelaw01_SpanShares.l1 k x5 x8 (x9 ++ [wrap64 ((rd x42 x44) * x8)]) x42 x43 (wrap64 (x44 + 1))) else (none)) else (none)) else (none)) else ((span_Gcd.f k x5).bind fun t130 => ((span_Gcd.f k x9).bind fun t131 => (if t131 = (wrap64 (t130 * x8)) then ((span_Lcm.f k x5).bind fun bt132 => (monocoquelaw01_SpanShares.l2 k x5 t130 bt132.1 bt132.2 x5 (x5.length : Int) 0)) else (some false))))
def monocoquelaw01_SpanShares.l2 : Nat → List Int → Int → Int → Int → List Int → Int → Int → Option (Bool)
  | 0, _, _, _, _, _, _, _ => none
  | k + 1, x5, x12, x13, x14, x68, x69, x70 => if x70 < x69 then (if 0 ≤ x70 then (if x70 < (x68.length : Int) then (if x12 > 0 then (if x12 = 0 then (none) else (if (Int.tmod (rd x68 x70) x12) = 0 then (if x14 = 0 then (if (rd x68 x70) < 1 then (some false) else (if (rd x68 x70) = 0 then (none) else (if (Int.tmod x13 (rd x68 x70)) = 0 then (monocoquelaw01_SpanShares.l2 k x5 x12 x13 x14 x68 x69 (wrap64 (x70 + 1))) else (some false)))) else (monocoquelaw01_SpanShares.l2 k x5 x12 x13 x14 x68 x69 (wrap64 (x70 + 1)))) else (some false))) else (if x14 = 0 then (if (rd x68 x70) < 1 then (some false) else (if (rd x68 x70) = 0 then (none) else (if (Int.tmod x13 (rd x68 x70)) = 0 then (monocoquelaw01_SpanShares.l2 k x5 x12 x13 x14 x68 x69 (wrap64 (x70 + 1))) else (some false)))) else (monocoquelaw01_SpanShares.l2 k x5 x12 x13 x14 x68 x69 (wrap64 (x70 + 1))))) else (none)) else (none)) else (if x5.length + x5.length < 17592186044416 then ((span_Lcm.f k (x5 ++ x5)).bind fun bt138 => (if x13 = bt138.1 then (if x14 = bt138.2 then (if x14 = 0 then (if x13 ≥ 1 then (some (decide (x13 ≤ 1099511627776))) else (some false)) else (some true)) else (some false)) else (some false))) else (none))
end
def monocoquelaw01_SpanShares.f (k : Nat) (l0 : List Int) (a1 : Int) : Option (Bool) := (monocoquelaw01_speaks.f k).bind fun t120 => (if t120 = true then (monocoquelaw01_SpanShares.j0 k l0 a1 (decide ((l0.length : Int) > 40))) else (monocoquelaw01_SpanShares.j0 k l0 a1 true))
theorem monocoquelaw01_SpanShares.mono_l : ∀ k, (∀ y0 y1 y2, LeO (monocoquelaw01_SpanShares.j0 k y0 y1 y2) (monocoquelaw01_SpanShares.j0 (k + 1) y0 y1 y2)) ∧ (∀ y0 y1 y2 y3 y4, LeO (monocoquelaw01_SpanShares.l0 k y0 y1 y2 y3 y4) (monocoquelaw01_SpanShares.l0 (k + 1) y0 y1 y2 y3 y4)) ∧ (∀ y0 y1 y2 y3 y4 y5, LeO (monocoquelaw01_SpanShares.l1 k y0 y1 y2 y3 y4 y5) (monocoquelaw01_SpanShares.l1 (k + 1) y0 y1 y2 y3 y4 y5)) ∧ (∀ y0 y1 y2 y3 y4 y5 y6, LeO (monocoquelaw01_SpanShares.l2 k y0 y1 y2 y3 y4 y5 y6) (monocoquelaw01_SpanShares.l2 (k + 1) y0 y1 y2 y3 y4 y5 y6))
  | 0 => ⟨fun _ _ _ r h => by simp [monocoquelaw01_SpanShares.j0] at h, fun _ _ _ _ _ r h => by simp [monocoquelaw01_SpanShares.l0] at h, fun _ _ _ _ _ _ r h => by simp [monocoquelaw01_SpanShares.l1] at h, fun _ _ _ _ _ _ _ r h => by simp [monocoquelaw01_SpanShares.l2] at h⟩
  | k + 1 => by
    obtain ⟨ih0, ih1, ih2, ih3⟩ := monocoquelaw01_SpanShares.mono_l k
    refine ⟨?_, ?_, ?_, ?_⟩
    · intro y0 y1 y2
      unfold monocoquelaw01_SpanShares.j0
      repeat' first
      | (with_reducible exact ih0 _ _ _)
      | (with_reducible exact ih1 _ _ _ _ _)
      | (with_reducible exact ih2 _ _ _ _ _ _)
      | (with_reducible exact ih3 _ _ _ _ _ _ _)
      | (with_reducible exact monocoquelaw01_speaks.mono _)
      | (with_reducible exact span_Gcd.mono _ _)
      | (with_reducible exact span_Lcm.mono _ _)
      | (with_reducible exact LeO.refl _)
      | (with_reducible exact LeO.none _)
      | (with_reducible refine LeO.ite ?_ ?_)
      | (with_reducible refine LeO.bind ?_ (fun _ => ?_))
      | exact ih0 _ _ _
      | exact ih1 _ _ _ _ _
      | exact ih2 _ _ _ _ _ _
      | exact ih3 _ _ _ _ _ _ _
      | exact monocoquelaw01_speaks.mono _
      | exact span_Gcd.mono _ _
      | exact span_Lcm.mono _ _
      | exact LeO.none _
      | refine LeO.ite ?_ ?_
      | refine LeO.bind ?_ (fun _ => ?_)
    · intro y0 y1 y2 y3 y4
      unfold monocoquelaw01_SpanShares.l0
      repeat' first
      | (with_reducible exact ih0 _ _ _)
      | (with_reducible exact ih1 _ _ _ _ _)
      | (with_reducible exact ih2 _ _ _ _ _ _)
      | (with_reducible exact ih3 _ _ _ _ _ _ _)
      | (with_reducible exact monocoquelaw01_speaks.mono _)
      | (with_reducible exact span_Gcd.mono _ _)
      | (with_reducible exact span_Lcm.mono _ _)
      | (with_reducible exact LeO.refl _)
      | (with_reducible exact LeO.none _)
      | (with_reducible refine LeO.ite ?_ ?_)
      | (with_reducible refine LeO.bind ?_ (fun _ => ?_))
      | exact ih0 _ _ _
      | exact ih1 _ _ _ _ _
      | exact ih2 _ _ _ _ _ _
      | exact ih3 _ _ _ _ _ _ _
      | exact monocoquelaw01_speaks.mono _
      | exact span_Gcd.mono _ _
      | exact span_Lcm.mono _ _
      | exact LeO.none _
      | refine LeO.ite ?_ ?_
      | refine LeO.bind ?_ (fun _ => ?_)
    · intro y0 y1 y2 y3 y4 y5
      unfold monocoquelaw01_SpanShares.l1
      repeat' first
      | (with_reducible exact ih0 _ _ _)
      | (with_reducible exact ih1 _ _ _ _ _)
      | (with_reducible exact ih2 _ _ _ _ _ _)
      | (with_reducible exact ih3 _ _ _ _ _ _ _)
      | (with_reducible exact monocoquelaw01_speaks.mono _)
      | (with_reducible exact span_Gcd.mono _ _)
      | (with_reducible exact span_Lcm.mono _ _)
      | (with_reducible exact LeO.refl _)
      | (with_reducible exact LeO.none _)
      | (with_reducible refine LeO.ite ?_ ?_)
      | (with_reducible refine LeO.bind ?_ (fun _ => ?_))
      | exact ih0 _ _ _
      | exact ih1 _ _ _ _ _
      | exact ih2 _ _ _ _ _ _
      | exact ih3 _ _ _ _ _ _ _
      | exact monocoquelaw01_speaks.mono _
      | exact span_Gcd.mono _ _
      | exact span_Lcm.mono _ _
      | exact LeO.none _
      | refine LeO.ite ?_ ?_
      | refine LeO.bind ?_ (fun _ => ?_)
    · intro y0 y1 y2 y3 y4 y5 y6
      unfold monocoquelaw01_SpanShares.l2
      repeat' first
      | (with_reducible exact ih0 _ _ _)
      | (with_reducible exact ih1 _ _ _ _ _)
      | (with_reducible exact ih2 _ _ _ _ _ _)
      | (with_reducible exact ih3 _ _ _ _ _ _ _)
      | (with_reducible exact monocoquelaw01_speaks.mono _)
      | (with_reducible exact span_Gcd.mono _ _)
      | (with_reducible exact span_Lcm.mono _ _)
      | (with_reducible exact LeO.refl _)
      | (with_reducible exact LeO.none _)
      | (with_reducible refine LeO.ite ?_ ?_)
      | (with_reducible refine LeO.bind ?_ (fun _ => ?_))
      | exact ih0 _ _ _
      | exact ih1 _ _ _ _ _
      | exact ih2 _ _ _ _ _ _
      | exact ih3 _ _ _ _ _ _ _
      | exact monocoquelaw01_speaks.mono _
      | exact span_Gcd.mono _ _
      | exact span_Lcm.mono _ _
      | exact LeO.none _
      | refine LeO.ite ?_ ?_
      | refine LeO.bind ?_ (fun _ => ?_)
theorem monocoquelaw01_SpanShares.mono : ∀ a0 a1 k, LeO (monocoquelaw01_SpanShares.f k a0 a1) (monocoquelaw01_SpanShares.f (k + 1) a0 a1) := by
  intro a0 a1 k
  obtain ⟨ih0, ih1, ih2, ih3⟩ := monocoquelaw01_SpanShares.mono_l k
  unfold monocoquelaw01_SpanShares.f
  repeat' first
      | (with_reducible exact ih0 _ _ _)
      | (with_reducible exact ih1 _ _ _ _ _)
      | (with_reducible exact ih2 _ _ _ _ _ _)
      | (with_reducible exact ih3 _ _ _ _ _ _ _)
      | (with_reducible exact monocoquelaw01_speaks.mono _)
      | (with_reducible exact span_Gcd.mono _ _)
      | (with_reducible exact span_Lcm.mono _ _)
      | (with_reducible exact LeO.refl _)
      | (with_reducible exact LeO.none _)
      | (with_reducible refine LeO.ite ?_ ?_)
      | (with_reducible refine LeO.bind ?_ (fun _ => ?_))
      | exact ih0 _ _ _
      | exact ih1 _ _ _ _ _
      | exact ih2 _ _ _ _ _ _
      | exact ih3 _ _ _ _ _ _ _
      | exact monocoquelaw01_speaks.mono _
      | exact span_Gcd.mono _ _
      | exact span_Lcm.mono _ _
      | exact LeO.none _
      | refine LeO.ite ?_ ?_
      | refine LeO.bind ?_ (fun _ => ?_)
set_option maxHeartbeats 8000000 in
set_option maxRecDepth 100000 in
theorem monocoquelaw01_SpanShares.calls (k : Nat) (A0 : Option Addr) (c0 : Nat) (l0 : List Int) (a1 : Int) (r : Bool) (w : World) (hr0 : Kd.C (Kd.int .u32) w A0 l0.length l0) (hc0 : l0.length ≤ c0) (h : monocoquelaw01_SpanShares.f k l0 a1 = some r) :
    Calls Try.prog 8 #[.slice A0 l0.length c0, .int .u16 a1] w fun e w' => e = .returned (.bool r) ∧ Below w.heap.size w w' := by
  have HR0 := Aside0.mk hr0
  have HC0 := Aside0.mk hc0
  clear hr0 hc0
  have HB := Aside0.mk (Below.refl w.heap.size w)
  have H : ((monocoquelaw01_speaks.f k).bind fun t120 => (if t120 = true then (monocoquelaw01_SpanShares.j0 k l0 a1 (decide ((l0.length : Int) > 40))) else (monocoquelaw01_SpanShares.j0 k l0 a1 true))) = some r := h
  clear h
  have HC3 := Aside0.mk H
  clear H
  go_enter Try.func8, Try.ntmps8
  go_upto_region 1 with (fail)
  go_cut [25] (fun v25 wc => ∃ (kq : Nat) (x25_2 : Bool), v25 = .bool x25_2 ∧ Aside0 (monocoquelaw01_SpanShares.j0 kq l0 a1 x25_2 = some r) ∧ Aside0 (kq ≤ k) ∧ Aside0 (Below w.heap.size w wc))
  case first =>
    have H := HC3.out
    clear HC3
    replace H := Option.bind_eq_some_iff.mp H
    obtain ⟨t120, A40, H⟩ := H
    replace H : (if t120 = true then (monocoquelaw01_SpanShares.j0 k l0 a1 (decide ((l0.length : Int) > 40))) else (monocoquelaw01_SpanShares.j0 k l0 a1 true)) = some r := H
    have A4 := Aside0.mk A40
    clear A40
    by_cases c5 : t120 = true
    · subst c5
      have H1 : (monocoquelaw01_SpanShares.j0 k l0 a1 (decide ((l0.length : Int) > 40))) = some r := by rw [if_pos rfl] at H; exact H
      clear H
      have H := H1
      clear H1
      have H' := Aside0.mk H
      clear H
      go_wp2_with (first | ((with_reducible refine gate_callee (f := 10) rfl ?_); refine goesL_ (some 19) rfl rfl Try.func10 (by kernel_rfl) rfl #[] rfl (by (try simp only [List.map_toArray, List.map_cons, List.map_nil]); first | done | rfl | (simp only [List.length_drop, List.length_take]; rfl)) ?_; (with_reducible refine (monocoquelaw01_speaks.calls k  true _ A4.out).mono ?_); rintro e w6 ⟨rfl, hb⟩; refine ⟨_, rfl, ?_⟩; have n0_ := Aside0.mk (below_step (by repeat (first | (with_reducible first | exact HB.out | apply below_alloc | apply pw_below_drewN | apply below_drew1) | exact HB.out)) hb); clear HB; have HB := n0_; clear n0_; (try clear hb); (try clear hb2); (try clear hk); (try clear hi)))
      go_meet
      case rel => exact ⟨_, (decide ((l0.length : Int) > 40)), (by first | rfl | (simp; done) | (simp [*]; done)), H', ⟨by first | omega | exact Nat.le_refl _⟩, ⟨by repeat (first | (with_reducible first | exact HB.out | apply below_alloc | apply pw_below_drewN | apply below_drew1) | exact HB.out)⟩⟩
    · replace c5 := Bool.eq_false_iff.mpr c5
      subst c5
      have H1 : (monocoquelaw01_SpanShares.j0 k l0 a1 true) = some r := by rw [if_neg (show ¬ (false = true) by decide)] at H; exact H
      clear H
      have H := H1
      clear H1
      have H' := Aside0.mk H
      clear H
      go_wp2_with (first | ((with_reducible refine gate_callee (f := 10) rfl ?_); refine goesL_ (some 19) rfl rfl Try.func10 (by kernel_rfl) rfl #[] rfl (by (try simp only [List.map_toArray, List.map_cons, List.map_nil]); first | done | rfl | (simp only [List.length_drop, List.length_take]; rfl)) ?_; (with_reducible refine (monocoquelaw01_speaks.calls k  false _ A4.out).mono ?_); rintro e w7 ⟨rfl, hb⟩; refine ⟨_, rfl, ?_⟩; have n0_ := Aside0.mk (below_step (by repeat (first | (with_reducible first | exact HB.out | apply below_alloc | apply pw_below_drewN | apply below_drew1) | exact HB.out)) hb); clear HB; have HB := n0_; clear n0_; (try clear hb); (try clear hb2); (try clear hk); (try clear hi)))
      go_meet
      case rel => exact ⟨_, (true), (by first | rfl | (simp; done) | (simp [*]; done)), H', ⟨by first | omega | exact Nat.le_refl _⟩, ⟨by repeat (first | (with_reducible first | exact HB.out | apply below_alloc | apply pw_below_drewN | apply below_drew1) | exact HB.out)⟩⟩
  case rest =>
    clear HC3
    try clear c1
    try clear p2
    try clear c5
    obtain ⟨kq, x25_2, rfl, HA, HJ2, HB⟩ := hcut
    cases kq with
    | zero => exact absurd HA.out (by simp [monocoquelaw01_SpanShares.j0])
    | succ kj2 =>
      have H := HA.out
      clear HA
      simp only [monocoquelaw01_SpanShares.j0] at H
      by_cases c8 : x25_2 = true
      · subst c8
        have H1 : ((monocoquelaw01_speaks.f kj2).bind fun t121 => (some t121)) = some r := by rw [if_pos rfl] at H; exact H
        clear H
        have H := H1
        clear H1
        replace H := Option.bind_eq_some_iff.mp H
        obtain ⟨t121, A90, H⟩ := H
        replace H : (some t121) = some r := H
        have A9 := Aside0.mk A90
        clear A90
        obtain rfl := Option.some.inj H
        go_wp2_with (first | ((with_reducible refine gate_callee (f := 10) rfl ?_); refine goesL_ (some 26) rfl rfl Try.func10 (by kernel_rfl) rfl #[] rfl (by (try simp only [List.map_toArray, List.map_cons, List.map_nil]); first | done | rfl | (simp only [List.length_drop, List.length_take]; rfl)) ?_; (with_reducible refine (monocoquelaw01_speaks.calls kj2  t121 _ A9.out).mono ?_); rintro e w10 ⟨rfl, hb⟩; refine ⟨_, rfl, ?_⟩; have n0_ := Aside0.mk (below_step (by repeat (first | (with_reducible first | exact HB.out | apply below_alloc | apply pw_below_drewN | apply below_drew1) | exact HB.out)) hb); clear HB; have HB := n0_; clear n0_; (try clear hb); (try clear hb2); (try clear hk); (try clear hi)))
        go_ret
        exact ⟨by first | rfl | (simp [errW_none, errW_some] <;> rfl) | (simp [*, errW_none, errW_some] <;> rfl), by repeat (first | (with_reducible first | exact HB.out | apply below_alloc | apply pw_below_drewN | apply below_drew1) | exact HB.out)⟩
      · replace c8 := Bool.eq_false_iff.mpr c8
        subst c8
        have H1 : (monocoquelaw01_SpanShares.l0 kj2 a1 ([] : List Int) l0 (l0.length : Int) 0) = some r := by rw [if_neg (show ¬ (false = true) by decide)] at H; exact H
        clear H
        have H := H1
        clear H1
        have H' := Aside0.mk H
        clear H
        go_wp2
        go_loopg [5, 29] kj2 (fun kq v5 v29 w' => ∃ (x5_2 : List Int) (x29_2 : Int), v29 = .int .i64 x29_2 ∧ Aside0 (monocoquelaw01_SpanShares.l0 kq a1 x5_2 l0 (l0.length : Int) x29_2 = some r) ∧ Aside0 (kq ≤ kj2) ∧ Aside0 (Kd.R (Kd.int .i64) 3 w' w.heap.size (fun _ => True) v5 x5_2) ∧ Aside0 (Below w.heap.size w w'))
        case atStart => exact ⟨(([] : List Int)), (0), (by first | rfl | (simp; done) | (simp [*]; done)), H', ⟨Nat.le_refl _⟩, ⟨by first | exact Kd.R_nil _ _ _ _ _ | exact Kd.N_nil _ _ _ _ _ | exact Kd.V_nil _ _ _ _ _ | exact Kd.Q_nil _ _ _ _ _ | exact Kd.S_nil _ _ _ _ _⟩, ⟨by repeat (first | (with_reducible first | exact HB.out | apply below_alloc | apply pw_below_drewN | apply below_drew1) | exact HB.out)⟩⟩
        case round =>
          clear H'
          try clear c1
          try clear p2
          try clear c5
          try clear c8
          try clear c10
          try clear p2
          obtain ⟨x5_2, x29_2, rfl, HA, HK2, HO_5, HB⟩ := hrel
          cases gk with
          | zero => exact absurd HA.out (by simp [monocoquelaw01_SpanShares.l0])
          | succ k2 =>
            have H := HA.out
            clear HA
            simp only [monocoquelaw01_SpanShares.l0] at H
            by_cases c11 : x29_2 < (l0.length : Int)
            · rw [if_pos c11] at H
              have c11b0 : decide (x29_2 < (l0.length : Int)) = true := decide_eq_true c11
              clear c11
              by_cases c12 : 0 ≤ x29_2
              · rw [if_pos c12] at H
                have c12b0 : decide (0 ≤ x29_2) = true := decide_eq_true c12
                clear c12
                by_cases c13 : x29_2 < (l0.length : Int)
                · rw [if_pos c13] at H
                  have c13b0 : decide (x29_2 < (l0.length : Int)) = true := decide_eq_true c13
                  clear c13
                  by_cases c14 : x5_2.length < 17592186044416
                  · rw [if_pos c14] at H
                    have LMc14 := Aside0.mk c14
                    clear c14
                    obtain ⟨y123, hy123⟩ : ∃ y_ : List Int, y_ = (x5_2 ++ [wrap64 (rd l0 x29_2)]) := ⟨_, rfl⟩
                    replace H : (monocoquelaw01_SpanShares.l0 k2 a1 y123 l0 (l0.length : Int) (wrap64 (x29_2 + 1))) = some r := by first | (rw [hy123]; with_reducible exact H) | (have H2_ := (Option.bind_some _ _).symm.trans H; rw [hy123]; with_reducible exact H2_) | (have H2_ := (Option.bind_some _ _).symm.trans H; with_reducible exact H2_) | with_reducible exact H | (rw [hy123]; exact H) | exact H
                    have Ny123 := Aside0.mk hy123
                    clear hy123
                    have H' := Aside0.mk H
                    clear H
                    have p122 : 0 ≤ (x29_2 : Int) := of_decide_eq_true (by first | (with_reducible assumption) | assumption)
                    have q122 : x29_2 < (l0.length : Int) := of_decide_eq_true (by first | (with_reducible assumption) | assumption)
                    obtain ⟨ad122, e122, hx122_0⟩ := Kd.at_int HR0.out x29_2 p122 q122
                    cases e122
                    replace hx122_0 := (HB.out.cell (World.block_lt_of_cell? w _ hx122_0)).trans hx122_0
                    replace p122 := eq_true p122
                    replace q122 := eq_true q122
                    go_wp2_with (first | ((with_reducible refine gate_builtin (b := .append) (xs := #[.tmp 33, .tmp 36]) rfl ?_); (try (refine gate_guard (by rfl) ?_; dsimp only)); at_builtin; refine Kd.R_append (Kd.int .i64) (w0 := w) w.heap.size rfl (.tmp 33) (.tmp 36) 37 3 (.int .i64 0) 8 rfl Try.underlying37 info3 rfl (by decide) (by omega) u5 x5_2 (wrap64 (rd l0 x29_2)) [.int .i64 (wrap64 (rd l0 x29_2))] (fun _ => True) (fun _ => False) rfl rfl ?aP (fun _ hk => hk.elim) ?aF ?aO ?aB ?aS ?aL ?_; (case aP => exact rfl); (case aB => exact (by repeat (first | (with_reducible first | exact HB.out | apply below_alloc | apply pw_below_drewN | apply below_drew1) | exact HB.out))); (case aF => exact (fun _ _ => trivial)); (case aO => exact (by (with_reducible repeat (first | apply Kd.R_alloc | apply Kd.R_drewN | apply Kd.R_drew)); exact HO_5.out)); (case aS => exact (below_size (by repeat (first | (with_reducible first | exact HB.out | apply below_alloc | apply pw_below_drewN | apply below_drew1) | exact HB.out)))); (case aL => have := LMc14.out; omega); intro v124 w15 ho hb hg hat; rw [← Ny123.out] at ho; have n0_ := Aside0.mk (hb); have n1_ := Aside0.mk (ho); clear HB; clear HO_5; have HB := n0_; have HO125 := n1_; clear n0_ n1_; clear ho hb hg hat))
                    go_roundg k2
                    case measure => have := HJ2.out; have := HK2.out; omega
                    case rel => exact ⟨(y123), (wrap64 (x29_2 + 1)), (by first | rfl | (simp; done) | (simp [*]; done)), H', ⟨by have := HJ2.out; have := HK2.out; omega⟩, ⟨by (with_reducible repeat (first | apply Kd.R_alloc | apply Kd.R_drewN | apply Kd.R_drew)); exact HO125.out⟩, ⟨by repeat (first | (with_reducible first | exact HB.out | apply below_alloc | apply pw_below_drewN | apply below_drew1) | exact HB.out)⟩⟩
                  · rw [if_neg c14] at H
                    exact absurd H (by simp)
                · rw [if_neg c13] at H
                  exact absurd H (by simp)
              · rw [if_neg c12] at H
                exact absurd H (by simp)
            · rw [if_neg c11] at H
              have c11b0 : decide (x29_2 < (l0.length : Int)) = false := decide_eq_false c11
              clear c11
              have H' := Aside0.mk H
              clear H
              obtain ⟨Ao16, co16, eo16⟩ := Kd.R_slice HO_5.out
              subst eo16
              go_wp2
              go_loopg [9, 44] k2 (fun kq v9 v44 w' => ∃ (x9_3 : List Int) (x44_3 : Int), v44 = .int .i64 x44_3 ∧ Aside0 (monocoquelaw01_SpanShares.l1 kq x5_2 (wrap64 ((wrap64 (a1)) + 1)) x9_3 x5_2 (x5_2.length : Int) x44_3 = some r) ∧ Aside0 (kq ≤ k2) ∧ Aside0 (Kd.R (Kd.int .i64) 3 w' w.heap.size (fun k_ => some k_ ≠ (v9 : Value).ownBlock) (.slice Ao16 x5_2.length co16) x5_2) ∧ Aside0 (Kd.R (Kd.int .i64) 3 w' w.heap.size (fun k_ => some k_ ≠ ((.slice Ao16 x5_2.length co16) : Value).ownBlock ∧ some k_ ≠ ((.slice Ao16 x5_2.length co16) : Value).ownBlock) v9 x9_3) ∧ Aside0 (Kd.R (Kd.int .i64) 3 w' w.heap.size (fun k_ => some k_ ≠ (v9 : Value).ownBlock) (.slice Ao16 x5_2.length co16) x5_2) ∧ Aside0 (Below w.heap.size w w'))
              case atStart => exact ⟨(([] : List Int)), (0), (by first | rfl | (simp; done) | (simp [*]; done)), H', ⟨Nat.le_refl _⟩, ⟨by (with_reducible repeat (first | apply Kd.R_alloc | apply Kd.R_drewN | apply Kd.R_drew)); exact Kd.R_mono HO_5.out (fun _ hk => (by simp [Value.ownBlock]))⟩, ⟨by first | exact Kd.R_nil _ _ _ _ _ | exact Kd.N_nil _ _ _ _ _ | exact Kd.V_nil _ _ _ _ _ | exact Kd.Q_nil _ _ _ _ _ | exact Kd.S_nil _ _ _ _ _⟩, ⟨by (with_reducible repeat (first | apply Kd.R_alloc | apply Kd.R_drewN | apply Kd.R_drew)); exact Kd.R_mono HO_5.out (fun _ hk => (by simp [Value.ownBlock]))⟩, ⟨by repeat (first | (with_reducible first | exact HB.out | apply below_alloc | apply pw_below_drewN | apply below_drew1) | exact HB.out)⟩⟩
              case round =>
                clear H'
                try clear c1
                try clear p1
                try clear q1
                try clear hx1
                try clear p2
                try clear c5
                try clear p6
                try clear c8
                try clear c10
                try clear c11
                try clear c11b0
                try clear c12
                try clear c12b0
                try clear p12
                try clear q12
                try clear hx12
                try clear c13
                try clear c13b0
                try clear c14
                try clear hx122_0
                try clear p122
                try clear p2
                try clear q122
                obtain ⟨x9_3, x44_3, rfl, HA, HK3, HO_5, HO_9, HO_42, HB⟩ := hrel
                cases gk with
                | zero => exact absurd HA.out (by simp [monocoquelaw01_SpanShares.l1])
                | succ k3 =>
                  have H := HA.out
                  clear HA
                  simp only [monocoquelaw01_SpanShares.l1] at H
                  by_cases c17 : x44_3 < (x5_2.length : Int)
                  · rw [if_pos c17] at H
                    have c17b0 : decide (x44_3 < (x5_2.length : Int)) = true := decide_eq_true c17
                    clear c17
                    by_cases c18 : 0 ≤ x44_3
                    · rw [if_pos c18] at H
                      have c18b0 : decide (0 ≤ x44_3) = true := decide_eq_true c18
                      clear c18
                      by_cases c19 : x44_3 < (x5_2.length : Int)
                      · rw [if_pos c19] at H
                        have c19b0 : decide (x44_3 < (x5_2.length : Int)) = true := decide_eq_true c19
                        clear c19
                        by_cases c20 : x9_3.length < 17592186044416
                        · rw [if_pos c20] at H
                          have LMc20 := Aside0.mk c20
                          clear c20
                          obtain ⟨y127, hy127⟩ : ∃ y_ : List Int, y_ = (x9_3 ++ [wrap64 ((rd x5_2 x44_3) * (wrap64 ((wrap64 (a1)) + 1)))]) := ⟨_, rfl⟩
                          replace H : (monocoquelaw01_SpanShares.l1 k3 x5_2 (wrap64 ((wrap64 (a1)) + 1)) y127 x5_2 (x5_2.length : Int) (wrap64 (x44_3 + 1))) = some r := by first | (rw [hy127]; with_reducible exact H) | (have H2_ := (Option.bind_some _ _).symm.trans H; rw [hy127]; with_reducible exact H2_) | (have H2_ := (Option.bind_some _ _).symm.trans H; with_reducible exact H2_) | with_reducible exact H | (rw [hy127]; exact H) | exact H
                          have Ny127 := Aside0.mk hy127
                          clear hy127
                          have H' := Aside0.mk H
                          clear H
                          have p126 : 0 ≤ (x44_3 : Int) := of_decide_eq_true (by first | (with_reducible assumption) | assumption)
                          have q126 : x44_3 < (x5_2.length : Int) := of_decide_eq_true (by first | (with_reducible assumption) | assumption)
                          obtain ⟨ad126, e126, hx126_0⟩ := Kd.at_int (Kd.R_reads' HO_42.out).2.2 x44_3 p126 q126
                          cases e126
                          replace p126 := eq_true p126
                          replace q126 := eq_true q126
                          go_wp2_with (first | ((with_reducible refine gate_builtin (b := .append) (xs := #[.tmp 48, .tmp 52]) rfl ?_); (try (refine gate_guard (by rfl) ?_; dsimp only)); at_builtin; refine Kd.R_append (Kd.int .i64) (w0 := w) w.heap.size rfl (.tmp 48) (.tmp 52) 37 3 (.int .i64 0) 8 rfl Try.underlying37 info3 rfl (by decide) (by omega) u9 x9_3 (wrap64 ((rd x5_2 x44_3) * (wrap64 ((wrap64 (a1)) + 1)))) [.int .i64 (wrap64 ((rd x5_2 x44_3) * (wrap64 ((wrap64 (a1)) + 1))))] (fun k_ => some k_ ≠ (.slice (some ad126) x5_2.length co16 : Value).ownBlock ∧ some k_ ≠ (.slice (some ad126) x5_2.length co16 : Value).ownBlock) (fun _ => False) rfl rfl ?aP (fun _ hk => hk.elim) ?aF ?aO ?aB ?aS ?aL ?_; (case aP => exact rfl); (case aB => exact (by repeat (first | (with_reducible first | exact HB.out | apply below_alloc | apply pw_below_drewN | apply below_drew1) | exact HB.out))); (case aF => exact (fun k_ hk => ⟨Kd.fresh' (Kd.R_lt (by (with_reducible repeat (first | apply Kd.R_alloc | apply Kd.R_drewN | apply Kd.R_drew)); exact HO_5.out)) k_ hk, Kd.fresh' (Kd.R_lt (by (with_reducible repeat (first | apply Kd.R_alloc | apply Kd.R_drewN | apply Kd.R_drew)); exact HO_42.out)) k_ hk⟩)); (case aO => exact (by (with_reducible repeat (first | apply Kd.R_alloc | apply Kd.R_drewN | apply Kd.R_drew)); exact HO_9.out)); (case aS => exact (below_size (by repeat (first | (with_reducible first | exact HB.out | apply below_alloc | apply pw_below_drewN | apply below_drew1) | exact HB.out)))); (case aL => have := LMc20.out; omega); intro v128 w21 ho hb hg hat; rw [← Ny127.out] at ho; have n0_ := Aside0.mk (Kd.R_after (ok := (fun _ => True)) (by (with_reducible repeat (first | apply Kd.R_alloc | apply Kd.R_drewN | apply Kd.R_drew)); exact Kd.R_mono HO_5.out (fun _ hk => ⟨trivial, hk⟩)) hg hat); have n1_ := Aside0.mk (Kd.R_after (ok := (fun _ => True)) (by (with_reducible repeat (first | apply Kd.R_alloc | apply Kd.R_drewN | apply Kd.R_drew)); exact Kd.R_mono HO_42.out (fun _ hk => ⟨trivial, hk⟩)) hg hat); have n2_ := Aside0.mk (hb); have n3_ := Aside0.mk (ho); clear HO_5; clear HO_42; clear HB; clear HO_9; have HO_5 := n0_; have HO_42 := n1_; have HB := n2_; have HO129 := n3_; clear n0_ n1_ n2_ n3_; clear ho hb hg hat))
                          go_roundg k3
                          case measure => have := HJ2.out; have := HK2.out; have := HK3.out; omega
                          case rel => exact ⟨(y127), (wrap64 (x44_3 + 1)), (by first | rfl | (simp; done) | (simp [*]; done)), H', ⟨by have := HJ2.out; have := HK2.out; have := HK3.out; omega⟩, ⟨by (with_reducible repeat (first | apply Kd.R_alloc | apply Kd.R_drewN | apply Kd.R_drew)); exact Kd.R_mono HO_5.out (fun _ hk => hk.2)⟩, ⟨by (with_reducible repeat (first | apply Kd.R_alloc | apply Kd.R_drewN | apply Kd.R_drew)); exact HO129.out⟩, ⟨by (with_reducible repeat (first | apply Kd.R_alloc | apply Kd.R_drewN | apply Kd.R_drew)); exact Kd.R_mono HO_42.out (fun _ hk => hk.2)⟩, ⟨by repeat (first | (with_reducible first | exact HB.out | apply below_alloc | apply pw_below_drewN | apply below_drew1) | exact HB.out)⟩⟩
                        · rw [if_neg c20] at H
                          exact absurd H (by simp)
                      · rw [if_neg c19] at H
                        exact absurd H (by simp)
                    · rw [if_neg c18] at H
                      exact absurd H (by simp)
                  · rw [if_neg c17] at H
                    have c17b0 : decide (x44_3 < (x5_2.length : Int)) = false := decide_eq_false c17
                    clear c17
                    replace H := Option.bind_eq_some_iff.mp H
                    obtain ⟨t130, A220, H⟩ := H
                    replace H : ((span_Gcd.f k3 x9_3).bind fun t131 => (if t131 = (wrap64 (t130 * (wrap64 ((wrap64 (a1)) + 1)))) then ((span_Lcm.f k3 x5_2).bind fun bt132 => (monocoquelaw01_SpanShares.l2 k3 x5_2 t130 bt132.1 bt132.2 x5_2 (x5_2.length : Int) 0)) else (some false))) = some r := H
                    have A22 := Aside0.mk A220
                    clear A220
                    replace H := Option.bind_eq_some_iff.mp H
                    obtain ⟨t131, A230, H⟩ := H
                    replace H : (if t131 = (wrap64 (t130 * (wrap64 ((wrap64 (a1)) + 1)))) then ((span_Lcm.f k3 x5_2).bind fun bt132 => (monocoquelaw01_SpanShares.l2 k3 x5_2 t130 bt132.1 bt132.2 x5_2 (x5_2.length : Int) 0)) else (some false)) = some r := H
                    have A23 := Aside0.mk A230
                    clear A230
                    by_cases c24 : t131 = (wrap64 (t130 * (wrap64 ((wrap64 (a1)) + 1))))
                    · rw [if_pos c24] at H
                      have c24b0 : (t131 == (wrap64 (t130 * (wrap64 ((wrap64 (a1)) + 1))))) = true := beq_iff_eq.mpr c24
                      have c24b1 : (t131 != (wrap64 (t130 * (wrap64 ((wrap64 (a1)) + 1))))) = false := bne_eq_false_iff_eq.mpr c24
                      clear c24
                      replace H := Option.bind_eq_some_iff.mp H
                      obtain ⟨⟨t132, t133⟩, A250, H⟩ := H
                      replace H : (monocoquelaw01_SpanShares.l2 k3 x5_2 t130 t132 t133 x5_2 (x5_2.length : Int) 0) = some r := H
                      have A25 := Aside0.mk A250
                      clear A250
                      have H' := Aside0.mk H
                      clear H
                      go_wp2_with (first | ((with_reducible refine gate_callee (f := 25) rfl ?_); refine goesL_ (some 56) rfl rfl Try.func25 (by kernel_rfl) rfl #[.slice Ao16 x5_2.length co16] rfl (by (try simp only [List.map_toArray, List.map_cons, List.map_nil]); first | done | rfl | (simp only [List.length_drop, List.length_take]; rfl)) ?_; (with_reducible refine (span_Gcd.calls k3 _ _ x5_2 t130 _ ?side1 ?side2 A22.out).mono ?_); (case side1 => repeat (first | exact (Kd.R_reads' HO_5.out).2.2 | (with_reducible refine Kd.C_alloc ?_ _) | (with_reducible refine Kd.C_drewN ?_ _) | (with_reducible refine Kd.C_drew ?_))); (case side2 => exact (Kd.R_reads' HO_5.out).2.1); rintro e w' ⟨rfl, ⟨nd, rfl⟩⟩; refine ⟨_, rfl, ?_⟩; obtain ⟨Ao26, co26, eo26⟩ := Kd.R_slice HO_9.out; subst eo26) | ((with_reducible refine gate_callee (f := 25) rfl ?_); refine goesL_ (some 58) rfl rfl Try.func25 (by kernel_rfl) rfl #[.slice Ao26 x9_3.length co26] rfl (by (try simp only [List.map_toArray, List.map_cons, List.map_nil]); first | done | rfl | (simp only [List.length_drop, List.length_take]; rfl)) ?_; (with_reducible refine (span_Gcd.calls k3 _ _ x9_3 t131 _ ?side1 ?side2 A23.out).mono ?_); (case side1 => repeat (first | exact (Kd.R_reads' HO_9.out).2.2 | (with_reducible refine Kd.C_alloc ?_ _) | (with_reducible refine Kd.C_drewN ?_ _) | (with_reducible refine Kd.C_drew ?_))); (case side2 => exact (Kd.R_reads' HO_9.out).2.1); rintro e w' ⟨rfl, ⟨nd, rfl⟩⟩; refine ⟨_, rfl, ?_⟩) | ((with_reducible refine gate_callee (f := 23) rfl ?_); refine goesL_ (some 65) rfl rfl Try.func23 (by kernel_rfl) rfl #[.slice Ao16 x5_2.length co16] rfl (by (try simp only [List.map_toArray, List.map_cons, List.map_nil]); first | done | rfl | (simp only [List.length_drop, List.length_take]; rfl)) ?_; (with_reducible refine (span_Lcm.calls k3 _ _ x5_2 t132 t133 _ ?side1 ?side2 A25.out).mono ?_); (case side1 => repeat (first | exact (Kd.R_reads' HO_5.out).2.2 | (with_reducible refine Kd.C_alloc ?_ _) | (with_reducible refine Kd.C_drewN ?_ _) | (with_reducible refine Kd.C_drew ?_))); (case side2 => exact (Kd.R_reads' HO_5.out).2.1); rintro e w27 ⟨rfl, hb⟩; refine ⟨_, rfl, ?_⟩; have n0_ := Aside0.mk (Kd.R_below (by (with_reducible repeat (first | apply Kd.R_alloc | apply Kd.R_drewN | apply Kd.R_drew)); exact HO_5.out) hb); have n1_ := Aside0.mk (Kd.R_below (by (with_reducible repeat (first | apply Kd.R_alloc | apply Kd.R_drewN | apply Kd.R_drew)); exact HO_9.out) hb); have n2_ := Aside0.mk (Kd.R_below (by (with_reducible repeat (first | apply Kd.R_alloc | apply Kd.R_drewN | apply Kd.R_drew)); exact HO_42.out) hb); have n3_ := Aside0.mk (below_step (by repeat (first | (with_reducible first | exact HB.out | apply below_alloc | apply pw_below_drewN | apply below_drew1) | exact HB.out)) hb); clear HO_5; clear HO_9; clear HO_42; clear HB; have HO_5 := n0_; have HO_9 := n1_; have HO_42 := n2_; have HB := n3_; clear n0_ n1_ n2_ n3_; (try clear hb); (try clear hb2); (try clear hk); (try clear hi)))
                      go_loopg [70] k3 (fun kq v70 w' => ∃ (x70_4 : Int), v70 = .int .i64 x70_4 ∧ Aside0 (monocoquelaw01_SpanShares.l2 kq x5_2 t130 t132 t133 x5_2 (x5_2.length : Int) x70_4 = some r) ∧ Aside0 (kq ≤ k3) ∧ Aside0 (Kd.R (Kd.int .i64) 3 w' w.heap.size (fun _ => True) (.slice Ao16 x5_2.length co16) x5_2) ∧ Aside0 (Kd.R (Kd.int .i64) 3 w' w.heap.size (fun _ => True) (.slice Ao16 x5_2.length co16) x5_2) ∧ Aside0 (Below w.heap.size w w'))
                      case atStart => exact ⟨(0), (by first | rfl | (simp; done) | (simp [*]; done)), H', ⟨Nat.le_refl _⟩, ⟨by (with_reducible repeat (first | apply Kd.R_alloc | apply Kd.R_drewN | apply Kd.R_drew)); exact Kd.R_mono HO_5.out (fun _ hk => trivial)⟩, ⟨by (with_reducible repeat (first | apply Kd.R_alloc | apply Kd.R_drewN | apply Kd.R_drew)); exact Kd.R_mono HO_5.out (fun _ hk => trivial)⟩, ⟨by repeat (first | (with_reducible first | exact HB.out | apply below_alloc | apply pw_below_drewN | apply below_drew1) | exact HB.out)⟩⟩
                      case round =>
                        clear H'
                        try clear c1
                        try clear p1
                        try clear q1
                        try clear hx1
                        try clear c2
                        try clear p2
                        try clear c5
                        try clear p6
                        try clear c8
                        try clear c10
                        try clear c11
                        try clear c11b0
                        try clear c12
                        try clear c12b0
                        try clear p12
                        try clear q12
                        try clear hx12
                        try clear c13
                        try clear c13b0
                        try clear c14
                        try clear c17
                        try clear c17b0
                        try clear c18
                        try clear c18b0
                        try clear c19
                        try clear c19b0
                        try clear c20
                        try clear c23
                        try clear c24
                        try clear c24b0
                        try clear c24b1
                        try clear c25
                        try clear hx122_0
                        try clear hx126_0
                        try clear p1
                        try clear p12
                        try clear p122
                        try clear p126
                        try clear p2
                        try clear p6
                        try clear q1
                        try clear q12
                        try clear q122
                        try clear q126
                        obtain ⟨x70_4, rfl, HA, HK4, HO_5, HO_68, HB⟩ := hrel
                        cases gk with
                        | zero => exact absurd HA.out (by simp [monocoquelaw01_SpanShares.l2])
                        | succ k4 =>
                          have H := HA.out
                          clear HA
                          simp only [monocoquelaw01_SpanShares.l2] at H
                          by_cases c28 : x70_4 < (x5_2.length : Int)
                          · rw [if_pos c28] at H
                            have c28b0 : decide (x70_4 < (x5_2.length : Int)) = true := decide_eq_true c28
                            clear c28
                            by_cases c29 : 0 ≤ x70_4
                            · rw [if_pos c29] at H
                              have c29b0 : decide (0 ≤ x70_4) = true := decide_eq_true c29
                              clear c29
                              by_cases c30 : x70_4 < (x5_2.length : Int)
                              · rw [if_pos c30] at H
                                have c30b0 : decide (x70_4 < (x5_2.length : Int)) = true := decide_eq_true c30
                                clear c30
                                by_cases c31 : t130 > 0
                                · rw [if_pos c31] at H
                                  have c31b0 : decide (0 < t130) = true := decide_eq_true c31
                                  clear c31
                                  by_cases c32 : t130 = 0
                                  · rw [if_pos c32] at H
                                    exact absurd H (by simp)
                                  · rw [if_neg c32] at H
                                    have c32b0 : (t130 == 0) = false := beq_eq_false_iff_ne.mpr c32
                                    have c32b1 : (t130 != 0) = true := bne_iff_ne.mpr c32
                                    by_cases c33 : (Int.tmod (rd x5_2 x70_4) t130) = 0
                                    · rw [if_pos c33] at H
                                      have c33b0 : ((Int.tmod (rd x5_2 x70_4) t130) == 0) = true := beq_iff_eq.mpr c33
                                      have c33b1 : ((Int.tmod (rd x5_2 x70_4) t130) != 0) = false := bne_eq_false_iff_eq.mpr c33
                                      clear c33
                                      by_cases c34 : t133 = 0
                                      · rw [if_pos c34] at H
                                        have c34b0 : (t133 == 0) = true := beq_iff_eq.mpr c34
                                        have c34b1 : (t133 != 0) = false := bne_eq_false_iff_eq.mpr c34
                                        clear c34
                                        by_cases c35 : (rd x5_2 x70_4) < 1
                                        · rw [if_pos c35] at H
                                          have c35b0 : decide ((rd x5_2 x70_4) < 1) = true := decide_eq_true c35
                                          clear c35
                                          obtain rfl := Option.some.inj H
                                          have p134 : 0 ≤ (x70_4 : Int) := of_decide_eq_true (by first | (with_reducible assumption) | assumption)
                                          have q134 : x70_4 < (x5_2.length : Int) := of_decide_eq_true (by first | (with_reducible assumption) | assumption)
                                          obtain ⟨ad134, e134, hx134_0⟩ := Kd.at_int (Kd.R_reads' HO_68.out).2.2 x70_4 p134 q134
                                          cases e134
                                          replace p134 := eq_true p134
                                          replace q134 := eq_true q134
                                          go_wp2
                                          go_ret
                                          exact ⟨by first | rfl | (simp [errW_none, errW_some] <;> rfl) | (simp [*, errW_none, errW_some] <;> rfl), by repeat (first | (with_reducible first | exact HB.out | apply below_alloc | apply pw_below_drewN | apply below_drew1) | exact HB.out)⟩
                                        · rw [if_neg c35] at H
                                          have c35b0 : decide ((rd x5_2 x70_4) < 1) = false := decide_eq_false c35
                                          clear c35
                                          by_cases c36 : (rd x5_2 x70_4) = 0
                                          · rw [if_pos c36] at H
                                            exact absurd H (by simp)
                                          · rw [if_neg c36] at H
                                            have c36b0 : ((rd x5_2 x70_4) == 0) = false := beq_eq_false_iff_ne.mpr c36
                                            have c36b1 : ((rd x5_2 x70_4) != 0) = true := bne_iff_ne.mpr c36
                                            by_cases c37 : (Int.tmod t132 (rd x5_2 x70_4)) = 0
                                            · rw [if_pos c37] at H
                                              have c37b0 : ((Int.tmod t132 (rd x5_2 x70_4)) == 0) = true := beq_iff_eq.mpr c37
                                              have c37b1 : ((Int.tmod t132 (rd x5_2 x70_4)) != 0) = false := bne_eq_false_iff_eq.mpr c37
                                              clear c37
                                              have H' := Aside0.mk H
                                              clear H
                                              have p134 : 0 ≤ (x70_4 : Int) := of_decide_eq_true (by first | (with_reducible assumption) | assumption)
                                              have q134 : x70_4 < (x5_2.length : Int) := of_decide_eq_true (by first | (with_reducible assumption) | assumption)
                                              obtain ⟨ad134, e134, hx134_0⟩ := Kd.at_int (Kd.R_reads' HO_68.out).2.2 x70_4 p134 q134
                                              cases e134
                                              replace p134 := eq_true p134
                                              replace q134 := eq_true q134
                                              go_wp2
                                              go_roundg k4
                                              case measure => have := HJ2.out; have := HK2.out; have := HK3.out; have := HK4.out; omega
                                              case rel => exact ⟨(wrap64 (x70_4 + 1)), (by first | rfl | (simp; done) | (simp [*]; done)), H', ⟨by have := HJ2.out; have := HK2.out; have := HK3.out; have := HK4.out; omega⟩, ⟨by (with_reducible repeat (first | apply Kd.R_alloc | apply Kd.R_drewN | apply Kd.R_drew)); exact HO_5.out⟩, ⟨by (with_reducible repeat (first | apply Kd.R_alloc | apply Kd.R_drewN | apply Kd.R_drew)); exact HO_68.out⟩, ⟨by repeat (first | (with_reducible first | exact HB.out | apply below_alloc | apply pw_below_drewN | apply below_drew1) | exact HB.out)⟩⟩
                                            · rw [if_neg c37] at H
                                              have c37b0 : ((Int.tmod t132 (rd x5_2 x70_4)) == 0) = false := beq_eq_false_iff_ne.mpr c37
                                              have c37b1 : ((Int.tmod t132 (rd x5_2 x70_4)) != 0) = true := bne_iff_ne.mpr c37
                                              obtain rfl := Option.some.inj H
                                              have p134 : 0 ≤ (x70_4 : Int) := of_decide_eq_true (by first | (with_reducible assumption) | assumption)
                                              have q134 : x70_4 < (x5_2.length : Int) := of_decide_eq_true (by first | (with_reducible assumption) | assumption)
                                              obtain ⟨ad134, e134, hx134_0⟩ := Kd.at_int (Kd.R_reads' HO_68.out).2.2 x70_4 p134 q134
                                              cases e134
                                              replace p134 := eq_true p134
                                              replace q134 := eq_true q134
                                              go_wp2
                                              go_ret
                                              exact ⟨by first | rfl | (simp [errW_none, errW_some] <;> rfl) | (simp [*, errW_none, errW_some] <;> rfl), by repeat (first | (with_reducible first | exact HB.out | apply below_alloc | apply pw_below_drewN | apply below_drew1) | exact HB.out)⟩
                                      · rw [if_neg c34] at H
                                        have c34b0 : (t133 == 0) = false := beq_eq_false_iff_ne.mpr c34
                                        have c34b1 : (t133 != 0) = true := bne_iff_ne.mpr c34
                                        have H' := Aside0.mk H
                                        clear H
                                        have p134 : 0 ≤ (x70_4 : Int) := of_decide_eq_true (by first | (with_reducible assumption) | assumption)
                                        have q134 : x70_4 < (x5_2.length : Int) := of_decide_eq_true (by first | (with_reducible assumption) | assumption)
                                        obtain ⟨ad134, e134, hx134_0⟩ := Kd.at_int (Kd.R_reads' HO_68.out).2.2 x70_4 p134 q134
                                        cases e134
                                        replace p134 := eq_true p134
                                        replace q134 := eq_true q134
                                        go_wp2
                                        go_roundg k4
                                        case measure => have := HJ2.out; have := HK2.out; have := HK3.out; have := HK4.out; omega
                                        case rel => exact ⟨(wrap64 (x70_4 + 1)), (by first | rfl | (simp; done) | (simp [*]; done)), H', ⟨by have := HJ2.out; have := HK2.out; have := HK3.out; have := HK4.out; omega⟩, ⟨by (with_reducible repeat (first | apply Kd.R_alloc | apply Kd.R_drewN | apply Kd.R_drew)); exact HO_5.out⟩, ⟨by (with_reducible repeat (first | apply Kd.R_alloc | apply Kd.R_drewN | apply Kd.R_drew)); exact HO_68.out⟩, ⟨by repeat (first | (with_reducible first | exact HB.out | apply below_alloc | apply pw_below_drewN | apply below_drew1) | exact HB.out)⟩⟩
                                    · rw [if_neg c33] at H
                                      have c33b0 : ((Int.tmod (rd x5_2 x70_4) t130) == 0) = false := beq_eq_false_iff_ne.mpr c33
                                      have c33b1 : ((Int.tmod (rd x5_2 x70_4) t130) != 0) = true := bne_iff_ne.mpr c33
                                      obtain rfl := Option.some.inj H
                                      have p134 : 0 ≤ (x70_4 : Int) := of_decide_eq_true (by first | (with_reducible assumption) | assumption)
                                      have q134 : x70_4 < (x5_2.length : Int) := of_decide_eq_true (by first | (with_reducible assumption) | assumption)
                                      obtain ⟨ad134, e134, hx134_0⟩ := Kd.at_int (Kd.R_reads' HO_68.out).2.2 x70_4 p134 q134
                                      cases e134
                                      replace p134 := eq_true p134
                                      replace q134 := eq_true q134
                                      go_wp2
                                      go_ret
                                      exact ⟨by first | rfl | (simp [errW_none, errW_some] <;> rfl) | (simp [*, errW_none, errW_some] <;> rfl), by repeat (first | (with_reducible first | exact HB.out | apply below_alloc | apply pw_below_drewN | apply below_drew1) | exact HB.out)⟩
                                · rw [if_neg c31] at H
                                  have c31b0 : decide (0 < t130) = false := decide_eq_false c31
                                  clear c31
                                  by_cases c38 : t133 = 0
                                  · rw [if_pos c38] at H
                                    have c38b0 : (t133 == 0) = true := beq_iff_eq.mpr c38
                                    have c38b1 : (t133 != 0) = false := bne_eq_false_iff_eq.mpr c38
                                    clear c38
                                    by_cases c39 : (rd x5_2 x70_4) < 1
                                    · rw [if_pos c39] at H
                                      have c39b0 : decide ((rd x5_2 x70_4) < 1) = true := decide_eq_true c39
                                      clear c39
                                      obtain rfl := Option.some.inj H
                                      have p134 : 0 ≤ (x70_4 : Int) := of_decide_eq_true (by first | (with_reducible assumption) | assumption)
                                      have q134 : x70_4 < (x5_2.length : Int) := of_decide_eq_true (by first | (with_reducible assumption) | assumption)
                                      obtain ⟨ad134, e134, hx134_0⟩ := Kd.at_int (Kd.R_reads' HO_68.out).2.2 x70_4 p134 q134
                                      cases e134
                                      replace p134 := eq_true p134
                                      replace q134 := eq_true q134
                                      go_wp2
                                      go_ret
                                      exact ⟨by first | rfl | (simp [errW_none, errW_some] <;> rfl) | (simp [*, errW_none, errW_some] <;> rfl), by repeat (first | (with_reducible first | exact HB.out | apply below_alloc | apply pw_below_drewN | apply below_drew1) | exact HB.out)⟩
                                    · rw [if_neg c39] at H
                                      have c39b0 : decide ((rd x5_2 x70_4) < 1) = false := decide_eq_false c39
                                      clear c39
                                      by_cases c40 : (rd x5_2 x70_4) = 0
                                      · rw [if_pos c40] at H
                                        exact absurd H (by simp)
                                      · rw [if_neg c40] at H
                                        have c40b0 : ((rd x5_2 x70_4) == 0) = false := beq_eq_false_iff_ne.mpr c40
                                        have c40b1 : ((rd x5_2 x70_4) != 0) = true := bne_iff_ne.mpr c40
                                        by_cases c41 : (Int.tmod t132 (rd x5_2 x70_4)) = 0
                                        · rw [if_pos c41] at H
                                          have c41b0 : ((Int.tmod t132 (rd x5_2 x70_4)) == 0) = true := beq_iff_eq.mpr c41
                                          have c41b1 : ((Int.tmod t132 (rd x5_2 x70_4)) != 0) = false := bne_eq_false_iff_eq.mpr c41
                                          clear c41
                                          have H' := Aside0.mk H
                                          clear H
                                          have p134 : 0 ≤ (x70_4 : Int) := of_decide_eq_true (by first | (with_reducible assumption) | assumption)
                                          have q134 : x70_4 < (x5_2.length : Int) := of_decide_eq_true (by first | (with_reducible assumption) | assumption)
                                          obtain ⟨ad134, e134, hx134_0⟩ := Kd.at_int (Kd.R_reads' HO_68.out).2.2 x70_4 p134 q134
                                          cases e134
                                          replace p134 := eq_true p134
                                          replace q134 := eq_true q134
                                          go_wp2
                                          go_roundg k4
                                          case measure => have := HJ2.out; have := HK2.out; have := HK3.out; have := HK4.out; omega
                                          case rel => exact ⟨(wrap64 (x70_4 + 1)), (by first | rfl | (simp; done) | (simp [*]; done)), H', ⟨by have := HJ2.out; have := HK2.out; have := HK3.out; have := HK4.out; omega⟩, ⟨by (with_reducible repeat (first | apply Kd.R_alloc | apply Kd.R_drewN | apply Kd.R_drew)); exact HO_5.out⟩, ⟨by (with_reducible repeat (first | apply Kd.R_alloc | apply Kd.R_drewN | apply Kd.R_drew)); exact HO_68.out⟩, ⟨by repeat (first | (with_reducible first | exact HB.out | apply below_alloc | apply pw_below_drewN | apply below_drew1) | exact HB.out)⟩⟩
                                        · rw [if_neg c41] at H
                                          have c41b0 : ((Int.tmod t132 (rd x5_2 x70_4)) == 0) = false := beq_eq_false_iff_ne.mpr c41
                                          have c41b1 : ((Int.tmod t132 (rd x5_2 x70_4)) != 0) = true := bne_iff_ne.mpr c41
                                          obtain rfl := Option.some.inj H
                                          have p134 : 0 ≤ (x70_4 : Int) := of_decide_eq_true (by first | (with_reducible assumption) | assumption)
                                          have q134 : x70_4 < (x5_2.length : Int) := of_decide_eq_true (by first | (with_reducible assumption) | assumption)
                                          obtain ⟨ad134, e134, hx134_0⟩ := Kd.at_int (Kd.R_reads' HO_68.out).2.2 x70_4 p134 q134
                                          cases e134
                                          replace p134 := eq_true p134
                                          replace q134 := eq_true q134
                                          go_wp2
                                          go_ret
                                          exact ⟨by first | rfl | (simp [errW_none, errW_some] <;> rfl) | (simp [*, errW_none, errW_some] <;> rfl), by repeat (first | (with_reducible first | exact HB.out | apply below_alloc | apply pw_below_drewN | apply below_drew1) | exact HB.out)⟩
                                  · rw [if_neg c38] at H
                                    have c38b0 : (t133 == 0) = false := beq_eq_false_iff_ne.mpr c38
                                    have c38b1 : (t133 != 0) = true := bne_iff_ne.mpr c38
                                    have H' := Aside0.mk H
                                    clear H
                                    have p134 : 0 ≤ (x70_4 : Int) := of_decide_eq_true (by first | (with_reducible assumption) | assumption)
                                    have q134 : x70_4 < (x5_2.length : Int) := of_decide_eq_true (by first | (with_reducible assumption) | assumption)
                                    obtain ⟨ad134, e134, hx134_0⟩ := Kd.at_int (Kd.R_reads' HO_68.out).2.2 x70_4 p134 q134
                                    cases e134
                                    replace p134 := eq_true p134
                                    replace q134 := eq_true q134
                                    go_wp2
                                    go_roundg k4
                                    case measure => have := HJ2.out; have := HK2.out; have := HK3.out; have := HK4.out; omega
                                    case rel => exact ⟨(wrap64 (x70_4 + 1)), (by first | rfl | (simp; done) | (simp [*]; done)), H', ⟨by have := HJ2.out; have := HK2.out; have := HK3.out; have := HK4.out; omega⟩, ⟨by (with_reducible repeat (first | apply Kd.R_alloc | apply Kd.R_drewN | apply Kd.R_drew)); exact HO_5.out⟩, ⟨by (with_reducible repeat (first | apply Kd.R_alloc | apply Kd.R_drewN | apply Kd.R_drew)); exact HO_68.out⟩, ⟨by repeat (first | (with_reducible first | exact HB.out | apply below_alloc | apply pw_below_drewN | apply below_drew1) | exact HB.out)⟩⟩
                              · rw [if_neg c30] at H
                                exact absurd H (by simp)
                            · rw [if_neg c29] at H
                              exact absurd H (by simp)
                          · rw [if_neg c28] at H
                            have c28b0 : decide (x70_4 < (x5_2.length : Int)) = false := decide_eq_false c28
                            clear c28
                            by_cases c42 : x5_2.length + x5_2.length < 17592186044416
                            · rw [if_pos c42] at H
                              have LMc42 := Aside0.mk c42
                              clear c42
                              obtain ⟨y135, hy135⟩ : ∃ y_ : List Int, y_ = (x5_2 ++ x5_2) := ⟨_, rfl⟩
                              replace H : ((span_Lcm.f k4 y135).bind fun bt138 => (if t132 = bt138.1 then (if t133 = bt138.2 then (if t133 = 0 then (if t132 ≥ 1 then (some (decide (t132 ≤ 1099511627776))) else (some false)) else (some true)) else (some false)) else (some false))) = some r := by first | (rw [hy135]; with_reducible exact H) | (have H2_ := (Option.bind_some _ _).symm.trans H; rw [hy135]; with_reducible exact H2_) | (have H2_ := (Option.bind_some _ _).symm.trans H; with_reducible exact H2_) | with_reducible exact H | (rw [hy135]; exact H) | exact H
                              have Ny135 := Aside0.mk hy135
                              clear hy135
                              replace H := Option.bind_eq_some_iff.mp H
                              obtain ⟨⟨t138, t139⟩, A430, H⟩ := H
                              replace H : (if t132 = t138 then (if t133 = t139 then (if t133 = 0 then (if t132 ≥ 1 then (some (decide (t132 ≤ 1099511627776))) else (some false)) else (some true)) else (some false)) else (some false)) = some r := H
                              have A43 := Aside0.mk A430
                              clear A430
                              by_cases c44 : t132 = t138
                              · rw [if_pos c44] at H
                                have c44b0 : (t132 == t138) = true := beq_iff_eq.mpr c44
                                have c44b1 : (t132 != t138) = false := bne_eq_false_iff_eq.mpr c44
                                clear c44
                                by_cases c45 : t133 = t139
                                · rw [if_pos c45] at H
                                  have c45b0 : (t133 == t139) = true := beq_iff_eq.mpr c45
                                  have c45b1 : (t133 != t139) = false := bne_eq_false_iff_eq.mpr c45
                                  clear c45
                                  by_cases c46 : t133 = 0
                                  · rw [if_pos c46] at H
                                    have c46b0 : (t133 == 0) = true := beq_iff_eq.mpr c46
                                    have c46b1 : (t133 != 0) = false := bne_eq_false_iff_eq.mpr c46
                                    clear c46
                                    by_cases c47 : t132 ≥ 1
                                    · rw [if_pos c47] at H
                                      have c47b0 : decide (1 ≤ t132) = true := decide_eq_true c47
                                      clear c47
                                      obtain rfl := Option.some.inj H
                                      go_wp2_with (first | ((with_reducible refine gate_builtin (b := .append) (xs := #[.tmp 98, .tmp 99]) rfl ?_); (try (refine gate_guard (by rfl) ?_; dsimp only)); at_builtin; refine Kd.R_append_rows (Kd.int .i64) (w0 := w) w.heap.size rfl (.tmp 98) (.tmp 99) 37 3 (.int .i64 0) 8 rfl Try.underlying37 info3 rfl (by decide) (by omega) (.slice Ao16 x5_2.length co16) x5_2 x5_2 _ _ _ (fun _ => True) (fun _ => False) rfl rfl ?aO ?aR (fun _ _ h => h) (fun _ h => h.elim) ?aF ?aB ?aS ?aL ?_; (case aR => repeat (first | exact (Kd.R_reads' HO_5.out).2.2 | (with_reducible refine Kd.C_alloc ?_ _) | (with_reducible refine Kd.C_drewN ?_ _) | (with_reducible refine Kd.C_drew ?_))); (case aB => exact (by repeat (first | (with_reducible first | exact HB.out | apply below_alloc | apply pw_below_drewN | apply below_drew1) | exact HB.out))); (case aF => exact (fun _ _ => trivial)); (case aO => exact (by (with_reducible repeat (first | apply Kd.R_alloc | apply Kd.R_drewN | apply Kd.R_drew)); exact HO_5.out)); (case aS => exact (below_size (by repeat (first | (with_reducible first | exact HB.out | apply below_alloc | apply pw_below_drewN | apply below_drew1) | exact HB.out)))); (case aL => have := LMc42.out; omega); intro v136 w48 ho hb hg hat; rw [← Ny135.out] at ho; have n0_ := Aside0.mk (hb); have n1_ := Aside0.mk (ho); clear HB; clear HO_5; have HB := n0_; have HO137 := n1_; clear n0_ n1_; clear ho hb hg hat; obtain ⟨Ao49, co49, eo49⟩ := Kd.R_slice HO137.out; subst eo49) | ((with_reducible refine gate_callee (f := 23) rfl ?_); refine goesL_ (some 101) rfl rfl Try.func23 (by kernel_rfl) rfl #[.slice Ao49 y135.length co49] rfl (by (try simp only [List.map_toArray, List.map_cons, List.map_nil]); first | done | rfl | (simp only [List.length_drop, List.length_take]; rfl)) ?_; (with_reducible refine (span_Lcm.calls k4 _ _ y135 t138 t139 _ ?side1 ?side2 A43.out).mono ?_); (case side1 => repeat (first | exact (Kd.R_reads' HO137.out).2.2 | (with_reducible refine Kd.C_alloc ?_ _) | (with_reducible refine Kd.C_drewN ?_ _) | (with_reducible refine Kd.C_drew ?_))); (case side2 => exact (Kd.R_reads' HO137.out).2.1); rintro e w50 ⟨rfl, hb⟩; refine ⟨_, rfl, ?_⟩; have n0_ := Aside0.mk (Kd.R_below (by (with_reducible repeat (first | apply Kd.R_alloc | apply Kd.R_drewN | apply Kd.R_drew)); exact HO137.out) hb); have n1_ := Aside0.mk (below_step (by repeat (first | (with_reducible first | exact HB.out | apply below_alloc | apply pw_below_drewN | apply below_drew1) | exact HB.out)) hb); clear HO137; clear HB; have HO137 := n0_; have HB := n1_; clear n0_ n1_; (try clear hb); (try clear hb2); (try clear hk); (try clear hi)))
                                      go_ret
                                      exact ⟨by first | rfl | (simp [errW_none, errW_some] <;> rfl) | (simp [*, errW_none, errW_some] <;> rfl), by repeat (first | (with_reducible first | exact HB.out | apply below_alloc | apply pw_below_drewN | apply below_drew1) | exact HB.out)⟩
                                    · rw [if_neg c47] at H
                                      have c47b0 : decide (1 ≤ t132) = false := decide_eq_false c47
                                      clear c47
                                      obtain rfl := Option.some.inj H
                                      go_wp2_with (first | ((with_reducible refine gate_builtin (b := .append) (xs := #[.tmp 98, .tmp 99]) rfl ?_); (try (refine gate_guard (by rfl) ?_; dsimp only)); at_builtin; refine Kd.R_append_rows (Kd.int .i64) (w0 := w) w.heap.size rfl (.tmp 98) (.tmp 99) 37 3 (.int .i64 0) 8 rfl Try.underlying37 info3 rfl (by decide) (by omega) (.slice Ao16 x5_2.length co16) x5_2 x5_2 _ _ _ (fun _ => True) (fun _ => False) rfl rfl ?aO ?aR (fun _ _ h => h) (fun _ h => h.elim) ?aF ?aB ?aS ?aL ?_; (case aR => repeat (first | exact (Kd.R_reads' HO_5.out).2.2 | (with_reducible refine Kd.C_alloc ?_ _) | (with_reducible refine Kd.C_drewN ?_ _) | (with_reducible refine Kd.C_drew ?_))); (case aB => exact (by repeat (first | (with_reducible first | exact HB.out | apply below_alloc | apply pw_below_drewN | apply below_drew1) | exact HB.out))); (case aF => exact (fun _ _ => trivial)); (case aO => exact (by (with_reducible repeat (first | apply Kd.R_alloc | apply Kd.R_drewN | apply Kd.R_drew)); exact HO_5.out)); (case aS => exact (below_size (by repeat (first | (with_reducible first | exact HB.out | apply below_alloc | apply pw_below_drewN | apply below_drew1) | exact HB.out)))); (case aL => have := LMc42.out; omega); intro v136 w51 ho hb hg hat; rw [← Ny135.out] at ho; have n0_ := Aside0.mk (hb); have n1_ := Aside0.mk (ho); clear HB; clear HO_5; have HB := n0_; have HO137 := n1_; clear n0_ n1_; clear ho hb hg hat; obtain ⟨Ao52, co52, eo52⟩ := Kd.R_slice HO137.out; subst eo52) | ((with_reducible refine gate_callee (f := 23) rfl ?_); refine goesL_ (some 101) rfl rfl Try.func23 (by kernel_rfl) rfl #[.slice Ao52 y135.length co52] rfl (by (try simp only [List.map_toArray, List.map_cons, List.map_nil]); first | done | rfl | (simp only [List.length_drop, List.length_take]; rfl)) ?_; (with_reducible refine (span_Lcm.calls k4 _ _ y135 t138 t139 _ ?side1 ?side2 A43.out).mono ?_); (case side1 => repeat (first | exact (Kd.R_reads' HO137.out).2.2 | (with_reducible refine Kd.C_alloc ?_ _) | (with_reducible refine Kd.C_drewN ?_ _) | (with_reducible refine Kd.C_drew ?_))); (case side2 => exact (Kd.R_reads' HO137.out).2.1); rintro e w53 ⟨rfl, hb⟩; refine ⟨_, rfl, ?_⟩; have n0_ := Aside0.mk (Kd.R_below (by (with_reducible repeat (first | apply Kd.R_alloc | apply Kd.R_drewN | apply Kd.R_drew)); exact HO137.out) hb); have n1_ := Aside0.mk (below_step (by repeat (first | (with_reducible first | exact HB.out | apply below_alloc | apply pw_below_drewN | apply below_drew1) | exact HB.out)) hb); clear HO137; clear HB; have HO137 := n0_; have HB := n1_; clear n0_ n1_; (try clear hb); (try clear hb2); (try clear hk); (try clear hi)))
                                      go_ret
                                      exact ⟨by first | rfl | (simp [errW_none, errW_some] <;> rfl) | (simp [*, errW_none, errW_some] <;> rfl), by repeat (first | (with_reducible first | exact HB.out | apply below_alloc | apply pw_below_drewN | apply below_drew1) | exact HB.out)⟩
                                  · rw [if_neg c46] at H
                                    have c46b0 : (t133 == 0) = false := beq_eq_false_iff_ne.mpr c46
                                    have c46b1 : (t133 != 0) = true := bne_iff_ne.mpr c46
                                    obtain rfl := Option.some.inj H
                                    go_wp2_with (first | ((with_reducible refine gate_builtin (b := .append) (xs := #[.tmp 98, .tmp 99]) rfl ?_); (try (refine gate_guard (by rfl) ?_; dsimp only)); at_builtin; refine Kd.R_append_rows (Kd.int .i64) (w0 := w) w.heap.size rfl (.tmp 98) (.tmp 99) 37 3 (.int .i64 0) 8 rfl Try.underlying37 info3 rfl (by decide) (by omega) (.slice Ao16 x5_2.length co16) x5_2 x5_2 _ _ _ (fun _ => True) (fun _ => False) rfl rfl ?aO ?aR (fun _ _ h => h) (fun _ h => h.elim) ?aF ?aB ?aS ?aL ?_; (case aR => repeat (first | exact (Kd.R_reads' HO_5.out).2.2 | (with_reducible refine Kd.C_alloc ?_ _) | (with_reducible refine Kd.C_drewN ?_ _) | (with_reducible refine Kd.C_drew ?_))); (case aB => exact (by repeat (first | (with_reducible first | exact HB.out | apply below_alloc | apply pw_below_drewN | apply below_drew1) | exact HB.out))); (case aF => exact (fun _ _ => trivial)); (case aO => exact (by (with_reducible repeat (first | apply Kd.R_alloc | apply Kd.R_drewN | apply Kd.R_drew)); exact HO_5.out)); (case aS => exact (below_size (by repeat (first | (with_reducible first | exact HB.out | apply below_alloc | apply pw_below_drewN | apply below_drew1) | exact HB.out)))); (case aL => have := LMc42.out; omega); intro v136 w54 ho hb hg hat; rw [← Ny135.out] at ho; have n0_ := Aside0.mk (hb); have n1_ := Aside0.mk (ho); clear HB; clear HO_5; have HB := n0_; have HO137 := n1_; clear n0_ n1_; clear ho hb hg hat; obtain ⟨Ao55, co55, eo55⟩ := Kd.R_slice HO137.out; subst eo55) | ((with_reducible refine gate_callee (f := 23) rfl ?_); refine goesL_ (some 101) rfl rfl Try.func23 (by kernel_rfl) rfl #[.slice Ao55 y135.length co55] rfl (by (try simp only [List.map_toArray, List.map_cons, List.map_nil]); first | done | rfl | (simp only [List.length_drop, List.length_take]; rfl)) ?_; (with_reducible refine (span_Lcm.calls k4 _ _ y135 t138 t139 _ ?side1 ?side2 A43.out).mono ?_); (case side1 => repeat (first | exact (Kd.R_reads' HO137.out).2.2 | (with_reducible refine Kd.C_alloc ?_ _) | (with_reducible refine Kd.C_drewN ?_ _) | (with_reducible refine Kd.C_drew ?_))); (case side2 => exact (Kd.R_reads' HO137.out).2.1); rintro e w56 ⟨rfl, hb⟩; refine ⟨_, rfl, ?_⟩; have n0_ := Aside0.mk (Kd.R_below (by (with_reducible repeat (first | apply Kd.R_alloc | apply Kd.R_drewN | apply Kd.R_drew)); exact HO137.out) hb); have n1_ := Aside0.mk (below_step (by repeat (first | (with_reducible first | exact HB.out | apply below_alloc | apply pw_below_drewN | apply below_drew1) | exact HB.out)) hb); clear HO137; clear HB; have HO137 := n0_; have HB := n1_; clear n0_ n1_; (try clear hb); (try clear hb2); (try clear hk); (try clear hi)))
                                    go_ret
                                    exact ⟨by first | rfl | (simp [errW_none, errW_some] <;> rfl) | (simp [*, errW_none, errW_some] <;> rfl), by repeat (first | (with_reducible first | exact HB.out | apply below_alloc | apply pw_below_drewN | apply below_drew1) | exact HB.out)⟩
                                · rw [if_neg c45] at H
                                  have c45b0 : (t133 == t139) = false := beq_eq_false_iff_ne.mpr c45
                                  have c45b1 : (t133 != t139) = true := bne_iff_ne.mpr c45
                                  obtain rfl := Option.some.inj H
                                  go_wp2_with (first | ((with_reducible refine gate_builtin (b := .append) (xs := #[.tmp 98, .tmp 99]) rfl ?_); (try (refine gate_guard (by rfl) ?_; dsimp only)); at_builtin; refine Kd.R_append_rows (Kd.int .i64) (w0 := w) w.heap.size rfl (.tmp 98) (.tmp 99) 37 3 (.int .i64 0) 8 rfl Try.underlying37 info3 rfl (by decide) (by omega) (.slice Ao16 x5_2.length co16) x5_2 x5_2 _ _ _ (fun _ => True) (fun _ => False) rfl rfl ?aO ?aR (fun _ _ h => h) (fun _ h => h.elim) ?aF ?aB ?aS ?aL ?_; (case aR => repeat (first | exact (Kd.R_reads' HO_5.out).2.2 | (with_reducible refine Kd.C_alloc ?_ _) | (with_reducible refine Kd.C_drewN ?_ _) | (with_reducible refine Kd.C_drew ?_))); (case aB => exact (by repeat (first | (with_reducible first | exact HB.out | apply below_alloc | apply pw_below_drewN | apply below_drew1) | exact HB.out))); (case aF => exact (fun _ _ => trivial)); (case aO => exact (by (with_reducible repeat (first | apply Kd.R_alloc | apply Kd.R_drewN | apply Kd.R_drew)); exact HO_5.out)); (case aS => exact (below_size (by repeat (first | (with_reducible first | exact HB.out | apply below_alloc | apply pw_below_drewN | apply below_drew1) | exact HB.out)))); (case aL => have := LMc42.out; omega); intro v136 w57 ho hb hg hat; rw [← Ny135.out] at ho; have n0_ := Aside0.mk (hb); have n1_ := Aside0.mk (ho); clear HB; clear HO_5; have HB := n0_; have HO137 := n1_; clear n0_ n1_; clear ho hb hg hat; obtain ⟨Ao58, co58, eo58⟩ := Kd.R_slice HO137.out; subst eo58) | ((with_reducible refine gate_callee (f := 23) rfl ?_); refine goesL_ (some 101) rfl rfl Try.func23 (by kernel_rfl) rfl #[.slice Ao58 y135.length co58] rfl (by (try simp only [List.map_toArray, List.map_cons, List.map_nil]); first | done | rfl | (simp only [List.length_drop, List.length_take]; rfl)) ?_; (with_reducible refine (span_Lcm.calls k4 _ _ y135 t138 t139 _ ?side1 ?side2 A43.out).mono ?_); (case side1 => repeat (first | exact (Kd.R_reads' HO137.out).2.2 | (with_reducible refine Kd.C_alloc ?_ _) | (with_reducible refine Kd.C_drewN ?_ _) | (with_reducible refine Kd.C_drew ?_))); (case side2 => exact (Kd.R_reads' HO137.out).2.1); rintro e w59 ⟨rfl, hb⟩; refine ⟨_, rfl, ?_⟩; have n0_ := Aside0.mk (Kd.R_below (by (with_reducible repeat (first | apply Kd.R_alloc | apply Kd.R_drewN | apply Kd.R_drew)); exact HO137.out) hb); have n1_ := Aside0.mk (below_step (by repeat (first | (with_reducible first | exact HB.out | apply below_alloc | apply pw_below_drewN | apply below_drew1) | exact HB.out)) hb); clear HO137; clear HB; have HO137 := n0_; have HB := n1_; clear n0_ n1_; (try clear hb); (try clear hb2); (try clear hk); (try clear hi)))
                                  go_ret
                                  exact ⟨by first | rfl | (simp [errW_none, errW_some] <;> rfl) | (simp [*, errW_none, errW_some] <;> rfl), by repeat (first | (with_reducible first | exact HB.out | apply below_alloc | apply pw_below_drewN | apply below_drew1) | exact HB.out)⟩
                              · rw [if_neg c44] at H
                                have c44b0 : (t132 == t138) = false := beq_eq_false_iff_ne.mpr c44
                                have c44b1 : (t132 != t138) = true := bne_iff_ne.mpr c44
                                obtain rfl := Option.some.inj H
                                go_wp2_with (first | ((with_reducible refine gate_builtin (b := .append) (xs := #[.tmp 98, .tmp 99]) rfl ?_); (try (refine gate_guard (by rfl) ?_; dsimp only)); at_builtin; refine Kd.R_append_rows (Kd.int .i64) (w0 := w) w.heap.size rfl (.tmp 98) (.tmp 99) 37 3 (.int .i64 0) 8 rfl Try.underlying37 info3 rfl (by decide) (by omega) (.slice Ao16 x5_2.length co16) x5_2 x5_2 _ _ _ (fun _ => True) (fun _ => False) rfl rfl ?aO ?aR (fun _ _ h => h) (fun _ h => h.elim) ?aF ?aB ?aS ?aL ?_; (case aR => repeat (first | exact (Kd.R_reads' HO_5.out).2.2 | (with_reducible refine Kd.C_alloc ?_ _) | (with_reducible refine Kd.C_drewN ?_ _) | (with_reducible refine Kd.C_drew ?_))); (case aB => exact (by repeat (first | (with_reducible first | exact HB.out | apply below_alloc | apply pw_below_drewN | apply below_drew1) | exact HB.out))); (case aF => exact (fun _ _ => trivial)); (case aO => exact (by (with_reducible repeat (first | apply Kd.R_alloc | apply Kd.R_drewN | apply Kd.R_drew)); exact HO_5.out)); (case aS => exact (below_size (by repeat (first | (with_reducible first | exact HB.out | apply below_alloc | apply pw_below_drewN | apply below_drew1) | exact HB.out)))); (case aL => have := LMc42.out; omega); intro v136 w60 ho hb hg hat; rw [← Ny135.out] at ho; have n0_ := Aside0.mk (hb); have n1_ := Aside0.mk (ho); clear HB; clear HO_5; have HB := n0_; have HO137 := n1_; clear n0_ n1_; clear ho hb hg hat; obtain ⟨Ao61, co61, eo61⟩ := Kd.R_slice HO137.out; subst eo61) | ((with_reducible refine gate_callee (f := 23) rfl ?_); refine goesL_ (some 101) rfl rfl Try.func23 (by kernel_rfl) rfl #[.slice Ao61 y135.length co61] rfl (by (try simp only [List.map_toArray, List.map_cons, List.map_nil]); first | done | rfl | (simp only [List.length_drop, List.length_take]; rfl)) ?_; (with_reducible refine (span_Lcm.calls k4 _ _ y135 t138 t139 _ ?side1 ?side2 A43.out).mono ?_); (case side1 => repeat (first | exact (Kd.R_reads' HO137.out).2.2 | (with_reducible refine Kd.C_alloc ?_ _) | (with_reducible refine Kd.C_drewN ?_ _) | (with_reducible refine Kd.C_drew ?_))); (case side2 => exact (Kd.R_reads' HO137.out).2.1); rintro e w62 ⟨rfl, hb⟩; refine ⟨_, rfl, ?_⟩; have n0_ := Aside0.mk (Kd.R_below (by (with_reducible repeat (first | apply Kd.R_alloc | apply Kd.R_drewN | apply Kd.R_drew)); exact HO137.out) hb); have n1_ := Aside0.mk (below_step (by repeat (first | (with_reducible first | exact HB.out | apply below_alloc | apply pw_below_drewN | apply below_drew1) | exact HB.out)) hb); clear HO137; clear HB; have HO137 := n0_; have HB := n1_; clear n0_ n1_; (try clear hb); (try clear hb2); (try clear hk); (try clear hi)))
                                go_ret
                                exact ⟨by first | rfl | (simp [errW_none, errW_some] <;> rfl) | (simp [*, errW_none, errW_some] <;> rfl), by repeat (first | (with_reducible first | exact HB.out | apply below_alloc | apply pw_below_drewN | apply below_drew1) | exact HB.out)⟩
                            · rw [if_neg c42] at H
                              exact absurd H (by simp)
                    · rw [if_neg c24] at H
                      have c24b0 : (t131 == (wrap64 (t130 * (wrap64 ((wrap64 (a1)) + 1))))) = false := beq_eq_false_iff_ne.mpr c24
                      have c24b1 : (t131 != (wrap64 (t130 * (wrap64 ((wrap64 (a1)) + 1))))) = true := bne_iff_ne.mpr c24
                      obtain rfl := Option.some.inj H
                      go_wp2_with (first | ((with_reducible refine gate_callee (f := 25) rfl ?_); refine goesL_ (some 56) rfl rfl Try.func25 (by kernel_rfl) rfl #[.slice Ao16 x5_2.length co16] rfl (by (try simp only [List.map_toArray, List.map_cons, List.map_nil]); first | done | rfl | (simp only [List.length_drop, List.length_take]; rfl)) ?_; (with_reducible refine (span_Gcd.calls k3 _ _ x5_2 t130 _ ?side1 ?side2 A22.out).mono ?_); (case side1 => repeat (first | exact (Kd.R_reads' HO_5.out).2.2 | (with_reducible refine Kd.C_alloc ?_ _) | (with_reducible refine Kd.C_drewN ?_ _) | (with_reducible refine Kd.C_drew ?_))); (case side2 => exact (Kd.R_reads' HO_5.out).2.1); rintro e w' ⟨rfl, ⟨nd, rfl⟩⟩; refine ⟨_, rfl, ?_⟩; obtain ⟨Ao63, co63, eo63⟩ := Kd.R_slice HO_9.out; subst eo63) | ((with_reducible refine gate_callee (f := 25) rfl ?_); refine goesL_ (some 58) rfl rfl Try.func25 (by kernel_rfl) rfl #[.slice Ao63 x9_3.length co63] rfl (by (try simp only [List.map_toArray, List.map_cons, List.map_nil]); first | done | rfl | (simp only [List.length_drop, List.length_take]; rfl)) ?_; (with_reducible refine (span_Gcd.calls k3 _ _ x9_3 t131 _ ?side1 ?side2 A23.out).mono ?_); (case side1 => repeat (first | exact (Kd.R_reads' HO_9.out).2.2 | (with_reducible refine Kd.C_alloc ?_ _) | (with_reducible refine Kd.C_drewN ?_ _) | (with_reducible refine Kd.C_drew ?_))); (case side2 => exact (Kd.R_reads' HO_9.out).2.1); rintro e w' ⟨rfl, ⟨nd, rfl⟩⟩; refine ⟨_, rfl, ?_⟩))
                      go_ret
                      exact ⟨by first | rfl | (simp [errW_none, errW_some] <;> rfl) | (simp [*, errW_none, errW_some] <;> rfl), by repeat (first | (with_reducible first | exact HB.out | apply below_alloc | apply pw_below_drewN | apply below_drew1) | exact HB.out)⟩

/-- THE ONE PURE STATEMENT of monocoquelaw01_SpanShares: yours. -/
def monocoquelaw01_SpanShares.Pure : Prop := ∀ (l0 : List Int) (a1 : Int), l0.length ≤ maxLen → l0.length * 4 ≤ 140737488351232 → (∀ x ∈ l0, (Lit.int .u32 x).wf = true) → (Lit.int .u16 a1).wf = true → ∃ k, monocoquelaw01_SpanShares.f k l0 a1 = some true
theorem monocoquelaw01_SpanShares.walk (P : monocoquelaw01_SpanShares.Pure) (a0 : Option Addr) (len0 cap0 : Nat) (z0 : List Int) (a1 : Int) (w : World) (w0 : (a0 = none ∧ len0 = 0 ∧ cap0 = 0 ∧ z0 = []) ∨ ∃ x, a0 = some x ∧ len0 ≤ cap0 ∧ cap0 ≤ maxLen ∧ z0.length = cap0 ∧ (∀ i, i < z0.length → w.cell? (x.add i) = some (.int .u32 (z0.getD i 0))) ∧ ∀ n ∈ z0, (Lit.int .u32 n).wf = true) (y0 : len0 * 4 ≤ 140737488351232) (w1 : (Lit.int .u16 a1).wf = true) :
    Calls Try.prog 8 #[.slice a0 len0 cap0, .int .u16 a1] w fun e w' => e = .returned (.bool true) ∧ Below w.heap.size w w' := by
  obtain ⟨l0, rfl, hr0, hm0, hw0, hc0⟩ := ReadsInt.ofRowC w0
  obtain ⟨k, h⟩ := P l0 a1 hm0 y0 hw0 w1
  refine (monocoquelaw01_SpanShares.calls k _ _ l0 a1 true w (Kd.C_of_reads (d := (0 : Int)) (h1 := fun _ => rfl) hr0) hc0 h).mono ?_
  rintro e w' ⟨rfl, hd⟩
  exact ⟨rfl, hd⟩

end Go.Proofs.Ytlhjmbhoeabhmaa.PSpanShares
