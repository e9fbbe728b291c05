-- PRINTED BY print.sh 35421559b90ae4d0a3588c463048766b98c2df88dd9212a6774a882060cdf62d: not written by this session
import Derived.Test.YtlhjmbhoeabhmaaPSpanMeetsx0
import Derived.Test.YtlhjmbhoeabhmaaPSpanMeetsx1
namespace Go.Proofs.Ytlhjmbhoeabhmaa.PSpanMeets
open Go.RowKit Go.Proofs.YtlhjmbhoeabhmaaW.PrintWords Go.Proofs.YtlhjmbhoeabhmaaW.PrintLast Go.Proofs.YtlhjmbhoeabhmaaW.PrintMore
attribute [local go_sem] max2_int min2_int max_two min_two max_three min_three max_four min_four   -- for this text's walks alone
set_option linter.unusedVariables false
set_option linter.unusedSimpArgs false

/-! ### monocoquelaw01_SpanMeets: function 3 -/
mutual
def monocoquelaw01_SpanMeets.j0 : Nat → Bool → Int → Int → Int → Int → Int → Int → Option (Bool)
  | 0, _, _, _, _, _, _, _ => none
  | k + 1, x21, x118000, x118001, x118002, x119000, x119001, x119002 => if x21 = true then ((monocoquelaw01_speaks.f k).bind fun t122 => (some t122)) else ((span_Meet.f k x118000 x118001 x118002 x119000 x119001 x119002).bind fun t125 => ((span_Meet.f k x119000 x119001 x119002 x118000 x118001 x118002).bind fun t126 => (if (t125 != t126) = true then (monocoquelaw01_SpanMeets.j1 k true x118000 x118001 x118002 x119000 x119001 x119002 x118000 x118001 x118002 x119000 x119001 x119002) else ((span_Meet.f k x118000 x118001 x118002 x118000 x118001 x118002).bind fun t127 => (monocoquelaw01_SpanMeets.j1 k (!t127) x118000 x118001 x118002 x119000 x119001 x119002 x118000 x118001 x118002 x119000 x119001 x119002)))))
def monocoquelaw01_SpanMeets.j1 : Nat → Bool → Int → Int → Int → Int → Int → Int → Int → Int → Int → Int → Int → Int → Option (Bool)
  | 0, _, _, _, _, _, _, _, _, _, _, _, _, _ => none
  | k + 1, x37, x118000, x118001, x118002, x119000, x119001, x119002, x124000, x124001, x124002, x125000, x125001, x125002 => if x37 = true then (some false) else (if x118001 > 40 then (monocoquelaw01_SpanMeets.j2 k true x118000 x118001 x118002 x119000 x119001 x119002 x124000 x124001 x124002 x125000 x125001 x125002) else (if x119001 > 40 then (monocoquelaw01_SpanMeets.j2 k true x118000 x118001 x118002 x119000 x119001 x119002 x124000 x124001 x124002 x125000 x125001 x125002) else (if x118000 > 1000 then (monocoquelaw01_SpanMeets.j2 k true x118000 x118001 x118002 x119000 x119001 x119002 x124000 x124001 x124002 x125000 x125001 x125002) else (monocoquelaw01_SpanMeets.j2 k (decide (x119000 > 1000)) x118000 x118001 x118002 x119000 x119001 x119002 x124000 x124001 x124002 x125000 x125001 x125002))))
def monocoquelaw01_SpanMeets.j2 : Nat → Bool → Int → Int → Int → Int → Int → Int → Int → Int → Int → Int → Int → Int → Option (Bool)
  | 0, _, _, _, _, _, _, _, _, _, _, _, _, _ => none
  | k + 1, x55, x118000, x118001, x118002, x119000, x119001, x119002, x124000, x124001, x124002, x125000, x125001, x125002 => if x55 = true then (some true) else (monocoquelaw01_SpanMeets.l0 k false (mx x118000 x119000) (mx x118000 x119000) x118000 x118001 x118002 x119000 x119001 x119002 x124000 x124001 x124002 x125000 x125001 x125002)
def monocoquelaw01_SpanMeets.l0 : Nat → Bool → Int → Int → Int → Int → Int → Int → Int → Int → Int → Int → Int → Int → Int → Int → Option (Bool)
  | 0, _, _, _, _, _, _, _, _, _, _, _, _, _, _, _ => none
  | k + 1, x7, x8, x9, x118000, x118001, x118002, x119000, x119001, x119002, x124000, x124001, x124002, x125000, x125001, x125002 => if x9 < (wrap64 (x8 + (wrap64 (x118001 * x119001)))) then (monocoquelaw01_SpanMeets.j4 k x7 x8 x9 (!x7) x118000 x118001 x118002 x119000 x119001 x119002 x124000 x124001 x124002 x125000 x125001 x125002) else (monocoquelaw01_SpanMeets.j4 k x7 x8 x9 false x118000 x118001 x118002 x119000 x119001 x119002 x124000 x124001 x124002 x125000 x125001 x125002)
def monocoquelaw01_SpanMeets.j4 : Nat → Bool → Int → Int → Bool → Int → Int → Int → Int → Int → Int → Int → Int → Int → Int → Int → Int → Option (Bool)
  | 0, _, _, _, _, _, _, _, _, _, _, _, _, _, _, _, _ => none
  | k + 1, x7, x8, x9, x74, x118000, x118001, x118002, x119000, x119001, x119002, x124000, x124001, x124002, x125000, x125001, x125002 => if x74 = true then ((monocoqueref01_At.f x118000 x118001 x118002 x9).bind fun t128 => (if t128 = true then ((monocoqueref01_At.f x119000 x119001 x119002 x9).bind fun t129 => (monocoquelaw01_SpanMeets.l0 k t129 x8 (wrap64 (x9 + 1)) x118000 x118001 x118002 x119000 x119001 x119002 x124000 x124001 x124002 x125000 x125001 x125002)) else (monocoquelaw01_SpanMeets.l0 k false x8 (wrap64 (x9 + 1)) x118000 x118001 x118002 x119000 x119001 x119002 x124000 x124001 x124002 x125000 x125001 x125002))) else ((span_Meet.f k x124000 x124001 x124002 x125000 x125001 x125002).bind fun t130 => (some (t130 == x7)))
end
def monocoquelaw01_SpanMeets.f (k : Nat) (a0_0 : Int) (a0_1 : Int) (a0_2 : Int) (a1_0 : Int) (a1_1 : Int) (a1_2 : Int) : Option (Bool) := (monocoquelaw01_speaks.f k).bind fun t119 => (if t119 = true then ((monocoqueref01_Check.f a0_0 a0_1 a0_2).bind fun t120 => (if t120 = 0 then ((monocoqueref01_Check.f a1_0 a1_1 a1_2).bind fun t121 => (monocoquelaw01_SpanMeets.j0 k (t121 != 0) a0_0 a0_1 a0_2 a1_0 a1_1 a1_2)) else (monocoquelaw01_SpanMeets.j0 k true a0_0 a0_1 a0_2 a1_0 a1_1 a1_2))) else (monocoquelaw01_SpanMeets.j0 k true a0_0 a0_1 a0_2 a1_0 a1_1 a1_2))
theorem monocoquelaw01_SpanMeets.mono_l : ∀ k, (∀ y0 y1 y2 y3 y4 y5 y6, LeO (monocoquelaw01_SpanMeets.j0 k y0 y1 y2 y3 y4 y5 y6) (monocoquelaw01_SpanMeets.j0 (k + 1) y0 y1 y2 y3 y4 y5 y6)) ∧ (∀ y0 y1 y2 y3 y4 y5 y6 y7 y8 y9 y10 y11 y12, LeO (monocoquelaw01_SpanMeets.j1 k y0 y1 y2 y3 y4 y5 y6 y7 y8 y9 y10 y11 y12) (monocoquelaw01_SpanMeets.j1 (k + 1) y0 y1 y2 y3 y4 y5 y6 y7 y8 y9 y10 y11 y12)) ∧ (∀ y0 y1 y2 y3 y4 y5 y6 y7 y8 y9 y10 y11 y12, LeO (monocoquelaw01_SpanMeets.j2 k y0 y1 y2 y3 y4 y5 y6 y7 y8 y9 y10 y11 y12) (monocoquelaw01_SpanMeets.j2 (k + 1) y0 y1 y2 y3 y4 y5 y6 y7 y8 y9 y10 y11 y12)) ∧ (∀ y0 y1 y2 y3 y4 y5 y6 y7 y8 y9 y10 y11 y12 y13 y14, LeO (monocoquelaw01_SpanMeets.l0 k y0 y1 y2 y3 y4 y5 y6 y7 y8 y9 y10 y11 y12 y13 y14) (monocoquelaw01_SpanMeets.l0 (k + 1) y0 y1 y2 y3 y4 y5 y6 y7 y8 y9 y10 y11 y12 y13 y14)) ∧ (∀ y0 y1 y2 y3 y4 y5 y6 y7 y8 y9 y10 y11 y12 y13 y14 y15, LeO (monocoquelaw01_SpanMeets.j4 k y0 y1 y2 y3 y4 y5 y6 y7 y8 y9 y10 y11 y12 y13 y14 y15) (monocoquelaw01_SpanMeets.j4 (k + 1) y0 y1 y2 y3 y4 y5 y6 y7 y8 y9 y10 y11 y12 y13 y14 y15))
  | 0 => ⟨fun _ _ _ _ _ _ _ r h => by simp [monocoquelaw01_SpanMeets.j0] at h, fun _ _ _ _ _ _ _ _ _ _ _ _ _ r h => by simp [monocoquelaw01_SpanMeets.j1] at h, fun _ _ _ _ _ _ _ _ _ _ _ _ _ r h => by simp [monocoquelaw01_SpanMeets.j2] at h, fun _ _ _ _ _ _ _ _ _ _ _ _ _ _ _ r h => by simp [monocoquelaw01_SpanMeets.l0] at h, fun _ _ _ _ _ _ _ _ _ _ _ _ _ _ _ _ r h => by simp [monocoquelaw01_SpanMeets.j4] at h⟩
  | k + 1 => by
    obtain ⟨ih0, ih1, ih2, ih3, ih4⟩ := monocoquelaw01_SpanMeets.mono_l k
    refine ⟨?_, ?_, ?_, ?_, ?_⟩
    · intro y0 y1 y2 y3 y4 y5 y6
      unfold monocoquelaw01_SpanMeets.j0
      repeat' first
      | (with_reducible exact ih0 _ _ _ _ _ _ _)
      | (with_reducible exact ih1 _ _ _ _ _ _ _ _ _ _ _ _ _)
      | (with_reducible exact ih2 _ _ _ _ _ _ _ _ _ _ _ _ _)
      | (with_reducible exact ih3 _ _ _ _ _ _ _ _ _ _ _ _ _ _ _)
      | (with_reducible exact ih4 _ _ _ _ _ _ _ _ _ _ _ _ _ _ _ _)
      | (with_reducible exact monocoquelaw01_speaks.mono _)
      | (with_reducible exact span_Meet.mono _ _ _ _ _ _ _)
      | (with_reducible exact LeO.refl _)
      | (with_reducible exact LeO.none _)
      | (with_reducible refine LeO.ite ?_ ?_)
      | (with_reducible refine LeO.bind ?_ (fun _ => ?_))
      | exact ih0 _ _ _ _ _ _ _
      | exact ih1 _ _ _ _ _ _ _ _ _ _ _ _ _
      | exact ih2 _ _ _ _ _ _ _ _ _ _ _ _ _
      | exact ih3 _ _ _ _ _ _ _ _ _ _ _ _ _ _ _
      | exact ih4 _ _ _ _ _ _ _ _ _ _ _ _ _ _ _ _
      | exact monocoquelaw01_speaks.mono _
      | exact span_Meet.mono _ _ _ _ _ _ _
      | exact LeO.none _
      | refine LeO.ite ?_ ?_
      | refine LeO.bind ?_ (fun _ => ?_)
    · intro y0 y1 y2 y3 y4 y5 y6 y7 y8 y9 y10 y11 y12
      unfold monocoquelaw01_SpanMeets.j1
      repeat' first
      | (with_reducible exact ih0 _ _ _ _ _ _ _)
      | (with_reducible exact ih1 _ _ _ _ _ _ _ _ _ _ _ _ _)
      | (with_reducible exact ih2 _ _ _ _ _ _ _ _ _ _ _ _ _)
      | (with_reducible exact ih3 _ _ _ _ _ _ _ _ _ _ _ _ _ _ _)
      | (with_reducible exact ih4 _ _ _ _ _ _ _ _ _ _ _ _ _ _ _ _)
      | (with_reducible exact monocoquelaw01_speaks.mono _)
      | (with_reducible exact span_Meet.mono _ _ _ _ _ _ _)
      | (with_reducible exact LeO.refl _)
      | (with_reducible exact LeO.none _)
      | (with_reducible refine LeO.ite ?_ ?_)
      | (with_reducible refine LeO.bind ?_ (fun _ => ?_))
      | exact ih0 _ _ _ _ _ _ _
      | exact ih1 _ _ _ _ _ _ _ _ _ _ _ _ _
      | exact ih2 _ _ _ _ _ _ _ _ _ _ _ _ _
      | exact ih3 _ _ _ _ _ _ _ _ _ _ _ _ _ _ _
      | exact ih4 _ _ _ _ _ _ _ _ _ _ _ _ _ _ _ _
      | exact monocoquelaw01_speaks.mono _
      | exact span_Meet.mono _ _ _ _ _ _ _
      | exact LeO.none _
      | refine LeO.ite ?_ ?_
      | refine LeO.bind ?_ (fun _ => ?_)
    · intro y0 y1 y2 y3 y4 y5 y6 y7 y8 y9 y10 y11 y12
      unfold monocoquelaw01_SpanMeets.j2
      repeat' first
      | (with_reducible exact ih0 _ _ _ _ _ _ _)
      | (with_reducible exact ih1 _ _ _ _ _ _ _ _ _ _ _ _ _)
      | (with_reducible exact ih2 _ _ _ _ _ _ _ _ _ _ _ _ _)
      | (with_reducible exact ih3 _ _ _ _ _ _ _ _ _ _ _ _ _ _ _)
      | (with_reducible exact ih4 _ _ _ _ _ _ _ _ _ _ _ _ _ _ _ _)
      | (with_reducible exact monocoquelaw01_speaks.mono _)
      | (with_reducible exact span_Meet.mono _ _ _ _ _ _ _)
      | (with_reducible exact LeO.refl _)
      | (with_reducible exact LeO.none _)
      | (with_reducible refine LeO.ite ?_ ?_)
      | (with_reducible refine LeO.bind ?_ (fun _ => ?_))
      | exact ih0 _ _ _ _ _ _ _
      | exact ih1 _ _ _ _ _ _ _ _ _ _ _ _ _
      | exact ih2 _ _ _ _ _ _ _ _ _ _ _ _ _
      | exact ih3 _ _ _ _ _ _ _ _ _ _ _ _ _ _ _
      | exact ih4 _ _ _ _ _ _ _ _ _ _ _ _ _ _ _ _
      | exact monocoquelaw01_speaks.mono _
      | exact span_Meet.mono _ _ _ _ _ _ _
      | exact LeO.none _
      | refine LeO.ite ?_ ?_
      | refine LeO.bind ?_ (fun _ => ?_)
    · intro y0 y1 y2 y3 y4 y5 y6 y7 y8 y9 y10 y11 y12 y13 y14
      unfold monocoquelaw01_SpanMeets.l0
      repeat' first
      | (with_reducible exact ih0 _ _ _ _ _ _ _)
      | (with_reducible exact ih1 _ _ _ _ _ _ _ _ _ _ _ _ _)
      | (with_reducible exact ih2 _ _ _ _ _ _ _ _ _ _ _ _ _)
      | (with_reducible exact ih3 _ _ _ _ _ _ _ _ _ _ _ _ _ _ _)
      | (with_reducible exact ih4 _ _ _ _ _ _ _ _ _ _ _ _ _ _ _ _)
      | (with_reducible exact monocoquelaw01_speaks.mono _)
      | (with_reducible exact span_Meet.mono _ _ _ _ _ _ _)
      | (with_reducible exact LeO.refl _)
      | (with_reducible exact LeO.none _)
      | (with_reducible refine LeO.ite ?_ ?_)
      | (with_reducible refine LeO.bind ?_ (fun _ => ?_))
      | exact ih0 _ _ _ _ _ _ _
      | exact ih1 _ _ _ _ _ _ _ _ _ _ _ _ _
      | exact ih2 _ _ _ _ _ _ _ _ _ _ _ _ _
      | exact ih3 _ _ _ _ _ _ _ _ _ _ _ _ _ _ _
      | exact ih4 _ _ _ _ _ _ _ _ _ _ _ _ _ _ _ _
      | exact monocoquelaw01_speaks.mono _
      | exact span_Meet.mono _ _ _ _ _ _ _
      | exact LeO.none _
      | refine LeO.ite ?_ ?_
      | refine LeO.bind ?_ (fun _ => ?_)
    · intro y0 y1 y2 y3 y4 y5 y6 y7 y8 y9 y10 y11 y12 y13 y14 y15
      unfold monocoquelaw01_SpanMeets.j4
      repeat' first
      | (with_reducible exact ih0 _ _ _ _ _ _ _)
      | (with_reducible exact ih1 _ _ _ _ _ _ _ _ _ _ _ _ _)
      | (with_reducible exact ih2 _ _ _ _ _ _ _ _ _ _ _ _ _)
      | (with_reducible exact ih3 _ _ _ _ _ _ _ _ _ _ _ _ _ _ _)
      | (with_reducible exact ih4 _ _ _ _ _ _ _ _ _ _ _ _ _ _ _ _)
      | (with_reducible exact monocoquelaw01_speaks.mono _)
      | (with_reducible exact span_Meet.mono _ _ _ _ _ _ _)
      | (with_reducible exact LeO.refl _)
      | (with_reducible exact LeO.none _)
      | (with_reducible refine LeO.ite ?_ ?_)
      | (with_reducible refine LeO.bind ?_ (fun _ => ?_))
      | exact ih0 _ _ _ _ _ _ _
      | exact ih1 _ _ _ _ _ _ _ _ _ _ _ _ _
      | exact ih2 _ _ _ _ _ _ _ _ _ _ _ _ _
      | exact ih3 _ _ _ _ _ _ _ _ _ _ _ _ _ _ _
      | exact ih4 _ _ _ _ _ _ _ _ _ _ _ _ _ _ _ _
      | exact monocoquelaw01_speaks.mono _
      | exact span_Meet.mono _ _ _ _ _ _ _
      | exact LeO.none _
      | refine LeO.ite ?_ ?_
      | refine LeO.bind ?_ (fun _ => ?_)
theorem monocoquelaw01_SpanMeets.mono : ∀ a0 a1 a2 a3 a4 a5 k, LeO (monocoquelaw01_SpanMeets.f k a0 a1 a2 a3 a4 a5) (monocoquelaw01_SpanMeets.f (k + 1) a0 a1 a2 a3 a4 a5) := by
  intro a0 a1 a2 a3 a4 a5 k
  obtain ⟨ih0, ih1, ih2, ih3, ih4⟩ := monocoquelaw01_SpanMeets.mono_l k
  unfold monocoquelaw01_SpanMeets.f
  repeat' first
      | (with_reducible exact ih0 _ _ _ _ _ _ _)
      | (with_reducible exact ih1 _ _ _ _ _ _ _ _ _ _ _ _ _)
      | (with_reducible exact ih2 _ _ _ _ _ _ _ _ _ _ _ _ _)
      | (with_reducible exact ih3 _ _ _ _ _ _ _ _ _ _ _ _ _ _ _)
      | (with_reducible exact ih4 _ _ _ _ _ _ _ _ _ _ _ _ _ _ _ _)
      | (with_reducible exact monocoquelaw01_speaks.mono _)
      | (with_reducible exact span_Meet.mono _ _ _ _ _ _ _)
      | (with_reducible exact LeO.refl _)
      | (with_reducible exact LeO.none _)
      | (with_reducible refine LeO.ite ?_ ?_)
      | (with_reducible refine LeO.bind ?_ (fun _ => ?_))
      | exact ih0 _ _ _ _ _ _ _
      | exact ih1 _ _ _ _ _ _ _ _ _ _ _ _ _
      | exact ih2 _ _ _ _ _ _ _ _ _ _ _ _ _
      | exact ih3 _ _ _ _ _ _ _ _ _ _ _ _ _ _ _
      | exact ih4 _ _ _ _ _ _ _ _ _ _ _ _ _ _ _ _
      | exact monocoquelaw01_speaks.mono _
      | exact span_Meet.mono _ _ _ _ _ _ _
      | exact LeO.none _
      | refine LeO.ite ?_ ?_
      | refine LeO.bind ?_ (fun _ => ?_)
def monocoquelaw01_SpanMeets.T4 : Bool × List (List Nat × List Nat) := (true, [([], []), ([], []), ([0, 1], [0, 1]), ([], []), ([], []), ([3, 4, 2], [3, 4]), ([2, 5], [2, 5]), ([6, 5], [6]), ([7], [7]), ([7], [7]), ([8, 9, 7, 7], [7, 8, 9]), ([10, 7], [7, 10]), ([7, 11], [7, 11])])
def monocoquelaw01_SpanMeets.B4 : List Nat := [0, 0, 3, 0, 0, 31, 63, 127, 255, 255, 1023, 2047, 4095]
theorem monocoquelaw01_SpanMeets.tab4 : rtab .any (opsOf Try.f3 4) = monocoquelaw01_SpanMeets.T4 := by kernel_rfl
theorem monocoquelaw01_SpanMeets.bits4 : waitsOk monocoquelaw01_SpanMeets.T4.2 monocoquelaw01_SpanMeets.B4 = true := by kernel_rfl
set_option maxHeartbeats 8000000 in
set_option maxRecDepth 100000 in
theorem monocoquelaw01_SpanMeets.calls (k : Nat) (a0_0 : Int) (a0_1 : Int) (a0_2 : Int) (a1_0 : Int) (a1_1 : Int) (a1_2 : Int) (r : Bool) (w : World) (h : monocoquelaw01_SpanMeets.f k a0_0 a0_1 a0_2 a1_0 a1_1 a1_2 = some r) :
    Calls Try.prog 3 #[.agg #[.int .i64 a0_0, .int .i64 a0_1, .int .i64 a0_2], .agg #[.int .i64 a1_0, .int .i64 a1_1, .int .i64 a1_2]] w fun e w' => e = .returned (.bool r) ∧ Below w.heap.size w w' := by
  have hu23 := Try.underlying23
  have hu26 := Try.underlying26
  have HB := Aside0.mk (Below.refl w.heap.size w)
  have H : ((monocoquelaw01_speaks.f k).bind fun t119 => (if t119 = true then ((monocoqueref01_Check.f a0_0 a0_1 a0_2).bind fun t120 => (if t120 = 0 then ((monocoqueref01_Check.f a1_0 a1_1 a1_2).bind fun t121 => (monocoquelaw01_SpanMeets.j0 k (t121 != 0) a0_0 a0_1 a0_2 a1_0 a1_1 a1_2)) else (monocoquelaw01_SpanMeets.j0 k true a0_0 a0_1 a0_2 a1_0 a1_1 a1_2))) else (monocoquelaw01_SpanMeets.j0 k true a0_0 a0_1 a0_2 a1_0 a1_1 a1_2))) = some r := h
  clear h
  have HC3 := Aside0.mk H
  clear H
  go_enter Try.func3, Try.ntmps3
  go_upto_region 1 with (first | ((with_reducible refine gate_dst (N := 2) rfl ?_); refine box_event ?hg (N := 2) ?hd (cs := #[.int .i64 a0_0, .int .i64 a0_1, .int .i64 a0_2]) (t := 23) ?hr ?_; (case hd => rfl); (case hg => rfl); (case hr => first | (go_simp; done) | (go_simp; rfl)); intro gb117 hg w4 hbox hb; have n0_ := Aside0.mk (below_step (by repeat (first | (with_reducible first | exact HB.out | apply below_alloc | apply pw_below_drewN | apply below_drew1) | exact HB.out)) hb); have n1_ := Aside0.mk (hbox); have n2_ := Aside0.mk ((by rw [hg]; exact (below_size (by repeat (first | (with_reducible first | exact HB.out | apply below_alloc | apply pw_below_drewN | apply below_drew1) | exact HB.out))) : w.heap.size ≤ gb117)); have n3_ := Aside0.mk ((by rw [hg]; exact (below_size (by repeat (first | (with_reducible first | exact HB.out | apply below_alloc | apply pw_below_drewN | apply below_drew1) | exact HB.out))) : w.heap.size ≤ gb117)); clear HB; have HB := n0_; have BK117 := n1_; have GW117 := n2_; have GE117 := n3_; clear n0_ n1_ n2_ n3_; clear hb hbox hg) | ((with_reducible refine gate_dst (N := 3) rfl ?_); refine box_event ?hg (N := 3) ?hd (cs := #[.int .i64 a1_0, .int .i64 a1_1, .int .i64 a1_2]) (t := 23) ?hr ?_; (case hd => rfl); (case hg => rfl); (case hr => first | (go_simp; done) | (go_simp; rfl)); intro gb118 hg w5 hbox hb; have n0_ := Aside0.mk (blk_below (g := gb117) (o := .cells #[.int .i64 a0_0, .int .i64 a0_1, .int .i64 a0_2] 23 (0, 0)) (by (with_reducible repeat (first | refine blk_drewN ?_ _ | refine blk_drew ?_ | refine blk_alloc ?_ _)); exact BK117.out) hb); have n1_ := Aside0.mk (below_step (by repeat (first | (with_reducible first | exact HB.out | apply below_alloc | apply pw_below_drewN | apply below_drew1 | refine below_set ?_ GE117.out) | exact HB.out)) hb); have n2_ := Aside0.mk (hbox); have n3_ := Aside0.mk ((by rw [hg]; exact (below_size (by repeat (first | (with_reducible first | exact HB.out | apply below_alloc | apply pw_below_drewN | apply below_drew1 | refine below_set ?_ GE117.out) | exact HB.out))) : w.heap.size ≤ gb118)); have n4_ := Aside0.mk ((by rw [hg]; exact (below_size (by repeat (first | (with_reducible first | exact HB.out | apply below_alloc | apply pw_below_drewN | apply below_drew1 | refine below_set ?_ GE117.out) | exact HB.out))) : w.heap.size ≤ gb118)); have n5_ := Aside0.mk ((by rw [hg]; exact Nat.ne_of_lt (blk_lt (g := gb117) (o := .cells #[.int .i64 a0_0, .int .i64 a0_1, .int .i64 a0_2] 23 (0, 0)) (by (with_reducible repeat (first | refine blk_drewN ?_ _ | refine blk_drew ?_ | refine blk_alloc ?_ _)); exact BK117.out)) : gb117 ≠ gb118)); have n6_ := Aside0.mk ((by rw [hg]; exact Nat.ne_of_gt (blk_lt (g := gb117) (o := .cells #[.int .i64 a0_0, .int .i64 a0_1, .int .i64 a0_2] 23 (0, 0)) (by (with_reducible repeat (first | refine blk_drewN ?_ _ | refine blk_drew ?_ | refine blk_alloc ?_ _)); exact BK117.out)) : gb118 ≠ gb117)); clear BK117; clear HB; have BK117 := n0_; have HB := n1_; have BK118 := n2_; have GW118 := n3_; have GE118 := n4_; have NB117_118 := n5_; have NB118_117 := n6_; clear n0_ n1_ n2_ n3_ n4_ n5_ n6_; clear hb hbox hg))
  (try simp only [Act.put, List.setIfInBounds_toArray, List.set_cons_zero, List.set_cons_succ])
  go_cut [21] (fun v21 wc => ∃ (kq : Nat) (x21_2 : Bool), v21 = .bool x21_2 ∧ Aside0 (monocoquelaw01_SpanMeets.j0 kq x21_2 a0_0 a0_1 a0_2 a1_0 a1_1 a1_2 = some r) ∧ Aside0 (kq ≤ k) ∧ Aside0 (wc.heap[gb117]? = some (.cells #[.int .i64 a0_0, .int .i64 a0_1, .int .i64 a0_2] 23 (0, 0))) ∧ Aside0 (wc.heap[gb118]? = some (.cells #[.int .i64 a1_0, .int .i64 a1_1, .int .i64 a1_2] 23 (0, 0))) ∧ Aside0 (Below w.heap.size w wc))
  case first =>
    have H := HC3.out
    clear HC3
    replace H := Option.bind_eq_some_iff.mp H
    obtain ⟨t119, A60, H⟩ := H
    replace H : (if t119 = true then ((monocoqueref01_Check.f a0_0 a0_1 a0_2).bind fun t120 => (if t120 = 0 then ((monocoqueref01_Check.f a1_0 a1_1 a1_2).bind fun t121 => (monocoquelaw01_SpanMeets.j0 k (t121 != 0) a0_0 a0_1 a0_2 a1_0 a1_1 a1_2)) else (monocoquelaw01_SpanMeets.j0 k true a0_0 a0_1 a0_2 a1_0 a1_1 a1_2))) else (monocoquelaw01_SpanMeets.j0 k true a0_0 a0_1 a0_2 a1_0 a1_1 a1_2)) = some r := H
    have A6 := Aside0.mk A60
    clear A60
    by_cases c7 : t119 = true
    · subst c7
      have H1 : ((monocoqueref01_Check.f a0_0 a0_1 a0_2).bind fun t120 => (if t120 = 0 then ((monocoqueref01_Check.f a1_0 a1_1 a1_2).bind fun t121 => (monocoquelaw01_SpanMeets.j0 k (t121 != 0) a0_0 a0_1 a0_2 a1_0 a1_1 a1_2)) else (monocoquelaw01_SpanMeets.j0 k true a0_0 a0_1 a0_2 a1_0 a1_1 a1_2))) = some r := by rw [if_pos rfl] at H; exact H
      clear H
      have H := H1
      clear H1
      replace H := Option.bind_eq_some_iff.mp H
      obtain ⟨t120, A80, H⟩ := H
      replace H : (if t120 = 0 then ((monocoqueref01_Check.f a1_0 a1_1 a1_2).bind fun t121 => (monocoquelaw01_SpanMeets.j0 k (t121 != 0) a0_0 a0_1 a0_2 a1_0 a1_1 a1_2)) else (monocoquelaw01_SpanMeets.j0 k true a0_0 a0_1 a0_2 a1_0 a1_1 a1_2)) = some r := H
      have A8 := Aside0.mk A80
      clear A80
      by_cases c9 : t120 = 0
      · rw [if_pos c9] at H
        have c9b0 : (t120 == 0) = true := beq_iff_eq.mpr c9
        have c9b1 : (t120 != 0) = false := bne_eq_false_iff_eq.mpr c9
        clear c9
        (first | rw [c9b0] | (simp only [i64_w, i32_w]; rw [c9b0]) | skip)
        replace H := Option.bind_eq_some_iff.mp H
        obtain ⟨t121, A100, H⟩ := H
        replace H : (monocoquelaw01_SpanMeets.j0 k (t121 != 0) a0_0 a0_1 a0_2 a1_0 a1_1 a1_2) = some r := H
        have A10 := Aside0.mk A100
        clear A100
        have H' := Aside0.mk H
        clear H
        go_wp2_with (first | ((with_reducible refine gate_callee (f := 10) rfl ?_); refine goesL_ (some 10) rfl rfl Try.func10 (by kernel_rfl) rfl #[] rfl (by (try simp only [List.map_toArray, List.map_cons, List.map_nil]); first | done | rfl | (simp only [List.length_drop, List.length_take]; rfl)) ?_; (with_reducible refine (monocoquelaw01_speaks.calls k  true _ A6.out).mono ?_); rintro e w11 ⟨rfl, hb⟩; refine ⟨_, rfl, ?_⟩; have n0_ := Aside0.mk (blk_below (g := gb117) (o := .cells #[.int .i64 a0_0, .int .i64 a0_1, .int .i64 a0_2] 23 (0, 0)) (by (with_reducible repeat (first | refine blk_drewN ?_ _ | refine blk_drew ?_ | refine blk_alloc ?_ _)); exact BK117.out) hb); have n1_ := Aside0.mk (blk_below (g := gb118) (o := .cells #[.int .i64 a1_0, .int .i64 a1_1, .int .i64 a1_2] 23 (0, 0)) (by (with_reducible repeat (first | refine blk_drewN ?_ _ | refine blk_drew ?_ | refine blk_alloc ?_ _)); exact BK118.out) hb); have n2_ := Aside0.mk (below_step (by repeat (first | (with_reducible first | exact HB.out | apply below_alloc | apply pw_below_drewN | apply below_drew1 | refine below_set ?_ GE117.out | refine below_set ?_ GE118.out) | exact HB.out)) hb); clear BK117; clear BK118; clear HB; have BK117 := n0_; have BK118 := n1_; have HB := n2_; clear n0_ n1_ n2_; (try clear hb); (try clear hb2); (try clear hk); (try clear hi); have hnb12 := NB117_118.out; have hnc12 := NB118_117.out; have hcz13_0 : w11.cell? ⟨gb117, 0, none⟩ = some (.int .i64 a0_0) := (blk_cell BK117.out 0).trans rfl; have hcz13_1 : w11.cell? ⟨gb117, 1, none⟩ = some (.int .i64 a0_1) := (blk_cell BK117.out 1).trans rfl; have hcz13_2 : w11.cell? ⟨gb117, 2, none⟩ = some (.int .i64 a0_2) := (blk_cell BK117.out 2).trans rfl; have hfz13_0 := blk_frozen BK117.out 0; have hfz13_1 := blk_frozen BK117.out 1; have hfz13_2 := blk_frozen BK117.out 2) | (go_at_call 11; (with_reducible refine (monocoqueref01_Check.calls a0_0 a0_1 a0_2 t120 _ A8.out).mono ?_); rintro e w14 ⟨rfl, hb⟩; have n0_ := Aside0.mk (blk_below (g := gb117) (o := .cells #[.int .i64 a0_0, .int .i64 a0_1, .int .i64 a0_2] 23 (0, 0)) (by (with_reducible repeat (first | refine blk_drewN ?_ _ | refine blk_drew ?_ | refine blk_alloc ?_ _)); exact BK117.out) hb); have n1_ := Aside0.mk (blk_below (g := gb118) (o := .cells #[.int .i64 a1_0, .int .i64 a1_1, .int .i64 a1_2] 23 (0, 0)) (by (with_reducible repeat (first | refine blk_drewN ?_ _ | refine blk_drew ?_ | refine blk_alloc ?_ _)); exact BK118.out) hb); have n2_ := Aside0.mk (below_step (by repeat (first | (with_reducible first | exact HB.out | apply below_alloc | apply pw_below_drewN | apply below_drew1 | refine below_set ?_ GE117.out | refine below_set ?_ GE118.out) | exact HB.out)) hb); clear BK117; clear BK118; clear HB; have BK117 := n0_; have BK118 := n1_; have HB := n2_; clear n0_ n1_ n2_; (try clear hb); (try clear hb2); (try clear hk); (try clear hi); have hcz15_0 : w14.cell? ⟨gb118, 0, none⟩ = some (.int .i64 a1_0) := (blk_cell BK118.out 0).trans rfl; have hcz15_1 : w14.cell? ⟨gb118, 1, none⟩ = some (.int .i64 a1_1) := (blk_cell BK118.out 1).trans rfl; have hcz15_2 : w14.cell? ⟨gb118, 2, none⟩ = some (.int .i64 a1_2) := (blk_cell BK118.out 2).trans rfl; have hfz15_0 := blk_frozen BK118.out 0; have hfz15_1 := blk_frozen BK118.out 1; have hfz15_2 := blk_frozen BK118.out 2) | (go_at_call 11; (with_reducible refine (monocoqueref01_Check.calls a1_0 a1_1 a1_2 t121 _ A10.out).mono ?_); rintro e w16 ⟨rfl, hb⟩; have n0_ := Aside0.mk (blk_below (g := gb117) (o := .cells #[.int .i64 a0_0, .int .i64 a0_1, .int .i64 a0_2] 23 (0, 0)) (by (with_reducible repeat (first | refine blk_drewN ?_ _ | refine blk_drew ?_ | refine blk_alloc ?_ _)); exact BK117.out) hb); have n1_ := Aside0.mk (blk_below (g := gb118) (o := .cells #[.int .i64 a1_0, .int .i64 a1_1, .int .i64 a1_2] 23 (0, 0)) (by (with_reducible repeat (first | refine blk_drewN ?_ _ | refine blk_drew ?_ | refine blk_alloc ?_ _)); exact BK118.out) hb); have n2_ := Aside0.mk (below_step (by repeat (first | (with_reducible first | exact HB.out | apply below_alloc | apply pw_below_drewN | apply below_drew1 | refine below_set ?_ GE117.out | refine below_set ?_ GE118.out) | exact HB.out)) hb); clear BK117; clear BK118; clear HB; have BK117 := n0_; have BK118 := n1_; have HB := n2_; clear n0_ n1_ n2_; (try clear hb); (try clear hb2); (try clear hk); (try clear hi)))
        go_meet
        case rel => exact ⟨_, ((t121 != 0)), (by first | rfl | (simp; done) | (simp [*]; done)), H', ⟨by first | omega | exact Nat.le_refl _⟩, ⟨by (with_reducible repeat (first | refine blk_drewN ?_ _ | refine blk_drew ?_ | refine blk_alloc ?_ _)); exact BK117.out⟩, ⟨by (with_reducible repeat (first | refine blk_drewN ?_ _ | refine blk_drew ?_ | refine blk_alloc ?_ _)); exact BK118.out⟩, ⟨by repeat (first | (with_reducible first | exact HB.out | apply below_alloc | apply pw_below_drewN | apply below_drew1 | refine below_set ?_ GE117.out | refine below_set ?_ GE118.out) | exact HB.out)⟩⟩
      · rw [if_neg c9] at H
        have c9b0 : (t120 == 0) = false := beq_eq_false_iff_ne.mpr c9
        have c9b1 : (t120 != 0) = true := bne_iff_ne.mpr c9
        (first | rw [c9b0] | (simp only [i64_w, i32_w]; rw [c9b0]) | skip)
        have H' := Aside0.mk H
        clear H
        go_wp2_with (first | ((with_reducible refine gate_callee (f := 10) rfl ?_); refine goesL_ (some 10) rfl rfl Try.func10 (by kernel_rfl) rfl #[] rfl (by (try simp only [List.map_toArray, List.map_cons, List.map_nil]); first | done | rfl | (simp only [List.length_drop, List.length_take]; rfl)) ?_; (with_reducible refine (monocoquelaw01_speaks.calls k  true _ A6.out).mono ?_); rintro e w17 ⟨rfl, hb⟩; refine ⟨_, rfl, ?_⟩; have n0_ := Aside0.mk (blk_below (g := gb117) (o := .cells #[.int .i64 a0_0, .int .i64 a0_1, .int .i64 a0_2] 23 (0, 0)) (by (with_reducible repeat (first | refine blk_drewN ?_ _ | refine blk_drew ?_ | refine blk_alloc ?_ _)); exact BK117.out) hb); have n1_ := Aside0.mk (blk_below (g := gb118) (o := .cells #[.int .i64 a1_0, .int .i64 a1_1, .int .i64 a1_2] 23 (0, 0)) (by (with_reducible repeat (first | refine blk_drewN ?_ _ | refine blk_drew ?_ | refine blk_alloc ?_ _)); exact BK118.out) hb); have n2_ := Aside0.mk (below_step (by repeat (first | (with_reducible first | exact HB.out | apply below_alloc | apply pw_below_drewN | apply below_drew1 | refine below_set ?_ GE117.out | refine below_set ?_ GE118.out) | exact HB.out)) hb); clear BK117; clear BK118; clear HB; have BK117 := n0_; have BK118 := n1_; have HB := n2_; clear n0_ n1_ n2_; (try clear hb); (try clear hb2); (try clear hk); (try clear hi); have hnb18 := NB117_118.out; have hnc18 := NB118_117.out; have hcz19_0 : w17.cell? ⟨gb117, 0, none⟩ = some (.int .i64 a0_0) := (blk_cell BK117.out 0).trans rfl; have hcz19_1 : w17.cell? ⟨gb117, 1, none⟩ = some (.int .i64 a0_1) := (blk_cell BK117.out 1).trans rfl; have hcz19_2 : w17.cell? ⟨gb117, 2, none⟩ = some (.int .i64 a0_2) := (blk_cell BK117.out 2).trans rfl; have hfz19_0 := blk_frozen BK117.out 0; have hfz19_1 := blk_frozen BK117.out 1; have hfz19_2 := blk_frozen BK117.out 2) | (go_at_call 11; (with_reducible refine (monocoqueref01_Check.calls a0_0 a0_1 a0_2 t120 _ A8.out).mono ?_); rintro e w20 ⟨rfl, hb⟩; have n0_ := Aside0.mk (blk_below (g := gb117) (o := .cells #[.int .i64 a0_0, .int .i64 a0_1, .int .i64 a0_2] 23 (0, 0)) (by (with_reducible repeat (first | refine blk_drewN ?_ _ | refine blk_drew ?_ | refine blk_alloc ?_ _)); exact BK117.out) hb); have n1_ := Aside0.mk (blk_below (g := gb118) (o := .cells #[.int .i64 a1_0, .int .i64 a1_1, .int .i64 a1_2] 23 (0, 0)) (by (with_reducible repeat (first | refine blk_drewN ?_ _ | refine blk_drew ?_ | refine blk_alloc ?_ _)); exact BK118.out) hb); have n2_ := Aside0.mk (below_step (by repeat (first | (with_reducible first | exact HB.out | apply below_alloc | apply pw_below_drewN | apply below_drew1 | refine below_set ?_ GE117.out | refine below_set ?_ GE118.out) | exact HB.out)) hb); clear BK117; clear BK118; clear HB; have BK117 := n0_; have BK118 := n1_; have HB := n2_; clear n0_ n1_ n2_; (try clear hb); (try clear hb2); (try clear hk); (try clear hi)))
        go_meet
        case rel => exact ⟨_, (true), (by first | rfl | (simp; done) | (simp [*]; done)), H', ⟨by first | omega | exact Nat.le_refl _⟩, ⟨by (with_reducible repeat (first | refine blk_drewN ?_ _ | refine blk_drew ?_ | refine blk_alloc ?_ _)); exact BK117.out⟩, ⟨by (with_reducible repeat (first | refine blk_drewN ?_ _ | refine blk_drew ?_ | refine blk_alloc ?_ _)); exact BK118.out⟩, ⟨by repeat (first | (with_reducible first | exact HB.out | apply below_alloc | apply pw_below_drewN | apply below_drew1 | refine below_set ?_ GE117.out | refine below_set ?_ GE118.out) | exact HB.out)⟩⟩
    · replace c7 := Bool.eq_false_iff.mpr c7
      subst c7
      have H1 : (monocoquelaw01_SpanMeets.j0 k true a0_0 a0_1 a0_2 a1_0 a1_1 a1_2) = some r := by rw [if_neg (show ¬ (false = true) by decide)] at H; exact H
      clear H
      have H := H1
      clear H1
      have H' := Aside0.mk H
      clear H
      go_wp2_with (first | ((with_reducible refine gate_callee (f := 10) rfl ?_); refine goesL_ (some 10) rfl rfl Try.func10 (by kernel_rfl) rfl #[] rfl (by (try simp only [List.map_toArray, List.map_cons, List.map_nil]); first | done | rfl | (simp only [List.length_drop, List.length_take]; rfl)) ?_; (with_reducible refine (monocoquelaw01_speaks.calls k  false _ A6.out).mono ?_); rintro e w21 ⟨rfl, hb⟩; refine ⟨_, rfl, ?_⟩; have n0_ := Aside0.mk (blk_below (g := gb117) (o := .cells #[.int .i64 a0_0, .int .i64 a0_1, .int .i64 a0_2] 23 (0, 0)) (by (with_reducible repeat (first | refine blk_drewN ?_ _ | refine blk_drew ?_ | refine blk_alloc ?_ _)); exact BK117.out) hb); have n1_ := Aside0.mk (blk_below (g := gb118) (o := .cells #[.int .i64 a1_0, .int .i64 a1_1, .int .i64 a1_2] 23 (0, 0)) (by (with_reducible repeat (first | refine blk_drewN ?_ _ | refine blk_drew ?_ | refine blk_alloc ?_ _)); exact BK118.out) hb); have n2_ := Aside0.mk (below_step (by repeat (first | (with_reducible first | exact HB.out | apply below_alloc | apply pw_below_drewN | apply below_drew1 | refine below_set ?_ GE117.out | refine below_set ?_ GE118.out) | exact HB.out)) hb); clear BK117; clear BK118; clear HB; have BK117 := n0_; have BK118 := n1_; have HB := n2_; clear n0_ n1_ n2_; (try clear hb); (try clear hb2); (try clear hk); (try clear hi)))
      go_meet
      case rel => exact ⟨_, (true), (by first | rfl | (simp; done) | (simp [*]; done)), H', ⟨by first | omega | exact Nat.le_refl _⟩, ⟨by (with_reducible repeat (first | refine blk_drewN ?_ _ | refine blk_drew ?_ | refine blk_alloc ?_ _)); exact BK117.out⟩, ⟨by (with_reducible repeat (first | refine blk_drewN ?_ _ | refine blk_drew ?_ | refine blk_alloc ?_ _)); exact BK118.out⟩, ⟨by repeat (first | (with_reducible first | exact HB.out | apply below_alloc | apply pw_below_drewN | apply below_drew1 | refine below_set ?_ GE117.out | refine below_set ?_ GE118.out) | exact HB.out)⟩⟩
  case rest =>
    clear HC3
    try clear c1
    try clear p2
    try clear c3
    try clear c7
    try clear c9
    try clear c9b0
    try clear c9b1
    try clear c10
    try clear c12
    try clear c18
    try clear hcz13_0
    try clear hcz13_1
    try clear hcz13_2
    try clear hcz15_0
    try clear hcz15_1
    try clear hcz15_2
    try clear hcz19_0
    try clear hcz19_1
    try clear hcz19_2
    try clear hfz13_0
    try clear hfz13_1
    try clear hfz13_2
    try clear hfz15_0
    try clear hfz15_1
    try clear hfz15_2
    try clear hfz19_0
    try clear hfz19_1
    try clear hfz19_2
    obtain ⟨kq, x21_2, rfl, HA, HJ2, BK117, BK118, HB⟩ := hcut
    cases kq with
    | zero => exact absurd HA.out (by simp [monocoquelaw01_SpanMeets.j0])
    | succ kj2 =>
      have H := HA.out
      clear HA
      simp only [monocoquelaw01_SpanMeets.j0] at H
      by_cases c22 : x21_2 = true
      · subst c22
        have H1 : ((monocoquelaw01_speaks.f kj2).bind fun t122 => (some t122)) = some r := by rw [if_pos rfl] at H; exact H
        clear H
        have H := H1
        clear H1
        replace H := Option.bind_eq_some_iff.mp H
        obtain ⟨t122, A230, H⟩ := H
        replace H : (some t122) = some r := H
        have A23 := Aside0.mk A230
        clear A230
        obtain rfl := Option.some.inj H
        go_wp2_with (first | ((with_reducible refine gate_callee (f := 10) rfl ?_); refine goesL_ (some 22) rfl rfl Try.func10 (by kernel_rfl) rfl #[] rfl (by (try simp only [List.map_toArray, List.map_cons, List.map_nil]); first | done | rfl | (simp only [List.length_drop, List.length_take]; rfl)) ?_; (with_reducible refine (monocoquelaw01_speaks.calls kj2  t122 _ A23.out).mono ?_); rintro e w24 ⟨rfl, hb⟩; refine ⟨_, rfl, ?_⟩; have n0_ := Aside0.mk (blk_below (g := gb117) (o := .cells #[.int .i64 a0_0, .int .i64 a0_1, .int .i64 a0_2] 23 (0, 0)) (by (with_reducible repeat (first | refine blk_drewN ?_ _ | refine blk_drew ?_ | refine blk_alloc ?_ _)); exact BK117.out) hb); have n1_ := Aside0.mk (blk_below (g := gb118) (o := .cells #[.int .i64 a1_0, .int .i64 a1_1, .int .i64 a1_2] 23 (0, 0)) (by (with_reducible repeat (first | refine blk_drewN ?_ _ | refine blk_drew ?_ | refine blk_alloc ?_ _)); exact BK118.out) hb); have n2_ := Aside0.mk (below_step (by repeat (first | (with_reducible first | exact HB.out | apply below_alloc | apply pw_below_drewN | apply below_drew1 | refine below_set ?_ GE117.out | refine below_set ?_ GE118.out) | exact HB.out)) hb); clear BK117; clear BK118; clear HB; have BK117 := n0_; have BK118 := n1_; have HB := n2_; clear n0_ n1_ n2_; (try clear hb); (try clear hb2); (try clear hk); (try clear hi)))
        go_ret
        exact ⟨by first | rfl | (simp [errW_none, errW_some] <;> rfl) | (simp [*, errW_none, errW_some] <;> rfl), by repeat (first | (with_reducible first | exact HB.out | apply below_alloc | apply pw_below_drewN | apply below_drew1 | refine below_set ?_ GE117.out | refine below_set ?_ GE118.out) | exact HB.out)⟩
      · replace c22 := Bool.eq_false_iff.mpr c22
        subst c22
        have H1 : ((span_Meet.f kj2 a0_0 a0_1 a0_2 a1_0 a1_1 a1_2).bind fun t125 => ((span_Meet.f kj2 a1_0 a1_1 a1_2 a0_0 a0_1 a0_2).bind fun t126 => (if (t125 != t126) = true then (monocoquelaw01_SpanMeets.j1 kj2 true a0_0 a0_1 a0_2 a1_0 a1_1 a1_2 a0_0 a0_1 a0_2 a1_0 a1_1 a1_2) else ((span_Meet.f kj2 a0_0 a0_1 a0_2 a0_0 a0_1 a0_2).bind fun t127 => (monocoquelaw01_SpanMeets.j1 kj2 (!t127) a0_0 a0_1 a0_2 a1_0 a1_1 a1_2 a0_0 a0_1 a0_2 a1_0 a1_1 a1_2))))) = some r := by rw [if_neg (show ¬ (false = true) by decide)] at H; exact H
        clear H
        have H := H1
        clear H1
        have HC25 := Aside0.mk H
        clear H
        try go_wp2
        have n0_ := Aside0.mk (blk_drew BK117.out)
        have n1_ := Aside0.mk (blk_drew BK118.out)
        have n2_ := Aside0.mk (below_drew1 HB.out)
        clear BK117
        clear BK118
        clear HB
        have BK117 := n0_
        have BK118 := n1_
        have HB := n2_
        clear n0_ n1_ n2_
        refine start_ (n := 6) (S := fun w' => w'.cell? ⟨gb117, 0, none⟩ = some (.int .i64 a0_0) ∧ w'.cell? ⟨gb117, 1, none⟩ = some (.int .i64 a0_1) ∧ w'.cell? ⟨gb117, 2, none⟩ = some (.int .i64 a0_2) ∧ w'.cell? ⟨gb118, 0, none⟩ = some (.int .i64 a1_0) ∧ w'.cell? ⟨gb118, 1, none⟩ = some (.int .i64 a1_1) ∧ w'.cell? ⟨gb118, 2, none⟩ = some (.int .i64 a1_2)) (ds := []) #[false, false, false, false, false, false] (by kernel_rfl) rfl rfl ⟨(blk_cell BK117.out 0).trans rfl, (blk_cell BK117.out 1).trans rfl, (blk_cell BK117.out 2).trans rfl, (blk_cell BK118.out 0).trans rfl, (blk_cell BK118.out 1).trans rfl, (blk_cell BK118.out 2).trans rfl⟩ (fun hHeld => ?_)
        generalize wc.drew = w26 at BK117 BK118 HB hHeld ⊢
        refine take_ (i := 0) (N := some 23) (v := ?_) (a' := ?_) #[true, false, false, false, false, false] rfl rfl (by kernel_rfl) (fun _ _ _ h => h) (Or.inl ⟨by rfl, ?_⟩) hHeld ?_ ?_
        rotate_left
        · rintro w' ⟨s0, s1, s2, s3, s4, s5⟩
          go_simp
          with_reducible rfl
        rotate_left
        · simp only [Act.put, List.setIfInBounds_toArray, List.set_cons_zero, List.set_cons_succ, i64_w, i32_w]
          rfl
        refine take_ (i := 1) (N := some 24) (v := ?_) (a' := ?_) #[true, true, false, false, false, false] rfl rfl (by kernel_rfl) (fun _ _ _ h => h) (Or.inl ⟨by rfl, ?_⟩) hHeld ?_ ?_
        rotate_left
        · rintro w' ⟨s0, s1, s2, s3, s4, s5⟩
          go_simp
          with_reducible rfl
        rotate_left
        · simp only [Act.put, List.setIfInBounds_toArray, List.set_cons_zero, List.set_cons_succ, i64_w, i32_w]
          rfl
        refine join_ (σ := Nat × Nat) 2 #[true, true, true, true, false, false] (fun s_ => [(5, .pointer (some ⟨s_.1, 0, none⟩)), (6, .pointer (some ⟨s_.2, 0, none⟩))]) (fun s_ w' => (w'.cell? ⟨gb117, 0, none⟩ = some (.int .i64 a0_0) ∧ w'.cell? ⟨gb117, 1, none⟩ = some (.int .i64 a0_1) ∧ w'.cell? ⟨gb117, 2, none⟩ = some (.int .i64 a0_2) ∧ w'.cell? ⟨gb118, 0, none⟩ = some (.int .i64 a1_0) ∧ w'.cell? ⟨gb118, 1, none⟩ = some (.int .i64 a1_1) ∧ w'.cell? ⟨gb118, 2, none⟩ = some (.int .i64 a1_2)) ∧ (w'.heap[gb117]? = some (.cells #[.int .i64 a0_0, .int .i64 a0_1, .int .i64 a0_2] 23 (0, 0))) ∧ (w'.heap[gb118]? = some (.cells #[.int .i64 a1_0, .int .i64 a1_1, .int .i64 a1_2] 23 (0, 0))) ∧ (w'.heap[s_.1]? = some (.cells #[.int .i64 0, .int .i64 0, .int .i64 0] 26 (0, 0))) ∧ (w'.heap[s_.2]? = some (.cells #[.int .i64 0, .int .i64 0, .int .i64 0] 26 (0, 0))) ∧ (w.heap.size ≤ s_.1) ∧ (w.heap.size ≤ s_.1) ∧ (gb117 ≠ s_.1) ∧ (s_.1 ≠ gb117) ∧ (gb118 ≠ s_.1) ∧ (s_.1 ≠ gb118) ∧ (s_.2 ≠ s_.1) ∧ (s_.1 ≠ s_.2) ∧ (w.heap.size ≤ s_.2) ∧ (w.heap.size ≤ s_.2) ∧ (gb117 ≠ s_.2) ∧ (s_.2 ≠ gb117) ∧ (gb118 ≠ s_.2) ∧ (s_.2 ≠ gb118) ∧ (Below w.heap.size w w')) ?_ ?_
        rotate_left
        · intro hCont
          refine two_ (i := 2) (j := 3) (Ni := some 5) (Nj := some 6) #[true, true, true, false, false, false] #[true, true, false, true, false, false] rfl rfl rfl rfl (by kernel_rfl) (by decide) (by decide) (fun K hK => ?_) (fun K hK => ?_)
          · skip
            refine box_step ?hg (N := 5) ?hd (cs := #[.int .i64 0, .int .i64 0, .int .i64 0]) (t := 26) ?hr ?_; (case hd => rfl); (case hg => rfl); (case hr => first | (go_simp; done) | (go_simp; rfl))
            intro gb123 hg w27 hbox hb
            have n0_ := Aside0.mk (blk_below (g := gb117) (o := .cells #[.int .i64 a0_0, .int .i64 a0_1, .int .i64 a0_2] 23 (0, 0)) (by (with_reducible repeat (first | refine blk_drewN ?_ _ | refine blk_drew ?_ | refine blk_alloc ?_ _)); exact BK117.out) hb)
            have n1_ := Aside0.mk (blk_below (g := gb118) (o := .cells #[.int .i64 a1_0, .int .i64 a1_1, .int .i64 a1_2] 23 (0, 0)) (by (with_reducible repeat (first | refine blk_drewN ?_ _ | refine blk_drew ?_ | refine blk_alloc ?_ _)); exact BK118.out) hb)
            have n2_ := Aside0.mk (below_step (by repeat (first | (with_reducible first | exact HB.out | apply below_alloc | apply pw_below_drewN | apply below_drew1 | refine below_set ?_ GE117.out | refine below_set ?_ GE118.out) | exact HB.out)) hb)
            have n3_ := Aside0.mk (hbox)
            have n4_ := Aside0.mk ((by rw [hg]; exact (below_size (by repeat (first | (with_reducible first | exact HB.out | apply below_alloc | apply pw_below_drewN | apply below_drew1 | refine below_set ?_ GE117.out | refine below_set ?_ GE118.out) | exact HB.out))) : w.heap.size ≤ gb123))
            have n5_ := Aside0.mk ((by rw [hg]; exact (below_size (by repeat (first | (with_reducible first | exact HB.out | apply below_alloc | apply pw_below_drewN | apply below_drew1 | refine below_set ?_ GE117.out | refine below_set ?_ GE118.out) | exact HB.out))) : w.heap.size ≤ gb123))
            have n6_ := Aside0.mk ((by rw [hg]; exact Nat.ne_of_lt (blk_lt (g := gb117) (o := .cells #[.int .i64 a0_0, .int .i64 a0_1, .int .i64 a0_2] 23 (0, 0)) (by (with_reducible repeat (first | refine blk_drewN ?_ _ | refine blk_drew ?_ | refine blk_alloc ?_ _)); exact BK117.out)) : gb117 ≠ gb123))
            have n7_ := Aside0.mk ((by rw [hg]; exact Nat.ne_of_gt (blk_lt (g := gb117) (o := .cells #[.int .i64 a0_0, .int .i64 a0_1, .int .i64 a0_2] 23 (0, 0)) (by (with_reducible repeat (first | refine blk_drewN ?_ _ | refine blk_drew ?_ | refine blk_alloc ?_ _)); exact BK117.out)) : gb123 ≠ gb117))
            have n8_ := Aside0.mk ((by rw [hg]; exact Nat.ne_of_lt (blk_lt (g := gb118) (o := .cells #[.int .i64 a1_0, .int .i64 a1_1, .int .i64 a1_2] 23 (0, 0)) (by (with_reducible repeat (first | refine blk_drewN ?_ _ | refine blk_drew ?_ | refine blk_alloc ?_ _)); exact BK118.out)) : gb118 ≠ gb123))
            have n9_ := Aside0.mk ((by rw [hg]; exact Nat.ne_of_gt (blk_lt (g := gb118) (o := .cells #[.int .i64 a1_0, .int .i64 a1_1, .int .i64 a1_2] 23 (0, 0)) (by (with_reducible repeat (first | refine blk_drewN ?_ _ | refine blk_drew ?_ | refine blk_alloc ?_ _)); exact BK118.out)) : gb123 ≠ gb118))
            clear BK117
            clear BK118
            clear HB
            have BK117 := n0_
            have BK118 := n1_
            have HB := n2_
            have BK123 := n3_
            have GW123 := n4_
            have GE123 := n5_
            have NB117_123 := n6_
            have NB123_117 := n7_
            have NB118_123 := n8_
            have NB123_118 := n9_
            clear n0_ n1_ n2_ n3_ n4_ n5_ n6_ n7_ n8_ n9_
            clear hb hbox hg
            refine hK.out _ _ ⟨(blk_cell BK117.out 0).trans rfl, (blk_cell BK117.out 1).trans rfl, (blk_cell BK117.out 2).trans rfl, (blk_cell BK118.out 0).trans rfl, (blk_cell BK118.out 1).trans rfl, (blk_cell BK118.out 2).trans rfl⟩ (fun hHeld => ?_)
            clear hK K
            refine norm_ (a' := ?_) ?_ ?_
            rotate_left
            · show Act.put _ (some 5) _ = _
              simp only [Act.put, List.setIfInBounds_toArray, List.set_cons_zero, List.set_cons_succ, i64_w, i32_w]
              rfl
            refine one_ (i := 3) (N := some 6) #[true, true, true, true, false, false] rfl rfl (by kernel_rfl) (by decide) (fun K hK => ?_)
            refine box_step ?hg (N := 6) ?hd (cs := #[.int .i64 0, .int .i64 0, .int .i64 0]) (t := 26) ?hr ?_; (case hd => rfl); (case hg => rfl); (case hr => first | (go_simp; done) | (go_simp; rfl))
            intro gb124 hg w28 hbox hb
            have n0_ := Aside0.mk (blk_below (g := gb117) (o := .cells #[.int .i64 a0_0, .int .i64 a0_1, .int .i64 a0_2] 23 (0, 0)) (by (with_reducible repeat (first | refine blk_drewN ?_ _ | refine blk_drew ?_ | refine blk_alloc ?_ _)); exact BK117.out) hb)
            have n1_ := Aside0.mk (blk_below (g := gb118) (o := .cells #[.int .i64 a1_0, .int .i64 a1_1, .int .i64 a1_2] 23 (0, 0)) (by (with_reducible repeat (first | refine blk_drewN ?_ _ | refine blk_drew ?_ | refine blk_alloc ?_ _)); exact BK118.out) hb)
            have n2_ := Aside0.mk (blk_below (g := gb123) (o := .cells #[.int .i64 0, .int .i64 0, .int .i64 0] 26 (0, 0)) (by (with_reducible repeat (first | refine blk_drewN ?_ _ | refine blk_drew ?_ | refine blk_alloc ?_ _)); exact BK123.out) hb)
            have n3_ := Aside0.mk (below_step (by repeat (first | (with_reducible first | exact HB.out | apply below_alloc | apply pw_below_drewN | apply below_drew1 | refine below_set ?_ GE117.out | refine below_set ?_ GE118.out | refine below_set ?_ GE123.out) | exact HB.out)) hb)
            have n4_ := Aside0.mk (hbox)
            have n5_ := Aside0.mk ((by rw [hg]; exact (below_size (by repeat (first | (with_reducible first | exact HB.out | apply below_alloc | apply pw_below_drewN | apply below_drew1 | refine below_set ?_ GE117.out | refine below_set ?_ GE118.out | refine below_set ?_ GE123.out) | exact HB.out))) : w.heap.size ≤ gb124))
            have n6_ := Aside0.mk ((by rw [hg]; exact (below_size (by repeat (first | (with_reducible first | exact HB.out | apply below_alloc | apply pw_below_drewN | apply below_drew1 | refine below_set ?_ GE117.out | refine below_set ?_ GE118.out | refine below_set ?_ GE123.out) | exact HB.out))) : w.heap.size ≤ gb124))
            have n7_ := Aside0.mk ((by rw [hg]; exact Nat.ne_of_lt (blk_lt (g := gb117) (o := .cells #[.int .i64 a0_0, .int .i64 a0_1, .int .i64 a0_2] 23 (0, 0)) (by (with_reducible repeat (first | refine blk_drewN ?_ _ | refine blk_drew ?_ | refine blk_alloc ?_ _)); exact BK117.out)) : gb117 ≠ gb124))
            have n8_ := Aside0.mk ((by rw [hg]; exact Nat.ne_of_gt (blk_lt (g := gb117) (o := .cells #[.int .i64 a0_0, .int .i64 a0_1, .int .i64 a0_2] 23 (0, 0)) (by (with_reducible repeat (first | refine blk_drewN ?_ _ | refine blk_drew ?_ | refine blk_alloc ?_ _)); exact BK117.out)) : gb124 ≠ gb117))
            have n9_ := Aside0.mk ((by rw [hg]; exact Nat.ne_of_lt (blk_lt (g := gb118) (o := .cells #[.int .i64 a1_0, .int .i64 a1_1, .int .i64 a1_2] 23 (0, 0)) (by (with_reducible repeat (first | refine blk_drewN ?_ _ | refine blk_drew ?_ | refine blk_alloc ?_ _)); exact BK118.out)) : gb118 ≠ gb124))
            have n10_ := Aside0.mk ((by rw [hg]; exact Nat.ne_of_gt (blk_lt (g := gb118) (o := .cells #[.int .i64 a1_0, .int .i64 a1_1, .int .i64 a1_2] 23 (0, 0)) (by (with_reducible repeat (first | refine blk_drewN ?_ _ | refine blk_drew ?_ | refine blk_alloc ?_ _)); exact BK118.out)) : gb124 ≠ gb118))
            have n11_ := Aside0.mk ((by rw [hg]; exact Nat.ne_of_lt (blk_lt (g := gb123) (o := .cells #[.int .i64 0, .int .i64 0, .int .i64 0] 26 (0, 0)) (by (with_reducible repeat (first | refine blk_drewN ?_ _ | refine blk_drew ?_ | refine blk_alloc ?_ _)); exact BK123.out)) : gb123 ≠ gb124))
            have n12_ := Aside0.mk ((by rw [hg]; exact Nat.ne_of_gt (blk_lt (g := gb123) (o := .cells #[.int .i64 0, .int .i64 0, .int .i64 0] 26 (0, 0)) (by (with_reducible repeat (first | refine blk_drewN ?_ _ | refine blk_drew ?_ | refine blk_alloc ?_ _)); exact BK123.out)) : gb124 ≠ gb123))
            clear BK117
            clear BK118
            clear BK123
            clear HB
            have BK117 := n0_
            have BK118 := n1_
            have BK123 := n2_
            have HB := n3_
            have BK124 := n4_
            have GW124 := n5_
            have GE124 := n6_
            have NB117_124 := n7_
            have NB124_117 := n8_
            have NB118_124 := n9_
            have NB124_118 := n10_
            have NB123_124 := n11_
            have NB124_123 := n12_
            clear n0_ n1_ n2_ n3_ n4_ n5_ n6_ n7_ n8_ n9_ n10_ n11_ n12_
            clear hb hbox hg
            refine hK.out _ _ ⟨(blk_cell BK117.out 0).trans rfl, (blk_cell BK117.out 1).trans rfl, (blk_cell BK117.out 2).trans rfl, (blk_cell BK118.out 0).trans rfl, (blk_cell BK118.out 1).trans rfl, (blk_cell BK118.out 2).trans rfl⟩ (fun hHeld => ?_)
            clear hK K
            refine norm_ (a' := ?_) ?_ ?_
            rotate_left
            · show Act.put _ (some 6) _ = _
              simp only [Act.put, List.setIfInBounds_toArray, List.set_cons_zero, List.set_cons_succ, i64_w, i32_w]
              rfl
            exact norm_ (by simp only [putAll, Act.put, List.setIfInBounds_toArray, List.set_cons_zero, List.set_cons_succ]) (hCont (gb123, gb124) _ ⟨hHeld, (by (with_reducible repeat (first | refine blk_drewN ?_ _ | refine blk_drew ?_ | refine blk_alloc ?_ _)); exact BK117.out), (by (with_reducible repeat (first | refine blk_drewN ?_ _ | refine blk_drew ?_ | refine blk_alloc ?_ _)); exact BK118.out), (by (with_reducible repeat (first | refine blk_drewN ?_ _ | refine blk_drew ?_ | refine blk_alloc ?_ _)); exact BK123.out), (by (with_reducible repeat (first | refine blk_drewN ?_ _ | refine blk_drew ?_ | refine blk_alloc ?_ _)); exact BK124.out), GW123.out, GE123.out, NB117_123.out, NB123_117.out, NB118_123.out, NB123_118.out, NB124_123.out, NB123_124.out, GW124.out, GE124.out, NB117_124.out, NB124_117.out, NB118_124.out, NB124_118.out, (by repeat (first | (with_reducible first | exact HB.out | apply below_alloc | apply pw_below_drewN | apply below_drew1 | refine below_set ?_ GE117.out | refine below_set ?_ GE118.out | refine below_set ?_ GE123.out | refine below_set ?_ GE124.out) | exact HB.out))⟩)
          · skip
            refine box_step ?hg (N := 6) ?hd (cs := #[.int .i64 0, .int .i64 0, .int .i64 0]) (t := 26) ?hr ?_; (case hd => rfl); (case hg => rfl); (case hr => first | (go_simp; done) | (go_simp; rfl))
            intro gb124 hg w27 hbox hb
            have n0_ := Aside0.mk (blk_below (g := gb117) (o := .cells #[.int .i64 a0_0, .int .i64 a0_1, .int .i64 a0_2] 23 (0, 0)) (by (with_reducible repeat (first | refine blk_drewN ?_ _ | refine blk_drew ?_ | refine blk_alloc ?_ _)); exact BK117.out) hb)
            have n1_ := Aside0.mk (blk_below (g := gb118) (o := .cells #[.int .i64 a1_0, .int .i64 a1_1, .int .i64 a1_2] 23 (0, 0)) (by (with_reducible repeat (first | refine blk_drewN ?_ _ | refine blk_drew ?_ | refine blk_alloc ?_ _)); exact BK118.out) hb)
            have n2_ := Aside0.mk (below_step (by repeat (first | (with_reducible first | exact HB.out | apply below_alloc | apply pw_below_drewN | apply below_drew1 | refine below_set ?_ GE117.out | refine below_set ?_ GE118.out) | exact HB.out)) hb)
            have n3_ := Aside0.mk (hbox)
            have n4_ := Aside0.mk ((by rw [hg]; exact (below_size (by repeat (first | (with_reducible first | exact HB.out | apply below_alloc | apply pw_below_drewN | apply below_drew1 | refine below_set ?_ GE117.out | refine below_set ?_ GE118.out) | exact HB.out))) : w.heap.size ≤ gb124))
            have n5_ := Aside0.mk ((by rw [hg]; exact (below_size (by repeat (first | (with_reducible first | exact HB.out | apply below_alloc | apply pw_below_drewN | apply below_drew1 | refine below_set ?_ GE117.out | refine below_set ?_ GE118.out) | exact HB.out))) : w.heap.size ≤ gb124))
            have n6_ := Aside0.mk ((by rw [hg]; exact Nat.ne_of_lt (blk_lt (g := gb117) (o := .cells #[.int .i64 a0_0, .int .i64 a0_1, .int .i64 a0_2] 23 (0, 0)) (by (with_reducible repeat (first | refine blk_drewN ?_ _ | refine blk_drew ?_ | refine blk_alloc ?_ _)); exact BK117.out)) : gb117 ≠ gb124))
            have n7_ := Aside0.mk ((by rw [hg]; exact Nat.ne_of_gt (blk_lt (g := gb117) (o := .cells #[.int .i64 a0_0, .int .i64 a0_1, .int .i64 a0_2] 23 (0, 0)) (by (with_reducible repeat (first | refine blk_drewN ?_ _ | refine blk_drew ?_ | refine blk_alloc ?_ _)); exact BK117.out)) : gb124 ≠ gb117))
            have n8_ := Aside0.mk ((by rw [hg]; exact Nat.ne_of_lt (blk_lt (g := gb118) (o := .cells #[.int .i64 a1_0, .int .i64 a1_1, .int .i64 a1_2] 23 (0, 0)) (by (with_reducible repeat (first | refine blk_drewN ?_ _ | refine blk_drew ?_ | refine blk_alloc ?_ _)); exact BK118.out)) : gb118 ≠ gb124))
            have n9_ := Aside0.mk ((by rw [hg]; exact Nat.ne_of_gt (blk_lt (g := gb118) (o := .cells #[.int .i64 a1_0, .int .i64 a1_1, .int .i64 a1_2] 23 (0, 0)) (by (with_reducible repeat (first | refine blk_drewN ?_ _ | refine blk_drew ?_ | refine blk_alloc ?_ _)); exact BK118.out)) : gb124 ≠ gb118))
            clear BK117
            clear BK118
            clear HB
            have BK117 := n0_
            have BK118 := n1_
            have HB := n2_
            have BK124 := n3_
            have GW124 := n4_
            have GE124 := n5_
            have NB117_124 := n6_
            have NB124_117 := n7_
            have NB118_124 := n8_
            have NB124_118 := n9_
            clear n0_ n1_ n2_ n3_ n4_ n5_ n6_ n7_ n8_ n9_
            clear hb hbox hg
            refine hK.out _ _ ⟨(blk_cell BK117.out 0).trans rfl, (blk_cell BK117.out 1).trans rfl, (blk_cell BK117.out 2).trans rfl, (blk_cell BK118.out 0).trans rfl, (blk_cell BK118.out 1).trans rfl, (blk_cell BK118.out 2).trans rfl⟩ (fun hHeld => ?_)
            clear hK K
            refine norm_ (a' := ?_) ?_ ?_
            rotate_left
            · show Act.put _ (some 6) _ = _
              simp only [Act.put, List.setIfInBounds_toArray, List.set_cons_zero, List.set_cons_succ, i64_w, i32_w]
              rfl
            refine one_ (i := 2) (N := some 5) #[true, true, true, true, false, false] rfl rfl (by kernel_rfl) (by decide) (fun K hK => ?_)
            refine box_step ?hg (N := 5) ?hd (cs := #[.int .i64 0, .int .i64 0, .int .i64 0]) (t := 26) ?hr ?_; (case hd => rfl); (case hg => rfl); (case hr => first | (go_simp; done) | (go_simp; rfl))
            intro gb123 hg w28 hbox hb
            have n0_ := Aside0.mk (blk_below (g := gb117) (o := .cells #[.int .i64 a0_0, .int .i64 a0_1, .int .i64 a0_2] 23 (0, 0)) (by (with_reducible repeat (first | refine blk_drewN ?_ _ | refine blk_drew ?_ | refine blk_alloc ?_ _)); exact BK117.out) hb)
            have n1_ := Aside0.mk (blk_below (g := gb118) (o := .cells #[.int .i64 a1_0, .int .i64 a1_1, .int .i64 a1_2] 23 (0, 0)) (by (with_reducible repeat (first | refine blk_drewN ?_ _ | refine blk_drew ?_ | refine blk_alloc ?_ _)); exact BK118.out) hb)
            have n2_ := Aside0.mk (blk_below (g := gb124) (o := .cells #[.int .i64 0, .int .i64 0, .int .i64 0] 26 (0, 0)) (by (with_reducible repeat (first | refine blk_drewN ?_ _ | refine blk_drew ?_ | refine blk_alloc ?_ _)); exact BK124.out) hb)
            have n3_ := Aside0.mk (below_step (by repeat (first | (with_reducible first | exact HB.out | apply below_alloc | apply pw_below_drewN | apply below_drew1 | refine below_set ?_ GE117.out | refine below_set ?_ GE118.out | refine below_set ?_ GE124.out) | exact HB.out)) hb)
            have n4_ := Aside0.mk (hbox)
            have n5_ := Aside0.mk ((by rw [hg]; exact (below_size (by repeat (first | (with_reducible first | exact HB.out | apply below_alloc | apply pw_below_drewN | apply below_drew1 | refine below_set ?_ GE117.out | refine below_set ?_ GE118.out | refine below_set ?_ GE124.out) | exact HB.out))) : w.heap.size ≤ gb123))
            have n6_ := Aside0.mk ((by rw [hg]; exact (below_size (by repeat (first | (with_reducible first | exact HB.out | apply below_alloc | apply pw_below_drewN | apply below_drew1 | refine below_set ?_ GE117.out | refine below_set ?_ GE118.out | refine below_set ?_ GE124.out) | exact HB.out))) : w.heap.size ≤ gb123))
            have n7_ := Aside0.mk ((by rw [hg]; exact Nat.ne_of_lt (blk_lt (g := gb117) (o := .cells #[.int .i64 a0_0, .int .i64 a0_1, .int .i64 a0_2] 23 (0, 0)) (by (with_reducible repeat (first | refine blk_drewN ?_ _ | refine blk_drew ?_ | refine blk_alloc ?_ _)); exact BK117.out)) : gb117 ≠ gb123))
            have n8_ := Aside0.mk ((by rw [hg]; exact Nat.ne_of_gt (blk_lt (g := gb117) (o := .cells #[.int .i64 a0_0, .int .i64 a0_1, .int .i64 a0_2] 23 (0, 0)) (by (with_reducible repeat (first | refine blk_drewN ?_ _ | refine blk_drew ?_ | refine blk_alloc ?_ _)); exact BK117.out)) : gb123 ≠ gb117))
            have n9_ := Aside0.mk ((by rw [hg]; exact Nat.ne_of_lt (blk_lt (g := gb118) (o := .cells #[.int .i64 a1_0, .int .i64 a1_1, .int .i64 a1_2] 23 (0, 0)) (by (with_reducible repeat (first | refine blk_drewN ?_ _ | refine blk_drew ?_ | refine blk_alloc ?_ _)); exact BK118.out)) : gb118 ≠ gb123))
            have n10_ := Aside0.mk ((by rw [hg]; exact Nat.ne_of_gt (blk_lt (g := gb118) (o := .cells #[.int .i64 a1_0, .int .i64 a1_1, .int .i64 a1_2] 23 (0, 0)) (by (with_reducible repeat (first | refine blk_drewN ?_ _ | refine blk_drew ?_ | refine blk_alloc ?_ _)); exact BK118.out)) : gb123 ≠ gb118))
            have n11_ := Aside0.mk ((by rw [hg]; exact Nat.ne_of_lt (blk_lt (g := gb124) (o := .cells #[.int .i64 0, .int .i64 0, .int .i64 0] 26 (0, 0)) (by (with_reducible repeat (first | refine blk_drewN ?_ _ | refine blk_drew ?_ | refine blk_alloc ?_ _)); exact BK124.out)) : gb124 ≠ gb123))
            have n12_ := Aside0.mk ((by rw [hg]; exact Nat.ne_of_gt (blk_lt (g := gb124) (o := .cells #[.int .i64 0, .int .i64 0, .int .i64 0] 26 (0, 0)) (by (with_reducible repeat (first | refine blk_drewN ?_ _ | refine blk_drew ?_ | refine blk_alloc ?_ _)); exact BK124.out)) : gb123 ≠ gb124))
            clear BK117
            clear BK118
            clear BK124
            clear HB
            have BK117 := n0_
            have BK118 := n1_
            have BK124 := n2_
            have HB := n3_
            have BK123 := n4_
            have GW123 := n5_
            have GE123 := n6_
            have NB117_123 := n7_
            have NB123_117 := n8_
            have NB118_123 := n9_
            have NB123_118 := n10_
            have NB124_123 := n11_
            have NB123_124 := n12_
            clear n0_ n1_ n2_ n3_ n4_ n5_ n6_ n7_ n8_ n9_ n10_ n11_ n12_
            clear hb hbox hg
            refine hK.out _ _ ⟨(blk_cell BK117.out 0).trans rfl, (blk_cell BK117.out 1).trans rfl, (blk_cell BK117.out 2).trans rfl, (blk_cell BK118.out 0).trans rfl, (blk_cell BK118.out 1).trans rfl, (blk_cell BK118.out 2).trans rfl⟩ (fun hHeld => ?_)
            clear hK K
            refine norm_ (a' := ?_) ?_ ?_
            rotate_left
            · show Act.put _ (some 5) _ = _
              simp only [Act.put, List.setIfInBounds_toArray, List.set_cons_zero, List.set_cons_succ, i64_w, i32_w]
              rfl
            exact norm_ (by simp only [putAll, Act.put, List.setIfInBounds_toArray, List.set_cons_zero, List.set_cons_succ]) (hCont (gb123, gb124) _ ⟨hHeld, (by (with_reducible repeat (first | refine blk_drewN ?_ _ | refine blk_drew ?_ | refine blk_alloc ?_ _)); exact BK117.out), (by (with_reducible repeat (first | refine blk_drewN ?_ _ | refine blk_drew ?_ | refine blk_alloc ?_ _)); exact BK118.out), (by (with_reducible repeat (first | refine blk_drewN ?_ _ | refine blk_drew ?_ | refine blk_alloc ?_ _)); exact BK123.out), (by (with_reducible repeat (first | refine blk_drewN ?_ _ | refine blk_drew ?_ | refine blk_alloc ?_ _)); exact BK124.out), GW123.out, GE123.out, NB117_123.out, NB123_117.out, NB118_123.out, NB123_118.out, NB124_123.out, NB123_124.out, GW124.out, GE124.out, NB117_124.out, NB124_117.out, NB118_124.out, NB124_118.out, (by repeat (first | (with_reducible first | exact HB.out | apply below_alloc | apply pw_below_drewN | apply below_drew1 | refine below_set ?_ GE117.out | refine below_set ?_ GE118.out | refine below_set ?_ GE124.out | refine below_set ?_ GE123.out) | exact HB.out))⟩)
        rintro ⟨gb123, gb124⟩ w29 ⟨hS_, h0_, h1_, h2_, h3_, h4_, h5_, h6_, h7_, h8_, h9_, h10_, h11_, h12_, h13_, h14_, h15_, h16_, h17_, h18_⟩
        have n0_ : Aside0 (w29.heap[gb117]? = some (.cells #[.int .i64 a0_0, .int .i64 a0_1, .int .i64 a0_2] 23 (0, 0))) := ⟨h0_⟩
        have n1_ : Aside0 (w29.heap[gb118]? = some (.cells #[.int .i64 a1_0, .int .i64 a1_1, .int .i64 a1_2] 23 (0, 0))) := ⟨h1_⟩
        have n2_ : Aside0 (w29.heap[gb123]? = some (.cells #[.int .i64 0, .int .i64 0, .int .i64 0] 26 (0, 0))) := ⟨h2_⟩
        have n3_ : Aside0 (w29.heap[gb124]? = some (.cells #[.int .i64 0, .int .i64 0, .int .i64 0] 26 (0, 0))) := ⟨h3_⟩
        have n4_ : Aside0 (w.heap.size ≤ gb123) := ⟨h4_⟩
        have n5_ : Aside0 (w.heap.size ≤ gb123) := ⟨h5_⟩
        have n6_ : Aside0 (gb117 ≠ gb123) := ⟨h6_⟩
        have n7_ : Aside0 (gb123 ≠ gb117) := ⟨h7_⟩
        have n8_ : Aside0 (gb118 ≠ gb123) := ⟨h8_⟩
        have n9_ : Aside0 (gb123 ≠ gb118) := ⟨h9_⟩
        have n10_ : Aside0 (gb124 ≠ gb123) := ⟨h10_⟩
        have n11_ : Aside0 (gb123 ≠ gb124) := ⟨h11_⟩
        have n12_ : Aside0 (w.heap.size ≤ gb124) := ⟨h12_⟩
        have n13_ : Aside0 (w.heap.size ≤ gb124) := ⟨h13_⟩
        have n14_ : Aside0 (gb117 ≠ gb124) := ⟨h14_⟩
        have n15_ : Aside0 (gb124 ≠ gb117) := ⟨h15_⟩
        have n16_ : Aside0 (gb118 ≠ gb124) := ⟨h16_⟩
        have n17_ : Aside0 (gb124 ≠ gb118) := ⟨h17_⟩
        have n18_ : Aside0 (Below w.heap.size w w29) := ⟨h18_⟩
        clear BK117
        clear BK118
        clear HB
        clear h0_ h1_ h2_ h3_ h4_ h5_ h6_ h7_ h8_ h9_ h10_ h11_ h12_ h13_ h14_ h15_ h16_ h17_ h18_
        have BK117 := n0_
        have BK118 := n1_
        have BK123 := n2_
        have BK124 := n3_
        have GW123 := n4_
        have GE123 := n5_
        have NB117_123 := n6_
        have NB123_117 := n7_
        have NB118_123 := n8_
        have NB123_118 := n9_
        have NB124_123 := n10_
        have NB123_124 := n11_
        have GW124 := n12_
        have GE124 := n13_
        have NB117_124 := n14_
        have NB124_117 := n15_
        have NB118_124 := n16_
        have NB124_118 := n17_
        have HB := n18_
        clear n0_ n1_ n2_ n3_ n4_ n5_ n6_ n7_ n8_ n9_ n10_ n11_ n12_ n13_ n14_ n15_ n16_ n17_ n18_
        have hHeld : w29.cell? ⟨gb117, 0, none⟩ = some (.int .i64 a0_0) ∧ w29.cell? ⟨gb117, 1, none⟩ = some (.int .i64 a0_1) ∧ w29.cell? ⟨gb117, 2, none⟩ = some (.int .i64 a0_2) ∧ w29.cell? ⟨gb118, 0, none⟩ = some (.int .i64 a1_0) ∧ w29.cell? ⟨gb118, 1, none⟩ = some (.int .i64 a1_1) ∧ w29.cell? ⟨gb118, 2, none⟩ = some (.int .i64 a1_2) := hS_
        refine norm_ (a' := ?_) ?_ ?_
        rotate_left
        · simp only [putAll, Act.put, List.setIfInBounds_toArray, List.set_cons_zero, List.set_cons_succ]
          rfl
        refine one_ (i := 4) (N := none) #[true, true, true, true, true, false] rfl rfl (by kernel_rfl) (by decide) (fun K hK => ?_)
        have hs30 : w29.cell? ⟨gb123, 0, none⟩ = some (.int .i64 0) := (blk_cell BK123.out 0).trans rfl
        have hfs30 := blk_frozen BK123.out 0
        have hns30_0 := NB117_123.out
        have hns30_1 := NB118_123.out
        have hns30_3 := NB124_123.out
        have hms30_0 := NB123_117.out
        have hms30_1 := NB123_118.out
        have hms30_3 := NB123_124.out
        have hs31 : w29.cell? ⟨gb123, 1, none⟩ = some (.int .i64 0) := (blk_cell BK123.out 1).trans rfl
        have hfs31 := blk_frozen BK123.out 1
        have hns31_0 := NB117_123.out
        have hns31_1 := NB118_123.out
        have hns31_3 := NB124_123.out
        have hms31_0 := NB123_117.out
        have hms31_1 := NB123_118.out
        have hms31_3 := NB123_124.out
        have hs32 : w29.cell? ⟨gb123, 2, none⟩ = some (.int .i64 0) := (blk_cell BK123.out 2).trans rfl
        have hfs32 := blk_frozen BK123.out 2
        have hns32_0 := NB117_123.out
        have hns32_1 := NB118_123.out
        have hns32_3 := NB124_123.out
        have hms32_0 := NB123_117.out
        have hms32_1 := NB123_118.out
        have hms32_3 := NB123_124.out
        refine skip_ (w1 := ?_) (by rfl) rfl ?_ ?_
        rotate_left
        · go_simp
          rfl
        refine hK.out _ _ ⟨((cell_far (p := ⟨gb123, _, none⟩) NB117_123.out _).trans (((cell_far (p := ⟨gb123, _, none⟩) NB117_123.out _).trans (((cell_far (p := ⟨gb123, _, none⟩) NB117_123.out _).trans (hHeld.1)))))), ((cell_far (p := ⟨gb123, _, none⟩) NB117_123.out _).trans (((cell_far (p := ⟨gb123, _, none⟩) NB117_123.out _).trans (((cell_far (p := ⟨gb123, _, none⟩) NB117_123.out _).trans (hHeld.2.1)))))), ((cell_far (p := ⟨gb123, _, none⟩) NB117_123.out _).trans (((cell_far (p := ⟨gb123, _, none⟩) NB117_123.out _).trans (((cell_far (p := ⟨gb123, _, none⟩) NB117_123.out _).trans (hHeld.2.2.1)))))), ((cell_far (p := ⟨gb123, _, none⟩) NB118_123.out _).trans (((cell_far (p := ⟨gb123, _, none⟩) NB118_123.out _).trans (((cell_far (p := ⟨gb123, _, none⟩) NB118_123.out _).trans (hHeld.2.2.2.1)))))), ((cell_far (p := ⟨gb123, _, none⟩) NB118_123.out _).trans (((cell_far (p := ⟨gb123, _, none⟩) NB118_123.out _).trans (((cell_far (p := ⟨gb123, _, none⟩) NB118_123.out _).trans (hHeld.2.2.2.2.1)))))), ((cell_far (p := ⟨gb123, _, none⟩) NB118_123.out _).trans (((cell_far (p := ⟨gb123, _, none⟩) NB118_123.out _).trans (((cell_far (p := ⟨gb123, _, none⟩) NB118_123.out _).trans (hHeld.2.2.2.2.2))))))⟩ (fun hHeld => ?_)
        clear hK K
        refine one_ (i := 5) (N := none) #[true, true, true, true, true, true] rfl rfl (by kernel_rfl) (by decide) (fun K hK => ?_)
        have hs33 : w29.cell? ⟨gb124, 0, none⟩ = some (.int .i64 0) := (blk_cell BK124.out 0).trans rfl
        have hfs33 := blk_frozen BK124.out 0
        have hns33_0 := NB117_124.out
        have hns33_1 := NB118_124.out
        have hns33_2 := NB123_124.out
        have hms33_0 := NB124_117.out
        have hms33_1 := NB124_118.out
        have hms33_2 := NB124_123.out
        have hs34 : w29.cell? ⟨gb124, 1, none⟩ = some (.int .i64 0) := (blk_cell BK124.out 1).trans rfl
        have hfs34 := blk_frozen BK124.out 1
        have hns34_0 := NB117_124.out
        have hns34_1 := NB118_124.out
        have hns34_2 := NB123_124.out
        have hms34_0 := NB124_117.out
        have hms34_1 := NB124_118.out
        have hms34_2 := NB124_123.out
        have hs35 : w29.cell? ⟨gb124, 2, none⟩ = some (.int .i64 0) := (blk_cell BK124.out 2).trans rfl
        have hfs35 := blk_frozen BK124.out 2
        have hns35_0 := NB117_124.out
        have hns35_1 := NB118_124.out
        have hns35_2 := NB123_124.out
        have hms35_0 := NB124_117.out
        have hms35_1 := NB124_118.out
        have hms35_2 := NB124_123.out
        refine skip_ (w1 := ?_) (by rfl) rfl ?_ ?_
        rotate_left
        · go_simp
          rfl
        refine hK.out _ _ ⟨((cell_far (p := ⟨gb124, _, none⟩) NB117_124.out _).trans (((cell_far (p := ⟨gb124, _, none⟩) NB117_124.out _).trans (((cell_far (p := ⟨gb124, _, none⟩) NB117_124.out _).trans (hHeld.1)))))), ((cell_far (p := ⟨gb124, _, none⟩) NB117_124.out _).trans (((cell_far (p := ⟨gb124, _, none⟩) NB117_124.out _).trans (((cell_far (p := ⟨gb124, _, none⟩) NB117_124.out _).trans (hHeld.2.1)))))), ((cell_far (p := ⟨gb124, _, none⟩) NB117_124.out _).trans (((cell_far (p := ⟨gb124, _, none⟩) NB117_124.out _).trans (((cell_far (p := ⟨gb124, _, none⟩) NB117_124.out _).trans (hHeld.2.2.1)))))), ((cell_far (p := ⟨gb124, _, none⟩) NB118_124.out _).trans (((cell_far (p := ⟨gb124, _, none⟩) NB118_124.out _).trans (((cell_far (p := ⟨gb124, _, none⟩) NB118_124.out _).trans (hHeld.2.2.2.1)))))), ((cell_far (p := ⟨gb124, _, none⟩) NB118_124.out _).trans (((cell_far (p := ⟨gb124, _, none⟩) NB118_124.out _).trans (((cell_far (p := ⟨gb124, _, none⟩) NB118_124.out _).trans (hHeld.2.2.2.2.1)))))), ((cell_far (p := ⟨gb124, _, none⟩) NB118_124.out _).trans (((cell_far (p := ⟨gb124, _, none⟩) NB118_124.out _).trans (((cell_far (p := ⟨gb124, _, none⟩) NB118_124.out _).trans (hHeld.2.2.2.2.2))))))⟩ (fun hHeld => ?_)
        clear hK K
        refine done_ (by kernel_rfl) ?_
        go_upto_region 4 with (fail)
        go_cut [37] (fun v37 wc => ∃ (kq : Nat) (x37_24 : Bool), v37 = .bool x37_24 ∧ Aside0 (monocoquelaw01_SpanMeets.j1 kq x37_24 a0_0 a0_1 a0_2 a1_0 a1_1 a1_2 a0_0 a0_1 a0_2 a1_0 a1_1 a1_2 = some r) ∧ Aside0 (kq ≤ kj2) ∧ Aside0 (wc.heap[gb117]? = some (.cells #[.int .i64 a0_0, .int .i64 a0_1, .int .i64 a0_2] 23 (0, 0))) ∧ Aside0 (wc.heap[gb118]? = some (.cells #[.int .i64 a1_0, .int .i64 a1_1, .int .i64 a1_2] 23 (0, 0))) ∧ Aside0 (wc.heap[gb123]? = some (.cells #[.int .i64 a0_0, .int .i64 a0_1, .int .i64 a0_2] 26 (0, 0))) ∧ Aside0 (wc.heap[gb124]? = some (.cells #[.int .i64 a1_0, .int .i64 a1_1, .int .i64 a1_2] 26 (0, 0))) ∧ Aside0 (Below w.heap.size w wc))
        case first =>
          have H := HC25.out
          clear HC25
          replace H := Option.bind_eq_some_iff.mp H
          obtain ⟨t125, A360, H⟩ := H
          replace H : ((span_Meet.f kj2 a1_0 a1_1 a1_2 a0_0 a0_1 a0_2).bind fun t126 => (if (t125 != t126) = true then (monocoquelaw01_SpanMeets.j1 kj2 true a0_0 a0_1 a0_2 a1_0 a1_1 a1_2 a0_0 a0_1 a0_2 a1_0 a1_1 a1_2) else ((span_Meet.f kj2 a0_0 a0_1 a0_2 a0_0 a0_1 a0_2).bind fun t127 => (monocoquelaw01_SpanMeets.j1 kj2 (!t127) a0_0 a0_1 a0_2 a1_0 a1_1 a1_2 a0_0 a0_1 a0_2 a1_0 a1_1 a1_2)))) = some r := H
          have A36 := Aside0.mk A360
          clear A360
          replace H := Option.bind_eq_some_iff.mp H
          obtain ⟨t126, A370, H⟩ := H
          replace H : (if (t125 != t126) = true then (monocoquelaw01_SpanMeets.j1 kj2 true a0_0 a0_1 a0_2 a1_0 a1_1 a1_2 a0_0 a0_1 a0_2 a1_0 a1_1 a1_2) else ((span_Meet.f kj2 a0_0 a0_1 a0_2 a0_0 a0_1 a0_2).bind fun t127 => (monocoquelaw01_SpanMeets.j1 kj2 (!t127) a0_0 a0_1 a0_2 a1_0 a1_1 a1_2 a0_0 a0_1 a0_2 a1_0 a1_1 a1_2))) = some r := H
          have A37 := Aside0.mk A370
          clear A370
          by_cases c38 : (t125 != t126) = true
          · rw [if_pos c38] at H
            have c38b0 : (t125 != t126) = true := c38
            (try (have c38b1 : decide (t125 = t126) = false := by simpa using c38))
            (try (have c38b2 : (t125 == t126) = false := by simpa using c38))
            (try (have c38b3 : ¬ (t125 = t126) := by simpa using c38))
            clear c38
            (first | rw [c38b0] | (simp only [i64_w, i32_w]; rw [c38b0]) | skip)
            have H' := Aside0.mk H
            clear H
            try go_wp2
            have n0_ : Aside0 (((((((w29.setCell ⟨gb123, 0, none⟩ (.int .i64 a0_0)).setCell ⟨gb123, 1, none⟩ (.int .i64 a0_1)).setCell ⟨gb123, 2, none⟩ (.int .i64 a0_2)).setCell ⟨gb124, 0, none⟩ (.int .i64 a1_0)).setCell ⟨gb124, 1, none⟩ (.int .i64 a1_1)).setCell ⟨gb124, 2, none⟩ (.int .i64 a1_2)).heap[gb117]? = some (.cells #[.int .i64 a0_0, .int .i64 a0_1, .int .i64 a0_2] 23 (0, 0))) := ⟨by (with_reducible repeat (first | refine blk_drewN ?_ _ | refine blk_drew ?_ | refine blk_alloc ?_ _)); refine blk_far ?_ NB117_124.out _; (with_reducible repeat (first | refine blk_drewN ?_ _ | refine blk_drew ?_ | refine blk_alloc ?_ _)); refine blk_far ?_ NB117_124.out _; (with_reducible repeat (first | refine blk_drewN ?_ _ | refine blk_drew ?_ | refine blk_alloc ?_ _)); refine blk_far ?_ NB117_124.out _; (with_reducible repeat (first | refine blk_drewN ?_ _ | refine blk_drew ?_ | refine blk_alloc ?_ _)); refine blk_far ?_ NB117_123.out _; (with_reducible repeat (first | refine blk_drewN ?_ _ | refine blk_drew ?_ | refine blk_alloc ?_ _)); refine blk_far ?_ NB117_123.out _; (with_reducible repeat (first | refine blk_drewN ?_ _ | refine blk_drew ?_ | refine blk_alloc ?_ _)); refine blk_far ?_ NB117_123.out _; (with_reducible repeat (first | refine blk_drewN ?_ _ | refine blk_drew ?_ | refine blk_alloc ?_ _)); exact BK117.out⟩
            have n1_ : Aside0 (((((((w29.setCell ⟨gb123, 0, none⟩ (.int .i64 a0_0)).setCell ⟨gb123, 1, none⟩ (.int .i64 a0_1)).setCell ⟨gb123, 2, none⟩ (.int .i64 a0_2)).setCell ⟨gb124, 0, none⟩ (.int .i64 a1_0)).setCell ⟨gb124, 1, none⟩ (.int .i64 a1_1)).setCell ⟨gb124, 2, none⟩ (.int .i64 a1_2)).heap[gb118]? = some (.cells #[.int .i64 a1_0, .int .i64 a1_1, .int .i64 a1_2] 23 (0, 0))) := ⟨by (with_reducible repeat (first | refine blk_drewN ?_ _ | refine blk_drew ?_ | refine blk_alloc ?_ _)); refine blk_far ?_ NB118_124.out _; (with_reducible repeat (first | refine blk_drewN ?_ _ | refine blk_drew ?_ | refine blk_alloc ?_ _)); refine blk_far ?_ NB118_124.out _; (with_reducible repeat (first | refine blk_drewN ?_ _ | refine blk_drew ?_ | refine blk_alloc ?_ _)); refine blk_far ?_ NB118_124.out _; (with_reducible repeat (first | refine blk_drewN ?_ _ | refine blk_drew ?_ | refine blk_alloc ?_ _)); refine blk_far ?_ NB118_123.out _; (with_reducible repeat (first | refine blk_drewN ?_ _ | refine blk_drew ?_ | refine blk_alloc ?_ _)); refine blk_far ?_ NB118_123.out _; (with_reducible repeat (first | refine blk_drewN ?_ _ | refine blk_drew ?_ | refine blk_alloc ?_ _)); refine blk_far ?_ NB118_123.out _; (with_reducible repeat (first | refine blk_drewN ?_ _ | refine blk_drew ?_ | refine blk_alloc ?_ _)); exact BK118.out⟩
            have n2_ : Aside0 (((((((w29.setCell ⟨gb123, 0, none⟩ (.int .i64 a0_0)).setCell ⟨gb123, 1, none⟩ (.int .i64 a0_1)).setCell ⟨gb123, 2, none⟩ (.int .i64 a0_2)).setCell ⟨gb124, 0, none⟩ (.int .i64 a1_0)).setCell ⟨gb124, 1, none⟩ (.int .i64 a1_1)).setCell ⟨gb124, 2, none⟩ (.int .i64 a1_2)).heap[gb123]? = some (.cells #[.int .i64 a0_0, .int .i64 a0_1, .int .i64 a0_2] 26 (0, 0))) := ⟨by (with_reducible repeat (first | refine blk_drewN ?_ _ | refine blk_drew ?_ | refine blk_alloc ?_ _)); refine blk_far ?_ NB123_124.out _; (with_reducible repeat (first | refine blk_drewN ?_ _ | refine blk_drew ?_ | refine blk_alloc ?_ _)); refine blk_far ?_ NB123_124.out _; (with_reducible repeat (first | refine blk_drewN ?_ _ | refine blk_drew ?_ | refine blk_alloc ?_ _)); refine blk_far ?_ NB123_124.out _; (with_reducible repeat (first | refine blk_drewN ?_ _ | refine blk_drew ?_ | refine blk_alloc ?_ _)); refine blk_put (cs := #[.int .i64 a0_0, .int .i64 a0_1, .int .i64 0]) ?_ 2 _ rfl; (with_reducible repeat (first | refine blk_drewN ?_ _ | refine blk_drew ?_ | refine blk_alloc ?_ _)); refine blk_put (cs := #[.int .i64 a0_0, .int .i64 0, .int .i64 0]) ?_ 1 _ rfl; (with_reducible repeat (first | refine blk_drewN ?_ _ | refine blk_drew ?_ | refine blk_alloc ?_ _)); refine blk_put (cs := #[.int .i64 0, .int .i64 0, .int .i64 0]) ?_ 0 _ rfl; (with_reducible repeat (first | refine blk_drewN ?_ _ | refine blk_drew ?_ | refine blk_alloc ?_ _)); exact BK123.out⟩
            have n3_ : Aside0 (((((((w29.setCell ⟨gb123, 0, none⟩ (.int .i64 a0_0)).setCell ⟨gb123, 1, none⟩ (.int .i64 a0_1)).setCell ⟨gb123, 2, none⟩ (.int .i64 a0_2)).setCell ⟨gb124, 0, none⟩ (.int .i64 a1_0)).setCell ⟨gb124, 1, none⟩ (.int .i64 a1_1)).setCell ⟨gb124, 2, none⟩ (.int .i64 a1_2)).heap[gb124]? = some (.cells #[.int .i64 a1_0, .int .i64 a1_1, .int .i64 a1_2] 26 (0, 0))) := ⟨by (with_reducible repeat (first | refine blk_drewN ?_ _ | refine blk_drew ?_ | refine blk_alloc ?_ _)); refine blk_put (cs := #[.int .i64 a1_0, .int .i64 a1_1, .int .i64 0]) ?_ 2 _ rfl; (with_reducible repeat (first | refine blk_drewN ?_ _ | refine blk_drew ?_ | refine blk_alloc ?_ _)); refine blk_put (cs := #[.int .i64 a1_0, .int .i64 0, .int .i64 0]) ?_ 1 _ rfl; (with_reducible repeat (first | refine blk_drewN ?_ _ | refine blk_drew ?_ | refine blk_alloc ?_ _)); refine blk_put (cs := #[.int .i64 0, .int .i64 0, .int .i64 0]) ?_ 0 _ rfl; (with_reducible repeat (first | refine blk_drewN ?_ _ | refine blk_drew ?_ | refine blk_alloc ?_ _)); refine blk_far ?_ NB124_123.out _; (with_reducible repeat (first | refine blk_drewN ?_ _ | refine blk_drew ?_ | refine blk_alloc ?_ _)); refine blk_far ?_ NB124_123.out _; (with_reducible repeat (first | refine blk_drewN ?_ _ | refine blk_drew ?_ | refine blk_alloc ?_ _)); refine blk_far ?_ NB124_123.out _; (with_reducible repeat (first | refine blk_drewN ?_ _ | refine blk_drew ?_ | refine blk_alloc ?_ _)); exact BK124.out⟩
            have n4_ : Aside0 (Below w.heap.size w ((((((w29.setCell ⟨gb123, 0, none⟩ (.int .i64 a0_0)).setCell ⟨gb123, 1, none⟩ (.int .i64 a0_1)).setCell ⟨gb123, 2, none⟩ (.int .i64 a0_2)).setCell ⟨gb124, 0, none⟩ (.int .i64 a1_0)).setCell ⟨gb124, 1, none⟩ (.int .i64 a1_1)).setCell ⟨gb124, 2, none⟩ (.int .i64 a1_2))) := ⟨by repeat (first | (with_reducible first | exact HB.out | apply below_alloc | apply pw_below_drewN | apply below_drew1 | refine below_set ?_ GE117.out | refine below_set ?_ GE118.out | refine below_set ?_ GE123.out | refine below_set ?_ GE124.out) | exact HB.out)⟩
            (try clear BK117)
            (try clear BK118)
            (try clear BK123)
            (try clear BK124)
            (try clear HB)
            generalize ((((((w29.setCell ⟨gb123, 0, none⟩ (.int .i64 a0_0)).setCell ⟨gb123, 1, none⟩ (.int .i64 a0_1)).setCell ⟨gb123, 2, none⟩ (.int .i64 a0_2)).setCell ⟨gb124, 0, none⟩ (.int .i64 a1_0)).setCell ⟨gb124, 1, none⟩ (.int .i64 a1_1)).setCell ⟨gb124, 2, none⟩ (.int .i64 a1_2)) = w39 at n0_ n1_ n2_ n3_ n4_ ⊢
            have BK117 := n0_
            have BK118 := n1_
            have BK123 := n2_
            have BK124 := n3_
            have HB := n4_
            clear n0_ n1_ n2_ n3_ n4_
            have n0_ := Aside0.mk (blk_drew BK117.out)
            have n1_ := Aside0.mk (blk_drew BK118.out)
            have n2_ := Aside0.mk (blk_drew BK123.out)
            have n3_ := Aside0.mk (blk_drew BK124.out)
            have n4_ := Aside0.mk (below_drew1 HB.out)
            clear BK117
            clear BK118
            clear BK123
            clear BK124
            clear HB
            have BK117 := n0_
            have BK118 := n1_
            have BK123 := n2_
            have BK124 := n3_
            have HB := n4_
            clear n0_ n1_ n2_ n3_ n4_
            refine start_ (n := 13) (S := fun w' => w'.cell? ⟨gb123, 0, none⟩ = some (.int .i64 a0_0) ∧ w'.cell? ⟨gb123, 1, none⟩ = some (.int .i64 a0_1) ∧ w'.cell? ⟨gb123, 2, none⟩ = some (.int .i64 a0_2) ∧ w'.cell? ⟨gb124, 0, none⟩ = some (.int .i64 a1_0) ∧ w'.cell? ⟨gb124, 1, none⟩ = some (.int .i64 a1_1) ∧ w'.cell? ⟨gb124, 2, none⟩ = some (.int .i64 a1_2)) (ds := []) #[false, false, false, false, false, false, false, false, false, false, false, false, false] (by kernel_rfl) rfl rfl ⟨(blk_cell BK123.out 0).trans rfl, (blk_cell BK123.out 1).trans rfl, (blk_cell BK123.out 2).trans rfl, (blk_cell BK124.out 0).trans rfl, (blk_cell BK124.out 1).trans rfl, (blk_cell BK124.out 2).trans rfl⟩ (fun hHeld => ?_); refine with_tabW monocoquelaw01_SpanMeets.tab4 monocoquelaw01_SpanMeets.bits4 (fun HT_ HW_ => ?_)
            generalize w39.drew = w40 at BK117 BK118 BK123 BK124 HB hHeld ⊢
            refine take_ (i := 0) (N := some 25) (v := ?_) (a' := ?_) #[true, false, false, false, false, false, false, false, false, false, false, false, false] rfl rfl (take_ofW HT_.out HW_.out (by kernel_rfl)) (fun _ _ _ h => h) (Or.inl ⟨by rfl, ?_⟩) hHeld ?_ ?_
            rotate_left
            · rintro w' ⟨s0, s1, s2, s3, s4, s5⟩
              go_simp
              with_reducible rfl
            rotate_left
            · simp only [Act.put, List.setIfInBounds_toArray, List.set_cons_zero, List.set_cons_succ, i64_w, i32_w]
              rfl
            refine take_ (i := 1) (N := some 26) (v := ?_) (a' := ?_) #[true, true, false, false, false, false, false, false, false, false, false, false, false] rfl rfl (take_ofW HT_.out HW_.out (by kernel_rfl)) (fun _ _ _ h => h) (Or.inl ⟨by rfl, ?_⟩) hHeld ?_ ?_
            rotate_left
            · rintro w' ⟨s0, s1, s2, s3, s4, s5⟩
              go_simp
              with_reducible rfl
            rotate_left
            · simp only [Act.put, List.setIfInBounds_toArray, List.set_cons_zero, List.set_cons_succ, i64_w, i32_w]
              rfl
            refine take_ (i := 3) (N := some 28) (v := ?_) (a' := ?_) #[true, true, false, true, false, false, false, false, false, false, false, false, false] rfl rfl (take_ofW HT_.out HW_.out (by kernel_rfl)) (fun _ _ _ h => h) (Or.inl ⟨by rfl, ?_⟩) hHeld ?_ ?_
            rotate_left
            · rintro w' ⟨s0, s1, s2, s3, s4, s5⟩
              go_simp
              with_reducible rfl
            rotate_left
            · simp only [Act.put, List.setIfInBounds_toArray, List.set_cons_zero, List.set_cons_succ, i64_w, i32_w]
              rfl
            refine take_ (i := 4) (N := some 29) (v := ?_) (a' := ?_) #[true, true, false, true, true, false, false, false, false, false, false, false, false] rfl rfl (take_ofW HT_.out HW_.out (by kernel_rfl)) (fun _ _ _ h => h) (Or.inl ⟨by rfl, ?_⟩) hHeld ?_ ?_
            rotate_left
            · rintro w' ⟨s0, s1, s2, s3, s4, s5⟩
              go_simp
              with_reducible rfl
            rotate_left
            · simp only [Act.put, List.setIfInBounds_toArray, List.set_cons_zero, List.set_cons_succ, i64_w, i32_w]
              rfl
            refine one_ (i := 2) (N := some 27) #[true, true, true, true, true, false, false, false, false, false, false, false, false] rfl rfl (one_of HT_.out (by kernel_rfl)) (by decide) (fun K hK => ?_)
            refine goes_ Try.func12 (by kernel_rfl) rfl #[.agg #[.int .i64 a0_0, .int .i64 a0_1, .int .i64 a0_2], .agg #[.int .i64 a1_0, .int .i64 a1_1, .int .i64 a1_2]] (by rfl) rfl rfl (by (try simp only [List.map_toArray, List.map_cons, List.map_nil]); first | done | rfl | (simp only [List.length_drop, List.length_take]; rfl)) ?_
            with_reducible refine (span_Meet.calls kj2 a0_0 a0_1 a0_2 a1_0 a1_1 a1_2 t125 _ A36.out).mono ?_
            rintro e w41 ⟨rfl, hb⟩
            refine ⟨_, rfl, ?_⟩
            have n0_ := Aside0.mk (blk_below (g := gb117) (o := .cells #[.int .i64 a0_0, .int .i64 a0_1, .int .i64 a0_2] 23 (0, 0)) (by (with_reducible repeat (first | refine blk_drewN ?_ _ | refine blk_drew ?_ | refine blk_alloc ?_ _)); exact BK117.out) hb)
            have n1_ := Aside0.mk (blk_below (g := gb118) (o := .cells #[.int .i64 a1_0, .int .i64 a1_1, .int .i64 a1_2] 23 (0, 0)) (by (with_reducible repeat (first | refine blk_drewN ?_ _ | refine blk_drew ?_ | refine blk_alloc ?_ _)); exact BK118.out) hb)
            have n2_ := Aside0.mk (blk_below (g := gb123) (o := .cells #[.int .i64 a0_0, .int .i64 a0_1, .int .i64 a0_2] 26 (0, 0)) (by (with_reducible repeat (first | refine blk_drewN ?_ _ | refine blk_drew ?_ | refine blk_alloc ?_ _)); exact BK123.out) hb)
            have n3_ := Aside0.mk (blk_below (g := gb124) (o := .cells #[.int .i64 a1_0, .int .i64 a1_1, .int .i64 a1_2] 26 (0, 0)) (by (with_reducible repeat (first | refine blk_drewN ?_ _ | refine blk_drew ?_ | refine blk_alloc ?_ _)); exact BK124.out) hb)
            have n4_ := Aside0.mk (below_step (by repeat (first | (with_reducible first | exact HB.out | apply below_alloc | apply pw_below_drewN | apply below_drew1 | refine below_set ?_ GE117.out | refine below_set ?_ GE118.out | refine below_set ?_ GE123.out | refine below_set ?_ GE124.out) | exact HB.out)) hb)
            clear BK117
            clear BK118
            clear BK123
            clear BK124
            clear HB
            have BK117 := n0_
            have BK118 := n1_
            have BK123 := n2_
            have BK124 := n3_
            have HB := n4_
            clear n0_ n1_ n2_ n3_ n4_
            (try clear hb)
            (try clear hb2)
            (try clear hk)
            (try clear hi)
            refine hK.out _ _ ⟨(blk_cell BK123.out 0).trans rfl, (blk_cell BK123.out 1).trans rfl, (blk_cell BK123.out 2).trans rfl, (blk_cell BK124.out 0).trans rfl, (blk_cell BK124.out 1).trans rfl, (blk_cell BK124.out 2).trans rfl⟩ (fun hHeld => ?_)
            clear hK K
            refine norm_ (a' := ?_) ?_ ?_
            rotate_left
            · show Act.put _ (some 27) _ = _
              simp only [Act.put, List.setIfInBounds_toArray, List.set_cons_zero, List.set_cons_succ, i64_w, i32_w]
              rfl
            refine one_ (i := 5) (N := some 30) #[true, true, true, true, true, true, false, false, false, false, false, false, false] rfl rfl (one_of HT_.out (by kernel_rfl)) (by decide) (fun K hK => ?_)
            refine goes_ Try.func12 (by kernel_rfl) rfl #[.agg #[.int .i64 a1_0, .int .i64 a1_1, .int .i64 a1_2], .agg #[.int .i64 a0_0, .int .i64 a0_1, .int .i64 a0_2]] (by rfl) rfl rfl (by (try simp only [List.map_toArray, List.map_cons, List.map_nil]); first | done | rfl | (simp only [List.length_drop, List.length_take]; rfl)) ?_
            with_reducible refine (span_Meet.calls kj2 a1_0 a1_1 a1_2 a0_0 a0_1 a0_2 t126 _ A37.out).mono ?_
            rintro e w42 ⟨rfl, hb⟩
            refine ⟨_, rfl, ?_⟩
            have n0_ := Aside0.mk (blk_below (g := gb117) (o := .cells #[.int .i64 a0_0, .int .i64 a0_1, .int .i64 a0_2] 23 (0, 0)) (by (with_reducible repeat (first | refine blk_drewN ?_ _ | refine blk_drew ?_ | refine blk_alloc ?_ _)); exact BK117.out) hb)
            have n1_ := Aside0.mk (blk_below (g := gb118) (o := .cells #[.int .i64 a1_0, .int .i64 a1_1, .int .i64 a1_2] 23 (0, 0)) (by (with_reducible repeat (first | refine blk_drewN ?_ _ | refine blk_drew ?_ | refine blk_alloc ?_ _)); exact BK118.out) hb)
            have n2_ := Aside0.mk (blk_below (g := gb123) (o := .cells #[.int .i64 a0_0, .int .i64 a0_1, .int .i64 a0_2] 26 (0, 0)) (by (with_reducible repeat (first | refine blk_drewN ?_ _ | refine blk_drew ?_ | refine blk_alloc ?_ _)); exact BK123.out) hb)
            have n3_ := Aside0.mk (blk_below (g := gb124) (o := .cells #[.int .i64 a1_0, .int .i64 a1_1, .int .i64 a1_2] 26 (0, 0)) (by (with_reducible repeat (first | refine blk_drewN ?_ _ | refine blk_drew ?_ | refine blk_alloc ?_ _)); exact BK124.out) hb)
            have n4_ := Aside0.mk (below_step (by repeat (first | (with_reducible first | exact HB.out | apply below_alloc | apply pw_below_drewN | apply below_drew1 | refine below_set ?_ GE117.out | refine below_set ?_ GE118.out | refine below_set ?_ GE123.out | refine below_set ?_ GE124.out) | exact HB.out)) hb)
            clear BK117
            clear BK118
            clear BK123
            clear BK124
            clear HB
            have BK117 := n0_
            have BK118 := n1_
            have BK123 := n2_
            have BK124 := n3_
            have HB := n4_
            clear n0_ n1_ n2_ n3_ n4_
            (try clear hb)
            (try clear hb2)
            (try clear hk)
            (try clear hi)
            refine hK.out _ _ ⟨(blk_cell BK123.out 0).trans rfl, (blk_cell BK123.out 1).trans rfl, (blk_cell BK123.out 2).trans rfl, (blk_cell BK124.out 0).trans rfl, (blk_cell BK124.out 1).trans rfl, (blk_cell BK124.out 2).trans rfl⟩ (fun hHeld => ?_)
            clear hK K
            refine norm_ (a' := ?_) ?_ ?_
            rotate_left
            · show Act.put _ (some 30) _ = _
              simp only [Act.put, List.setIfInBounds_toArray, List.set_cons_zero, List.set_cons_succ, i64_w, i32_w]
              rfl
            refine pure_ (i := 6) (N := some 31) (v := ?_) (a' := ?_) #[true, true, true, true, true, true, true, false, false, false, false, false, false] rfl rfl (any_of HT_.out (by kernel_rfl)) (fun _ _ _ h => h) (Or.inl ⟨by rfl, ?_⟩) ?_ ?_
            rotate_left
            · intro w'
              go_simp
              with_reducible rfl
            rotate_left
            · simp only [Act.put, List.setIfInBounds_toArray, List.set_cons_zero, List.set_cons_succ, i64_w, i32_w]
              rfl
            refine pure_ (i := 7) (N := some 32) (v := ?_) (a' := ?_) #[true, true, true, true, true, true, true, true, false, false, false, false, false] rfl rfl (any_of HT_.out (by kernel_rfl)) (fun _ _ _ h => h) (Or.inl ⟨by rfl, ?_⟩) ?_ ?_
            rotate_left
            · intro w'
              go_simp
              with_reducible rfl
            rotate_left
            · simp only [Act.put, List.setIfInBounds_toArray, List.set_cons_zero, List.set_cons_succ, i64_w, i32_w]
              rfl
            refine pure_ (i := 8) (N := some 33) (v := undef) (a' := ?_) #[true, true, true, true, true, true, true, true, true, false, false, false, false] rfl rfl (any_of HT_.out (by kernel_rfl)) (fun _ _ _ h => h) (Or.inr ⟨by rfl, rfl⟩) ?_ ?_
            rotate_left
            · simp only [Act.put, List.setIfInBounds_toArray, List.set_cons_zero, List.set_cons_succ, i64_w, i32_w]
              rfl
            refine pure_ (i := 9) (N := some 34) (v := undef) (a' := ?_) #[true, true, true, true, true, true, true, true, true, true, false, false, false] rfl rfl (any_of HT_.out (by kernel_rfl)) (fun _ _ _ h => h) (Or.inr ⟨by rfl, rfl⟩) ?_ ?_
            rotate_left
            · simp only [Act.put, List.setIfInBounds_toArray, List.set_cons_zero, List.set_cons_succ, i64_w, i32_w]
              rfl
            refine pure_ (i := 10) (N := some 35) (v := undef) (a' := ?_) #[true, true, true, true, true, true, true, true, true, true, true, false, false] rfl rfl (any_of HT_.out (by kernel_rfl)) (fun _ _ _ h => h) (Or.inr ⟨by rfl, rfl⟩) ?_ ?_
            rotate_left
            · simp only [Act.put, List.setIfInBounds_toArray, List.set_cons_zero, List.set_cons_succ, i64_w, i32_w]
              rfl
            refine pure_ (i := 11) (N := some 36) (v := undef) (a' := ?_) #[true, true, true, true, true, true, true, true, true, true, true, true, false] rfl rfl (any_of HT_.out (by kernel_rfl)) (fun _ _ _ h => h) (Or.inr ⟨by rfl, rfl⟩) ?_ ?_
            rotate_left
            · simp only [Act.put, List.setIfInBounds_toArray, List.set_cons_zero, List.set_cons_succ, i64_w, i32_w]
              rfl
            refine pure_ (i := 12) (N := some 37) (v := ?_) (a' := ?_) #[true, true, true, true, true, true, true, true, true, true, true, true, true] rfl rfl (any_of HT_.out (by kernel_rfl)) (fun _ _ _ h => h) (Or.inl ⟨by rfl, ?_⟩) ?_ ?_
            rotate_left
            · intro w'
              go_simp
              with_reducible rfl
            rotate_left
            · simp only [Act.put, List.setIfInBounds_toArray, List.set_cons_zero, List.set_cons_succ, i64_w, i32_w]
              rfl
            refine done_ (done_of HT_.out (by kernel_rfl)) ?_
            try go_wp2
            go_meet
            case rel => exact ⟨_, (true), (by first | rfl | (simp; done) | (simp [*]; done)), H', ⟨by have := HJ2.out; first | omega | exact Nat.le_refl _⟩, ⟨by (with_reducible repeat (first | refine blk_drewN ?_ _ | refine blk_drew ?_ | refine blk_alloc ?_ _)); exact BK117.out⟩, ⟨by (with_reducible repeat (first | refine blk_drewN ?_ _ | refine blk_drew ?_ | refine blk_alloc ?_ _)); exact BK118.out⟩, ⟨by (with_reducible repeat (first | refine blk_drewN ?_ _ | refine blk_drew ?_ | refine blk_alloc ?_ _)); exact BK123.out⟩, ⟨by (with_reducible repeat (first | refine blk_drewN ?_ _ | refine blk_drew ?_ | refine blk_alloc ?_ _)); exact BK124.out⟩, ⟨by repeat (first | (with_reducible first | exact HB.out | apply below_alloc | apply pw_below_drewN | apply below_drew1 | refine below_set ?_ GE117.out | refine below_set ?_ GE118.out | refine below_set ?_ GE123.out | refine below_set ?_ GE124.out) | exact HB.out)⟩⟩
          · rw [if_neg c38] at H
            have c38b0 : (t125 != t126) = false := by simpa using c38
            (try (have c38b1 : decide (t125 = t126) = true := by simpa using c38))
            (try (have c38b2 : (t125 == t126) = true := by simpa using c38))
            clear c38
            (first | rw [c38b0] | (simp only [i64_w, i32_w]; rw [c38b0]) | skip)
            replace H := Option.bind_eq_some_iff.mp H
            obtain ⟨t127, A430, H⟩ := H
            replace H : (monocoquelaw01_SpanMeets.j1 kj2 (!t127) a0_0 a0_1 a0_2 a1_0 a1_1 a1_2 a0_0 a0_1 a0_2 a1_0 a1_1 a1_2) = some r := H
            have A43 := Aside0.mk A430
            clear A430
            have H' := Aside0.mk H
            clear H
            try go_wp2
            have n0_ : Aside0 (((((((w29.setCell ⟨gb123, 0, none⟩ (.int .i64 a0_0)).setCell ⟨gb123, 1, none⟩ (.int .i64 a0_1)).setCell ⟨gb123, 2, none⟩ (.int .i64 a0_2)).setCell ⟨gb124, 0, none⟩ (.int .i64 a1_0)).setCell ⟨gb124, 1, none⟩ (.int .i64 a1_1)).setCell ⟨gb124, 2, none⟩ (.int .i64 a1_2)).heap[gb117]? = some (.cells #[.int .i64 a0_0, .int .i64 a0_1, .int .i64 a0_2] 23 (0, 0))) := ⟨by (with_reducible repeat (first | refine blk_drewN ?_ _ | refine blk_drew ?_ | refine blk_alloc ?_ _)); refine blk_far ?_ NB117_124.out _; (with_reducible repeat (first | refine blk_drewN ?_ _ | refine blk_drew ?_ | refine blk_alloc ?_ _)); refine blk_far ?_ NB117_124.out _; (with_reducible repeat (first | refine blk_drewN ?_ _ | refine blk_drew ?_ | refine blk_alloc ?_ _)); refine blk_far ?_ NB117_124.out _; (with_reducible repeat (first | refine blk_drewN ?_ _ | refine blk_drew ?_ | refine blk_alloc ?_ _)); refine blk_far ?_ NB117_123.out _; (with_reducible repeat (first | refine blk_drewN ?_ _ | refine blk_drew ?_ | refine blk_alloc ?_ _)); refine blk_far ?_ NB117_123.out _; (with_reducible repeat (first | refine blk_drewN ?_ _ | refine blk_drew ?_ | refine blk_alloc ?_ _)); refine blk_far ?_ NB117_123.out _; (with_reducible repeat (first | refine blk_drewN ?_ _ | refine blk_drew ?_ | refine blk_alloc ?_ _)); exact BK117.out⟩
            have n1_ : Aside0 (((((((w29.setCell ⟨gb123, 0, none⟩ (.int .i64 a0_0)).setCell ⟨gb123, 1, none⟩ (.int .i64 a0_1)).setCell ⟨gb123, 2, none⟩ (.int .i64 a0_2)).setCell ⟨gb124, 0, none⟩ (.int .i64 a1_0)).setCell ⟨gb124, 1, none⟩ (.int .i64 a1_1)).setCell ⟨gb124, 2, none⟩ (.int .i64 a1_2)).heap[gb118]? = some (.cells #[.int .i64 a1_0, .int .i64 a1_1, .int .i64 a1_2] 23 (0, 0))) := ⟨by (with_reducible repeat (first | refine blk_drewN ?_ _ | refine blk_drew ?_ | refine blk_alloc ?_ _)); refine blk_far ?_ NB118_124.out _; (with_reducible repeat (first | refine blk_drewN ?_ _ | refine blk_drew ?_ | refine blk_alloc ?_ _)); refine blk_far ?_ NB118_124.out _; (with_reducible repeat (first | refine blk_drewN ?_ _ | refine blk_drew ?_ | refine blk_alloc ?_ _)); refine blk_far ?_ NB118_124.out _; (with_reducible repeat (first | refine blk_drewN ?_ _ | refine blk_drew ?_ | refine blk_alloc ?_ _)); refine blk_far ?_ NB118_123.out _; (with_reducible repeat (first | refine blk_drewN ?_ _ | refine blk_drew ?_ | refine blk_alloc ?_ _)); refine blk_far ?_ NB118_123.out _; (with_reducible repeat (first | refine blk_drewN ?_ _ | refine blk_drew ?_ | refine blk_alloc ?_ _)); refine blk_far ?_ NB118_123.out _; (with_reducible repeat (first | refine blk_drewN ?_ _ | refine blk_drew ?_ | refine blk_alloc ?_ _)); exact BK118.out⟩
            have n2_ : Aside0 (((((((w29.setCell ⟨gb123, 0, none⟩ (.int .i64 a0_0)).setCell ⟨gb123, 1, none⟩ (.int .i64 a0_1)).setCell ⟨gb123, 2, none⟩ (.int .i64 a0_2)).setCell ⟨gb124, 0, none⟩ (.int .i64 a1_0)).setCell ⟨gb124, 1, none⟩ (.int .i64 a1_1)).setCell ⟨gb124, 2, none⟩ (.int .i64 a1_2)).heap[gb123]? = some (.cells #[.int .i64 a0_0, .int .i64 a0_1, .int .i64 a0_2] 26 (0, 0))) := ⟨by (with_reducible repeat (first | refine blk_drewN ?_ _ | refine blk_drew ?_ | refine blk_alloc ?_ _)); refine blk_far ?_ NB123_124.out _; (with_reducible repeat (first | refine blk_drewN ?_ _ | refine blk_drew ?_ | refine blk_alloc ?_ _)); refine blk_far ?_ NB123_124.out _; (with_reducible repeat (first | refine blk_drewN ?_ _ | refine blk_drew ?_ | refine blk_alloc ?_ _)); refine blk_far ?_ NB123_124.out _; (with_reducible repeat (first | refine blk_drewN ?_ _ | refine blk_drew ?_ | refine blk_alloc ?_ _)); refine blk_put (cs := #[.int .i64 a0_0, .int .i64 a0_1, .int .i64 0]) ?_ 2 _ rfl; (with_reducible repeat (first | refine blk_drewN ?_ _ | refine blk_drew ?_ | refine blk_alloc ?_ _)); refine blk_put (cs := #[.int .i64 a0_0, .int .i64 0, .int .i64 0]) ?_ 1 _ rfl; (with_reducible repeat (first | refine blk_drewN ?_ _ | refine blk_drew ?_ | refine blk_alloc ?_ _)); refine blk_put (cs := #[.int .i64 0, .int .i64 0, .int .i64 0]) ?_ 0 _ rfl; (with_reducible repeat (first | refine blk_drewN ?_ _ | refine blk_drew ?_ | refine blk_alloc ?_ _)); exact BK123.out⟩
            have n3_ : Aside0 (((((((w29.setCell ⟨gb123, 0, none⟩ (.int .i64 a0_0)).setCell ⟨gb123, 1, none⟩ (.int .i64 a0_1)).setCell ⟨gb123, 2, none⟩ (.int .i64 a0_2)).setCell ⟨gb124, 0, none⟩ (.int .i64 a1_0)).setCell ⟨gb124, 1, none⟩ (.int .i64 a1_1)).setCell ⟨gb124, 2, none⟩ (.int .i64 a1_2)).heap[gb124]? = some (.cells #[.int .i64 a1_0, .int .i64 a1_1, .int .i64 a1_2] 26 (0, 0))) := ⟨by (with_reducible repeat (first | refine blk_drewN ?_ _ | refine blk_drew ?_ | refine blk_alloc ?_ _)); refine blk_put (cs := #[.int .i64 a1_0, .int .i64 a1_1, .int .i64 0]) ?_ 2 _ rfl; (with_reducible repeat (first | refine blk_drewN ?_ _ | refine blk_drew ?_ | refine blk_alloc ?_ _)); refine blk_put (cs := #[.int .i64 a1_0, .int .i64 0, .int .i64 0]) ?_ 1 _ rfl; (with_reducible repeat (first | refine blk_drewN ?_ _ | refine blk_drew ?_ | refine blk_alloc ?_ _)); refine blk_put (cs := #[.int .i64 0, .int .i64 0, .int .i64 0]) ?_ 0 _ rfl; (with_reducible repeat (first | refine blk_drewN ?_ _ | refine blk_drew ?_ | refine blk_alloc ?_ _)); refine blk_far ?_ NB124_123.out _; (with_reducible repeat (first | refine blk_drewN ?_ _ | refine blk_drew ?_ | refine blk_alloc ?_ _)); refine blk_far ?_ NB124_123.out _; (with_reducible repeat (first | refine blk_drewN ?_ _ | refine blk_drew ?_ | refine blk_alloc ?_ _)); refine blk_far ?_ NB124_123.out _; (with_reducible repeat (first | refine blk_drewN ?_ _ | refine blk_drew ?_ | refine blk_alloc ?_ _)); exact BK124.out⟩
            have n4_ : Aside0 (Below w.heap.size w ((((((w29.setCell ⟨gb123, 0, none⟩ (.int .i64 a0_0)).setCell ⟨gb123, 1, none⟩ (.int .i64 a0_1)).setCell ⟨gb123, 2, none⟩ (.int .i64 a0_2)).setCell ⟨gb124, 0, none⟩ (.int .i64 a1_0)).setCell ⟨gb124, 1, none⟩ (.int .i64 a1_1)).setCell ⟨gb124, 2, none⟩ (.int .i64 a1_2))) := ⟨by repeat (first | (with_reducible first | exact HB.out | apply below_alloc | apply pw_below_drewN | apply below_drew1 | refine below_set ?_ GE117.out | refine below_set ?_ GE118.out | refine below_set ?_ GE123.out | refine below_set ?_ GE124.out) | exact HB.out)⟩
            (try clear BK117)
            (try clear BK118)
            (try clear BK123)
            (try clear BK124)
            (try clear HB)
            generalize ((((((w29.setCell ⟨gb123, 0, none⟩ (.int .i64 a0_0)).setCell ⟨gb123, 1, none⟩ (.int .i64 a0_1)).setCell ⟨gb123, 2, none⟩ (.int .i64 a0_2)).setCell ⟨gb124, 0, none⟩ (.int .i64 a1_0)).setCell ⟨gb124, 1, none⟩ (.int .i64 a1_1)).setCell ⟨gb124, 2, none⟩ (.int .i64 a1_2)) = w44 at n0_ n1_ n2_ n3_ n4_ ⊢
            have BK117 := n0_
            have BK118 := n1_
            have BK123 := n2_
            have BK124 := n3_
            have HB := n4_
            clear n0_ n1_ n2_ n3_ n4_
            have n0_ := Aside0.mk (blk_drew BK117.out)
            have n1_ := Aside0.mk (blk_drew BK118.out)
            have n2_ := Aside0.mk (blk_drew BK123.out)
            have n3_ := Aside0.mk (blk_drew BK124.out)
            have n4_ := Aside0.mk (below_drew1 HB.out)
            clear BK117
            clear BK118
            clear BK123
            clear BK124
            clear HB
            have BK117 := n0_
            have BK118 := n1_
            have BK123 := n2_
            have BK124 := n3_
            have HB := n4_
            clear n0_ n1_ n2_ n3_ n4_
            refine start_ (n := 13) (S := fun w' => w'.cell? ⟨gb123, 0, none⟩ = some (.int .i64 a0_0) ∧ w'.cell? ⟨gb123, 1, none⟩ = some (.int .i64 a0_1) ∧ w'.cell? ⟨gb123, 2, none⟩ = some (.int .i64 a0_2) ∧ w'.cell? ⟨gb124, 0, none⟩ = some (.int .i64 a1_0) ∧ w'.cell? ⟨gb124, 1, none⟩ = some (.int .i64 a1_1) ∧ w'.cell? ⟨gb124, 2, none⟩ = some (.int .i64 a1_2)) (ds := []) #[false, false, false, false, false, false, false, false, false, false, false, false, false] (by kernel_rfl) rfl rfl ⟨(blk_cell BK123.out 0).trans rfl, (blk_cell BK123.out 1).trans rfl, (blk_cell BK123.out 2).trans rfl, (blk_cell BK124.out 0).trans rfl, (blk_cell BK124.out 1).trans rfl, (blk_cell BK124.out 2).trans rfl⟩ (fun hHeld => ?_); refine with_tabW monocoquelaw01_SpanMeets.tab4 monocoquelaw01_SpanMeets.bits4 (fun HT_ HW_ => ?_)
            generalize w44.drew = w45 at BK117 BK118 BK123 BK124 HB hHeld ⊢
            refine take_ (i := 0) (N := some 25) (v := ?_) (a' := ?_) #[true, false, false, false, false, false, false, false, false, false, false, false, false] rfl rfl (take_ofW HT_.out HW_.out (by kernel_rfl)) (fun _ _ _ h => h) (Or.inl ⟨by rfl, ?_⟩) hHeld ?_ ?_
            rotate_left
            · rintro w' ⟨s0, s1, s2, s3, s4, s5⟩
              go_simp
              with_reducible rfl
            rotate_left
            · simp only [Act.put, List.setIfInBounds_toArray, List.set_cons_zero, List.set_cons_succ, i64_w, i32_w]
              rfl
            refine take_ (i := 1) (N := some 26) (v := ?_) (a' := ?_) #[true, true, false, false, false, false, false, false, false, false, false, false, false] rfl rfl (take_ofW HT_.out HW_.out (by kernel_rfl)) (fun _ _ _ h => h) (Or.inl ⟨by rfl, ?_⟩) hHeld ?_ ?_
            rotate_left
            · rintro w' ⟨s0, s1, s2, s3, s4, s5⟩
              go_simp
              with_reducible rfl
            rotate_left
            · simp only [Act.put, List.setIfInBounds_toArray, List.set_cons_zero, List.set_cons_succ, i64_w, i32_w]
              rfl
            refine take_ (i := 3) (N := some 28) (v := ?_) (a' := ?_) #[true, true, false, true, false, false, false, false, false, false, false, false, false] rfl rfl (take_ofW HT_.out HW_.out (by kernel_rfl)) (fun _ _ _ h => h) (Or.inl ⟨by rfl, ?_⟩) hHeld ?_ ?_
            rotate_left
            · rintro w' ⟨s0, s1, s2, s3, s4, s5⟩
              go_simp
              with_reducible rfl
            rotate_left
            · simp only [Act.put, List.setIfInBounds_toArray, List.set_cons_zero, List.set_cons_succ, i64_w, i32_w]
              rfl
            refine take_ (i := 4) (N := some 29) (v := ?_) (a' := ?_) #[true, true, false, true, true, false, false, false, false, false, false, false, false] rfl rfl (take_ofW HT_.out HW_.out (by kernel_rfl)) (fun _ _ _ h => h) (Or.inl ⟨by rfl, ?_⟩) hHeld ?_ ?_
            rotate_left
            · rintro w' ⟨s0, s1, s2, s3, s4, s5⟩
              go_simp
              with_reducible rfl
            rotate_left
            · simp only [Act.put, List.setIfInBounds_toArray, List.set_cons_zero, List.set_cons_succ, i64_w, i32_w]
              rfl
            refine one_ (i := 2) (N := some 27) #[true, true, true, true, true, false, false, false, false, false, false, false, false] rfl rfl (one_of HT_.out (by kernel_rfl)) (by decide) (fun K hK => ?_)
            refine goes_ Try.func12 (by kernel_rfl) rfl #[.agg #[.int .i64 a0_0, .int .i64 a0_1, .int .i64 a0_2], .agg #[.int .i64 a1_0, .int .i64 a1_1, .int .i64 a1_2]] (by rfl) rfl rfl (by (try simp only [List.map_toArray, List.map_cons, List.map_nil]); first | done | rfl | (simp only [List.length_drop, List.length_take]; rfl)) ?_
            with_reducible refine (span_Meet.calls kj2 a0_0 a0_1 a0_2 a1_0 a1_1 a1_2 t125 _ A36.out).mono ?_
            rintro e w46 ⟨rfl, hb⟩
            refine ⟨_, rfl, ?_⟩
            have n0_ := Aside0.mk (blk_below (g := gb117) (o := .cells #[.int .i64 a0_0, .int .i64 a0_1, .int .i64 a0_2] 23 (0, 0)) (by (with_reducible repeat (first | refine blk_drewN ?_ _ | refine blk_drew ?_ | refine blk_alloc ?_ _)); exact BK117.out) hb)
            have n1_ := Aside0.mk (blk_below (g := gb118) (o := .cells #[.int .i64 a1_0, .int .i64 a1_1, .int .i64 a1_2] 23 (0, 0)) (by (with_reducible repeat (first | refine blk_drewN ?_ _ | refine blk_drew ?_ | refine blk_alloc ?_ _)); exact BK118.out) hb)
            have n2_ := Aside0.mk (blk_below (g := gb123) (o := .cells #[.int .i64 a0_0, .int .i64 a0_1, .int .i64 a0_2] 26 (0, 0)) (by (with_reducible repeat (first | refine blk_drewN ?_ _ | refine blk_drew ?_ | refine blk_alloc ?_ _)); exact BK123.out) hb)
            have n3_ := Aside0.mk (blk_below (g := gb124) (o := .cells #[.int .i64 a1_0, .int .i64 a1_1, .int .i64 a1_2] 26 (0, 0)) (by (with_reducible repeat (first | refine blk_drewN ?_ _ | refine blk_drew ?_ | refine blk_alloc ?_ _)); exact BK124.out) hb)
            have n4_ := Aside0.mk (below_step (by repeat (first | (with_reducible first | exact HB.out | apply below_alloc | apply pw_below_drewN | apply below_drew1 | refine below_set ?_ GE117.out | refine below_set ?_ GE118.out | refine below_set ?_ GE123.out | refine below_set ?_ GE124.out) | exact HB.out)) hb)
            clear BK117
            clear BK118
            clear BK123
            clear BK124
            clear HB
            have BK117 := n0_
            have BK118 := n1_
            have BK123 := n2_
            have BK124 := n3_
            have HB := n4_
            clear n0_ n1_ n2_ n3_ n4_
            (try clear hb)
            (try clear hb2)
            (try clear hk)
            (try clear hi)
            refine hK.out _ _ ⟨(blk_cell BK123.out 0).trans rfl, (blk_cell BK123.out 1).trans rfl, (blk_cell BK123.out 2).trans rfl, (blk_cell BK124.out 0).trans rfl, (blk_cell BK124.out 1).trans rfl, (blk_cell BK124.out 2).trans rfl⟩ (fun hHeld => ?_)
            clear hK K
            refine norm_ (a' := ?_) ?_ ?_
            rotate_left
            · show Act.put _ (some 27) _ = _
              simp only [Act.put, List.setIfInBounds_toArray, List.set_cons_zero, List.set_cons_succ, i64_w, i32_w]
              rfl
            refine one_ (i := 5) (N := some 30) #[true, true, true, true, true, true, false, false, false, false, false, false, false] rfl rfl (one_of HT_.out (by kernel_rfl)) (by decide) (fun K hK => ?_)
            refine goes_ Try.func12 (by kernel_rfl) rfl #[.agg #[.int .i64 a1_0, .int .i64 a1_1, .int .i64 a1_2], .agg #[.int .i64 a0_0, .int .i64 a0_1, .int .i64 a0_2]] (by rfl) rfl rfl (by (try simp only [List.map_toArray, List.map_cons, List.map_nil]); first | done | rfl | (simp only [List.length_drop, List.length_take]; rfl)) ?_
            with_reducible refine (span_Meet.calls kj2 a1_0 a1_1 a1_2 a0_0 a0_1 a0_2 t126 _ A37.out).mono ?_
            rintro e w47 ⟨rfl, hb⟩
            refine ⟨_, rfl, ?_⟩
            have n0_ := Aside0.mk (blk_below (g := gb117) (o := .cells #[.int .i64 a0_0, .int .i64 a0_1, .int .i64 a0_2] 23 (0, 0)) (by (with_reducible repeat (first | refine blk_drewN ?_ _ | refine blk_drew ?_ | refine blk_alloc ?_ _)); exact BK117.out) hb)
            have n1_ := Aside0.mk (blk_below (g := gb118) (o := .cells #[.int .i64 a1_0, .int .i64 a1_1, .int .i64 a1_2] 23 (0, 0)) (by (with_reducible repeat (first | refine blk_drewN ?_ _ | refine blk_drew ?_ | refine blk_alloc ?_ _)); exact BK118.out) hb)
            have n2_ := Aside0.mk (blk_below (g := gb123) (o := .cells #[.int .i64 a0_0, .int .i64 a0_1, .int .i64 a0_2] 26 (0, 0)) (by (with_reducible repeat (first | refine blk_drewN ?_ _ | refine blk_drew ?_ | refine blk_alloc ?_ _)); exact BK123.out) hb)
            have n3_ := Aside0.mk (blk_below (g := gb124) (o := .cells #[.int .i64 a1_0, .int .i64 a1_1, .int .i64 a1_2] 26 (0, 0)) (by (with_reducible repeat (first | refine blk_drewN ?_ _ | refine blk_drew ?_ | refine blk_alloc ?_ _)); exact BK124.out) hb)
            have n4_ := Aside0.mk (below_step (by repeat (first | (with_reducible first | exact HB.out | apply below_alloc | apply pw_below_drewN | apply below_drew1 | refine below_set ?_ GE117.out | refine below_set ?_ GE118.out | refine below_set ?_ GE123.out | refine below_set ?_ GE124.out) | exact HB.out)) hb)
            clear BK117
            clear BK118
            clear BK123
            clear BK124
            clear HB
            have BK117 := n0_
            have BK118 := n1_
            have BK123 := n2_
            have BK124 := n3_
            have HB := n4_
            clear n0_ n1_ n2_ n3_ n4_
            (try clear hb)
            (try clear hb2)
            (try clear hk)
            (try clear hi)
            refine hK.out _ _ ⟨(blk_cell BK123.out 0).trans rfl, (blk_cell BK123.out 1).trans rfl, (blk_cell BK123.out 2).trans rfl, (blk_cell BK124.out 0).trans rfl, (blk_cell BK124.out 1).trans rfl, (blk_cell BK124.out 2).trans rfl⟩ (fun hHeld => ?_)
            clear hK K
            refine norm_ (a' := ?_) ?_ ?_
            rotate_left
            · show Act.put _ (some 30) _ = _
              simp only [Act.put, List.setIfInBounds_toArray, List.set_cons_zero, List.set_cons_succ, i64_w, i32_w]
              rfl
            refine pure_ (i := 6) (N := some 31) (v := ?_) (a' := ?_) #[true, true, true, true, true, true, true, false, false, false, false, false, false] rfl rfl (any_of HT_.out (by kernel_rfl)) (fun _ _ _ h => h) (Or.inl ⟨by rfl, ?_⟩) ?_ ?_
            rotate_left
            · intro w'
              go_simp
              with_reducible rfl
            rotate_left
            · simp only [Act.put, List.setIfInBounds_toArray, List.set_cons_zero, List.set_cons_succ, i64_w, i32_w]
              rfl
            refine pure_ (i := 7) (N := some 32) (v := ?_) (a' := ?_) #[true, true, true, true, true, true, true, true, false, false, false, false, false] rfl rfl (any_of HT_.out (by kernel_rfl)) (fun _ _ _ h => h) (Or.inl ⟨by rfl, ?_⟩) ?_ ?_
            rotate_left
            · intro w'
              go_simp
              with_reducible rfl
            rotate_left
            · simp only [Act.put, List.setIfInBounds_toArray, List.set_cons_zero, List.set_cons_succ, i64_w, i32_w]
              rfl
            refine take_ (i := 8) (N := some 33) (v := ?_) (a' := ?_) #[true, true, true, true, true, true, true, true, true, false, false, false, false] rfl rfl (take_ofW HT_.out HW_.out (by kernel_rfl)) (fun _ _ _ h => h) (Or.inl ⟨by rfl, ?_⟩) hHeld ?_ ?_
            rotate_left
            · rintro w' ⟨s0, s1, s2, s3, s4, s5⟩
              go_simp
              with_reducible rfl
            rotate_left
            · simp only [Act.put, List.setIfInBounds_toArray, List.set_cons_zero, List.set_cons_succ, i64_w, i32_w]
              rfl
            refine take_ (i := 9) (N := some 34) (v := ?_) (a' := ?_) #[true, true, true, true, true, true, true, true, true, true, false, false, false] rfl rfl (take_ofW HT_.out HW_.out (by kernel_rfl)) (fun _ _ _ h => h) (Or.inl ⟨by rfl, ?_⟩) hHeld ?_ ?_
            rotate_left
            · rintro w' ⟨s0, s1, s2, s3, s4, s5⟩
              go_simp
              with_reducible rfl
            rotate_left
            · simp only [Act.put, List.setIfInBounds_toArray, List.set_cons_zero, List.set_cons_succ, i64_w, i32_w]
              rfl
            refine one_ (i := 10) (N := some 35) #[true, true, true, true, true, true, true, true, true, true, true, false, false] rfl rfl (one_of HT_.out (by kernel_rfl)) (by decide) (fun K hK => ?_)
            refine goes_ Try.func12 (by kernel_rfl) rfl #[.agg #[.int .i64 a0_0, .int .i64 a0_1, .int .i64 a0_2], .agg #[.int .i64 a0_0, .int .i64 a0_1, .int .i64 a0_2]] (by rfl) rfl rfl (by (try simp only [List.map_toArray, List.map_cons, List.map_nil]); first | done | rfl | (simp only [List.length_drop, List.length_take]; rfl)) ?_
            with_reducible refine (span_Meet.calls kj2 a0_0 a0_1 a0_2 a0_0 a0_1 a0_2 t127 _ A43.out).mono ?_
            rintro e w48 ⟨rfl, hb⟩
            refine ⟨_, rfl, ?_⟩
            have n0_ := Aside0.mk (blk_below (g := gb117) (o := .cells #[.int .i64 a0_0, .int .i64 a0_1, .int .i64 a0_2] 23 (0, 0)) (by (with_reducible repeat (first | refine blk_drewN ?_ _ | refine blk_drew ?_ | refine blk_alloc ?_ _)); exact BK117.out) hb)
            have n1_ := Aside0.mk (blk_below (g := gb118) (o := .cells #[.int .i64 a1_0, .int .i64 a1_1, .int .i64 a1_2] 23 (0, 0)) (by (with_reducible repeat (first | refine blk_drewN ?_ _ | refine blk_drew ?_ | refine blk_alloc ?_ _)); exact BK118.out) hb)
            have n2_ := Aside0.mk (blk_below (g := gb123) (o := .cells #[.int .i64 a0_0, .int .i64 a0_1, .int .i64 a0_2] 26 (0, 0)) (by (with_reducible repeat (first | refine blk_drewN ?_ _ | refine blk_drew ?_ | refine blk_alloc ?_ _)); exact BK123.out) hb)
            have n3_ := Aside0.mk (blk_below (g := gb124) (o := .cells #[.int .i64 a1_0, .int .i64 a1_1, .int .i64 a1_2] 26 (0, 0)) (by (with_reducible repeat (first | refine blk_drewN ?_ _ | refine blk_drew ?_ | refine blk_alloc ?_ _)); exact BK124.out) hb)
            have n4_ := Aside0.mk (below_step (by repeat (first | (with_reducible first | exact HB.out | apply below_alloc | apply pw_below_drewN | apply below_drew1 | refine below_set ?_ GE117.out | refine below_set ?_ GE118.out | refine below_set ?_ GE123.out | refine below_set ?_ GE124.out) | exact HB.out)) hb)
            clear BK117
            clear BK118
            clear BK123
            clear BK124
            clear HB
            have BK117 := n0_
            have BK118 := n1_
            have BK123 := n2_
            have BK124 := n3_
            have HB := n4_
            clear n0_ n1_ n2_ n3_ n4_
            (try clear hb)
            (try clear hb2)
            (try clear hk)
            (try clear hi)
            refine hK.out _ _ ⟨(blk_cell BK123.out 0).trans rfl, (blk_cell BK123.out 1).trans rfl, (blk_cell BK123.out 2).trans rfl, (blk_cell BK124.out 0).trans rfl, (blk_cell BK124.out 1).trans rfl, (blk_cell BK124.out 2).trans rfl⟩ (fun hHeld => ?_)
            clear hK K
            refine norm_ (a' := ?_) ?_ ?_
            rotate_left
            · show Act.put _ (some 35) _ = _
              simp only [Act.put, List.setIfInBounds_toArray, List.set_cons_zero, List.set_cons_succ, i64_w, i32_w]
              rfl
            refine pure_ (i := 11) (N := some 36) (v := ?_) (a' := ?_) #[true, true, true, true, true, true, true, true, true, true, true, true, false] rfl rfl (any_of HT_.out (by kernel_rfl)) (fun _ _ _ h => h) (Or.inl ⟨by rfl, ?_⟩) ?_ ?_
            rotate_left
            · intro w'
              go_simp
              with_reducible rfl
            rotate_left
            · simp only [Act.put, List.setIfInBounds_toArray, List.set_cons_zero, List.set_cons_succ, i64_w, i32_w]
              rfl
            refine pure_ (i := 12) (N := some 37) (v := ?_) (a' := ?_) #[true, true, true, true, true, true, true, true, true, true, true, true, true] rfl rfl (any_of HT_.out (by kernel_rfl)) (fun _ _ _ h => h) (Or.inl ⟨by rfl, ?_⟩) ?_ ?_
            rotate_left
            · intro w'
              go_simp
              with_reducible rfl
            rotate_left
            · simp only [Act.put, List.setIfInBounds_toArray, List.set_cons_zero, List.set_cons_succ, i64_w, i32_w]
              rfl
            refine done_ (done_of HT_.out (by kernel_rfl)) ?_
            try go_wp2
            go_meet
            case rel => exact ⟨_, (!t127), (by first | rfl | (simp; done) | (simp [*]; done)), H', ⟨by have := HJ2.out; first | omega | exact Nat.le_refl _⟩, ⟨by (with_reducible repeat (first | refine blk_drewN ?_ _ | refine blk_drew ?_ | refine blk_alloc ?_ _)); exact BK117.out⟩, ⟨by (with_reducible repeat (first | refine blk_drewN ?_ _ | refine blk_drew ?_ | refine blk_alloc ?_ _)); exact BK118.out⟩, ⟨by (with_reducible repeat (first | refine blk_drewN ?_ _ | refine blk_drew ?_ | refine blk_alloc ?_ _)); exact BK123.out⟩, ⟨by (with_reducible repeat (first | refine blk_drewN ?_ _ | refine blk_drew ?_ | refine blk_alloc ?_ _)); exact BK124.out⟩, ⟨by repeat (first | (with_reducible first | exact HB.out | apply below_alloc | apply pw_below_drewN | apply below_drew1 | refine below_set ?_ GE117.out | refine below_set ?_ GE118.out | refine below_set ?_ GE123.out | refine below_set ?_ GE124.out) | exact HB.out)⟩⟩
        case rest =>
          clear HC25
          try clear c1
          try clear p2
          try clear c3
          try clear c12
          try clear c38
          try clear c38b0
          try clear c38b1
          try clear c38b2
          obtain ⟨kq, x37_24, rfl, HA, HJ24, BK117, BK118, BK123, BK124, HB⟩ := hcut
          cases kq with
          | zero => exact absurd HA.out (by simp [monocoquelaw01_SpanMeets.j1])
          | succ kj24 =>
            have H := HA.out
            clear HA
            simp only [monocoquelaw01_SpanMeets.j1] at H
            by_cases c49 : x37_24 = true
            · subst c49
              have H1 : (some false) = some r := by rw [if_pos rfl] at H; exact H
              clear H
              have H := H1
              clear H1
              obtain rfl := Option.some.inj H
              go_wp2
              go_ret
              exact ⟨by first | rfl | (simp [errW_none, errW_some] <;> rfl) | (simp [*, errW_none, errW_some] <;> rfl), by repeat (first | (with_reducible first | exact HB.out | apply below_alloc | apply pw_below_drewN | apply below_drew1 | refine below_set ?_ GE117.out | refine below_set ?_ GE118.out | refine below_set ?_ GE123.out | refine below_set ?_ GE124.out) | exact HB.out)⟩
            · replace c49 := Bool.eq_false_iff.mpr c49
              subst c49
              have H1 : (if a0_1 > 40 then (monocoquelaw01_SpanMeets.j2 kj24 true a0_0 a0_1 a0_2 a1_0 a1_1 a1_2 a0_0 a0_1 a0_2 a1_0 a1_1 a1_2) else (if a1_1 > 40 then (monocoquelaw01_SpanMeets.j2 kj24 true a0_0 a0_1 a0_2 a1_0 a1_1 a1_2 a0_0 a0_1 a0_2 a1_0 a1_1 a1_2) else (if a0_0 > 1000 then (monocoquelaw01_SpanMeets.j2 kj24 true a0_0 a0_1 a0_2 a1_0 a1_1 a1_2 a0_0 a0_1 a0_2 a1_0 a1_1 a1_2) else (monocoquelaw01_SpanMeets.j2 kj24 (decide (a1_0 > 1000)) a0_0 a0_1 a0_2 a1_0 a1_1 a1_2 a0_0 a0_1 a0_2 a1_0 a1_1 a1_2)))) = some r := by rw [if_neg (show ¬ (false = true) by decide)] at H; exact H
              clear H
              have H := H1
              clear H1
              have HC50 := Aside0.mk H
              clear H
              go_upto_region 6 with (fail)
              go_cut [55] (fun v55 wc => ∃ (kq : Nat) (x55_49 : Bool), v55 = .bool x55_49 ∧ Aside0 (monocoquelaw01_SpanMeets.j2 kq x55_49 a0_0 a0_1 a0_2 a1_0 a1_1 a1_2 a0_0 a0_1 a0_2 a1_0 a1_1 a1_2 = some r) ∧ Aside0 (kq ≤ kj24) ∧ Aside0 (wc.heap[gb117]? = some (.cells #[.int .i64 a0_0, .int .i64 a0_1, .int .i64 a0_2] 23 (0, 0))) ∧ Aside0 (wc.heap[gb118]? = some (.cells #[.int .i64 a1_0, .int .i64 a1_1, .int .i64 a1_2] 23 (0, 0))) ∧ Aside0 (wc.heap[gb123]? = some (.cells #[.int .i64 a0_0, .int .i64 a0_1, .int .i64 a0_2] 26 (0, 0))) ∧ Aside0 (wc.heap[gb124]? = some (.cells #[.int .i64 a1_0, .int .i64 a1_1, .int .i64 a1_2] 26 (0, 0))) ∧ Aside0 (Below w.heap.size w wc))
              case first =>
                have H := HC50.out
                clear HC50
                by_cases c51 : a0_1 > 40
                · rw [if_pos c51] at H
                  have c51b0 : decide (40 < a0_1) = true := decide_eq_true c51
                  clear c51
                  (first | rw [c51b0] | (simp only [i64_w, i32_w]; rw [c51b0]) | skip)
                  have H' := Aside0.mk H
                  clear H
                  have hnb52 := NB117_118.out
                  have hnc52 := NB118_117.out
                  have hnb53 := NB117_123.out
                  have hnc53 := NB123_117.out
                  have hnb54 := NB117_124.out
                  have hnc54 := NB124_117.out
                  have hcz55_0 : wc.cell? ⟨gb117, 0, none⟩ = some (.int .i64 a0_0) := (blk_cell BK117.out 0).trans rfl
                  have hcz55_1 : wc.cell? ⟨gb117, 1, none⟩ = some (.int .i64 a0_1) := (blk_cell BK117.out 1).trans rfl
                  have hcz55_2 : wc.cell? ⟨gb117, 2, none⟩ = some (.int .i64 a0_2) := (blk_cell BK117.out 2).trans rfl
                  have hfz55_0 := blk_frozen BK117.out 0
                  have hfz55_1 := blk_frozen BK117.out 1
                  have hfz55_2 := blk_frozen BK117.out 2
                  go_wp2
                  go_meet
                  case rel => exact ⟨_, (true), (by first | rfl | (simp; done) | (simp [*]; done)), H', ⟨by have := HJ2.out; have := HJ24.out; first | omega | exact Nat.le_refl _⟩, ⟨by (with_reducible repeat (first | refine blk_drewN ?_ _ | refine blk_drew ?_ | refine blk_alloc ?_ _)); exact BK117.out⟩, ⟨by (with_reducible repeat (first | refine blk_drewN ?_ _ | refine blk_drew ?_ | refine blk_alloc ?_ _)); exact BK118.out⟩, ⟨by (with_reducible repeat (first | refine blk_drewN ?_ _ | refine blk_drew ?_ | refine blk_alloc ?_ _)); exact BK123.out⟩, ⟨by (with_reducible repeat (first | refine blk_drewN ?_ _ | refine blk_drew ?_ | refine blk_alloc ?_ _)); exact BK124.out⟩, ⟨by repeat (first | (with_reducible first | exact HB.out | apply below_alloc | apply pw_below_drewN | apply below_drew1 | refine below_set ?_ GE117.out | refine below_set ?_ GE118.out | refine below_set ?_ GE123.out | refine below_set ?_ GE124.out) | exact HB.out)⟩⟩
                · rw [if_neg c51] at H
                  have c51b0 : decide (40 < a0_1) = false := decide_eq_false c51
                  clear c51
                  (first | rw [c51b0] | (simp only [i64_w, i32_w]; rw [c51b0]) | skip)
                  by_cases c56 : a1_1 > 40
                  · rw [if_pos c56] at H
                    have c56b0 : decide (40 < a1_1) = true := decide_eq_true c56
                    clear c56
                    have H' := Aside0.mk H
                    clear H
                    have hnb57 := NB117_118.out
                    have hnc57 := NB118_117.out
                    have hnb58 := NB117_123.out
                    have hnc58 := NB123_117.out
                    have hnb59 := NB117_124.out
                    have hnc59 := NB124_117.out
                    have hcz60_0 : wc.cell? ⟨gb117, 0, none⟩ = some (.int .i64 a0_0) := (blk_cell BK117.out 0).trans rfl
                    have hcz60_1 : wc.cell? ⟨gb117, 1, none⟩ = some (.int .i64 a0_1) := (blk_cell BK117.out 1).trans rfl
                    have hcz60_2 : wc.cell? ⟨gb117, 2, none⟩ = some (.int .i64 a0_2) := (blk_cell BK117.out 2).trans rfl
                    have hfz60_0 := blk_frozen BK117.out 0
                    have hfz60_1 := blk_frozen BK117.out 1
                    have hfz60_2 := blk_frozen BK117.out 2
                    have hnb61 := NB118_123.out
                    have hnc61 := NB123_118.out
                    have hnb62 := NB118_124.out
                    have hnc62 := NB124_118.out
                    have hcz63_0 : wc.cell? ⟨gb118, 0, none⟩ = some (.int .i64 a1_0) := (blk_cell BK118.out 0).trans rfl
                    have hcz63_1 : wc.cell? ⟨gb118, 1, none⟩ = some (.int .i64 a1_1) := (blk_cell BK118.out 1).trans rfl
                    have hcz63_2 : wc.cell? ⟨gb118, 2, none⟩ = some (.int .i64 a1_2) := (blk_cell BK118.out 2).trans rfl
                    have hfz63_0 := blk_frozen BK118.out 0
                    have hfz63_1 := blk_frozen BK118.out 1
                    have hfz63_2 := blk_frozen BK118.out 2
                    go_wp2
                    go_meet
                    case rel => exact ⟨_, (true), (by first | rfl | (simp; done) | (simp [*]; done)), H', ⟨by have := HJ2.out; have := HJ24.out; first | omega | exact Nat.le_refl _⟩, ⟨by (with_reducible repeat (first | refine blk_drewN ?_ _ | refine blk_drew ?_ | refine blk_alloc ?_ _)); exact BK117.out⟩, ⟨by (with_reducible repeat (first | refine blk_drewN ?_ _ | refine blk_drew ?_ | refine blk_alloc ?_ _)); exact BK118.out⟩, ⟨by (with_reducible repeat (first | refine blk_drewN ?_ _ | refine blk_drew ?_ | refine blk_alloc ?_ _)); exact BK123.out⟩, ⟨by (with_reducible repeat (first | refine blk_drewN ?_ _ | refine blk_drew ?_ | refine blk_alloc ?_ _)); exact BK124.out⟩, ⟨by repeat (first | (with_reducible first | exact HB.out | apply below_alloc | apply pw_below_drewN | apply below_drew1 | refine below_set ?_ GE117.out | refine below_set ?_ GE118.out | refine below_set ?_ GE123.out | refine below_set ?_ GE124.out) | exact HB.out)⟩⟩
                  · rw [if_neg c56] at H
                    have c56b0 : decide (40 < a1_1) = false := decide_eq_false c56
                    clear c56
                    by_cases c64 : a0_0 > 1000
                    · rw [if_pos c64] at H
                      have c64b0 : decide (1000 < a0_0) = true := decide_eq_true c64
                      clear c64
                      have H' := Aside0.mk H
                      clear H
                      have hnb65 := NB117_118.out
                      have hnc65 := NB118_117.out
                      have hnb66 := NB117_123.out
                      have hnc66 := NB123_117.out
                      have hnb67 := NB117_124.out
                      have hnc67 := NB124_117.out
                      have hcz68_0 : wc.cell? ⟨gb117, 0, none⟩ = some (.int .i64 a0_0) := (blk_cell BK117.out 0).trans rfl
                      have hcz68_1 : wc.cell? ⟨gb117, 1, none⟩ = some (.int .i64 a0_1) := (blk_cell BK117.out 1).trans rfl
                      have hcz68_2 : wc.cell? ⟨gb117, 2, none⟩ = some (.int .i64 a0_2) := (blk_cell BK117.out 2).trans rfl
                      have hfz68_0 := blk_frozen BK117.out 0
                      have hfz68_1 := blk_frozen BK117.out 1
                      have hfz68_2 := blk_frozen BK117.out 2
                      have hnb69 := NB118_123.out
                      have hnc69 := NB123_118.out
                      have hnb70 := NB118_124.out
                      have hnc70 := NB124_118.out
                      have hcz71_0 : wc.cell? ⟨gb118, 0, none⟩ = some (.int .i64 a1_0) := (blk_cell BK118.out 0).trans rfl
                      have hcz71_1 : wc.cell? ⟨gb118, 1, none⟩ = some (.int .i64 a1_1) := (blk_cell BK118.out 1).trans rfl
                      have hcz71_2 : wc.cell? ⟨gb118, 2, none⟩ = some (.int .i64 a1_2) := (blk_cell BK118.out 2).trans rfl
                      have hfz71_0 := blk_frozen BK118.out 0
                      have hfz71_1 := blk_frozen BK118.out 1
                      have hfz71_2 := blk_frozen BK118.out 2
                      go_wp2
                      go_meet
                      case rel => exact ⟨_, (true), (by first | rfl | (simp; done) | (simp [*]; done)), H', ⟨by have := HJ2.out; have := HJ24.out; first | omega | exact Nat.le_refl _⟩, ⟨by (with_reducible repeat (first | refine blk_drewN ?_ _ | refine blk_drew ?_ | refine blk_alloc ?_ _)); exact BK117.out⟩, ⟨by (with_reducible repeat (first | refine blk_drewN ?_ _ | refine blk_drew ?_ | refine blk_alloc ?_ _)); exact BK118.out⟩, ⟨by (with_reducible repeat (first | refine blk_drewN ?_ _ | refine blk_drew ?_ | refine blk_alloc ?_ _)); exact BK123.out⟩, ⟨by (with_reducible repeat (first | refine blk_drewN ?_ _ | refine blk_drew ?_ | refine blk_alloc ?_ _)); exact BK124.out⟩, ⟨by repeat (first | (with_reducible first | exact HB.out | apply below_alloc | apply pw_below_drewN | apply below_drew1 | refine below_set ?_ GE117.out | refine below_set ?_ GE118.out | refine below_set ?_ GE123.out | refine below_set ?_ GE124.out) | exact HB.out)⟩⟩
                    · rw [if_neg c64] at H
                      have c64b0 : decide (1000 < a0_0) = false := decide_eq_false c64
                      clear c64
                      have H' := Aside0.mk H
                      clear H
                      have hnb72 := NB117_118.out
                      have hnc72 := NB118_117.out
                      have hnb73 := NB117_123.out
                      have hnc73 := NB123_117.out
                      have hnb74 := NB117_124.out
                      have hnc74 := NB124_117.out
                      have hcz75_0 : wc.cell? ⟨gb117, 0, none⟩ = some (.int .i64 a0_0) := (blk_cell BK117.out 0).trans rfl
                      have hcz75_1 : wc.cell? ⟨gb117, 1, none⟩ = some (.int .i64 a0_1) := (blk_cell BK117.out 1).trans rfl
                      have hcz75_2 : wc.cell? ⟨gb117, 2, none⟩ = some (.int .i64 a0_2) := (blk_cell BK117.out 2).trans rfl
                      have hfz75_0 := blk_frozen BK117.out 0
                      have hfz75_1 := blk_frozen BK117.out 1
                      have hfz75_2 := blk_frozen BK117.out 2
                      have hnb76 := NB118_123.out
                      have hnc76 := NB123_118.out
                      have hnb77 := NB118_124.out
                      have hnc77 := NB124_118.out
                      have hcz78_0 : wc.cell? ⟨gb118, 0, none⟩ = some (.int .i64 a1_0) := (blk_cell BK118.out 0).trans rfl
                      have hcz78_1 : wc.cell? ⟨gb118, 1, none⟩ = some (.int .i64 a1_1) := (blk_cell BK118.out 1).trans rfl
                      have hcz78_2 : wc.cell? ⟨gb118, 2, none⟩ = some (.int .i64 a1_2) := (blk_cell BK118.out 2).trans rfl
                      have hfz78_0 := blk_frozen BK118.out 0
                      have hfz78_1 := blk_frozen BK118.out 1
                      have hfz78_2 := blk_frozen BK118.out 2
                      go_wp2
                      go_meet
                      case rel => exact ⟨_, (decide (a1_0 > 1000)), (by first | rfl | (simp; done) | (simp [*]; done)), H', ⟨by have := HJ2.out; have := HJ24.out; first | omega | exact Nat.le_refl _⟩, ⟨by (with_reducible repeat (first | refine blk_drewN ?_ _ | refine blk_drew ?_ | refine blk_alloc ?_ _)); exact BK117.out⟩, ⟨by (with_reducible repeat (first | refine blk_drewN ?_ _ | refine blk_drew ?_ | refine blk_alloc ?_ _)); exact BK118.out⟩, ⟨by (with_reducible repeat (first | refine blk_drewN ?_ _ | refine blk_drew ?_ | refine blk_alloc ?_ _)); exact BK123.out⟩, ⟨by (with_reducible repeat (first | refine blk_drewN ?_ _ | refine blk_drew ?_ | refine blk_alloc ?_ _)); exact BK124.out⟩, ⟨by repeat (first | (with_reducible first | exact HB.out | apply below_alloc | apply pw_below_drewN | apply below_drew1 | refine below_set ?_ GE117.out | refine below_set ?_ GE118.out | refine below_set ?_ GE123.out | refine below_set ?_ GE124.out) | exact HB.out)⟩⟩
              case rest =>
                clear HC50
                try clear c1
                try clear p2
                try clear c3
                try clear c4
                try clear c5
                try clear c6
                try clear c7
                try clear c12
                try clear c38
                try clear c38b0
                try clear c38b1
                try clear c38b2
                try clear c49
                try clear c51
                try clear c51b0
                try clear c52
                try clear c53
                try clear c54
                try clear c56
                try clear c56b0
                try clear c57
                try clear c58
                try clear c59
                try clear c61
                try clear c62
                try clear c64
                try clear c64b0
                try clear c65
                try clear c66
                try clear c67
                try clear c69
                try clear c70
                try clear c72
                try clear c73
                try clear c74
                try clear c76
                try clear c77
                try clear hcz55_0
                try clear hcz55_1
                try clear hcz55_2
                try clear hcz60_0
                try clear hcz60_1
                try clear hcz60_2
                try clear hcz63_0
                try clear hcz63_1
                try clear hcz63_2
                try clear hcz68_0
                try clear hcz68_1
                try clear hcz68_2
                try clear hcz71_0
                try clear hcz71_1
                try clear hcz71_2
                try clear hcz75_0
                try clear hcz75_1
                try clear hcz75_2
                try clear hcz78_0
                try clear hcz78_1
                try clear hcz78_2
                try clear hfz55_0
                try clear hfz55_1
                try clear hfz55_2
                try clear hfz60_0
                try clear hfz60_1
                try clear hfz60_2
                try clear hfz63_0
                try clear hfz63_1
                try clear hfz63_2
                try clear hfz68_0
                try clear hfz68_1
                try clear hfz68_2
                try clear hfz71_0
                try clear hfz71_1
                try clear hfz71_2
                try clear hfz75_0
                try clear hfz75_1
                try clear hfz75_2
                try clear hfz78_0
                try clear hfz78_1
                try clear hfz78_2
                try clear p2
                obtain ⟨kq, x55_49, rfl, HA, HJ49, BK117, BK118, BK123, BK124, HB⟩ := hcut
                cases kq with
                | zero => exact absurd HA.out (by simp [monocoquelaw01_SpanMeets.j2])
                | succ kj49 =>
                  have H := HA.out
                  clear HA
                  simp only [monocoquelaw01_SpanMeets.j2] at H
                  by_cases c79 : x55_49 = true
                  · subst c79
                    have H1 : (some true) = some r := by rw [if_pos rfl] at H; exact H
                    clear H
                    have H := H1
                    clear H1
                    obtain rfl := Option.some.inj H
                    go_wp2
                    go_ret
                    exact ⟨by first | rfl | (simp [errW_none, errW_some] <;> rfl) | (simp [*, errW_none, errW_some] <;> rfl), by repeat (first | (with_reducible first | exact HB.out | apply below_alloc | apply pw_below_drewN | apply below_drew1 | refine below_set ?_ GE117.out | refine below_set ?_ GE118.out | refine below_set ?_ GE123.out | refine below_set ?_ GE124.out) | exact HB.out)⟩
                  · replace c79 := Bool.eq_false_iff.mpr c79
                    subst c79
                    have H1 : (monocoquelaw01_SpanMeets.l0 kj49 false (mx a0_0 a1_0) (mx a0_0 a1_0) a0_0 a0_1 a0_2 a1_0 a1_1 a1_2 a0_0 a0_1 a0_2 a1_0 a1_1 a1_2) = some r := by rw [if_neg (show ¬ (false = true) by decide)] at H; exact H
                    clear H
                    have H := H1
                    clear H1
                    obtain ⟨ji80, hji80⟩ : ∃ j_ : Int, (mx a0_0 a1_0) = j_ := ⟨_, rfl⟩
                    replace H : (monocoquelaw01_SpanMeets.l0 kj49 false ji80 ji80 a0_0 a0_1 a0_2 a1_0 a1_1 a1_2 a0_0 a0_1 a0_2 a1_0 a1_1 a1_2) = some r := by first | (rw [hji80] at H; exact H) | (simp only [hji80] at H ⊢; exact H)
                    have hji80_ : (if a0_0 < a1_0 then a1_0 else a0_0) = ji80 := hji80
                    have H' := Aside0.mk H
                    clear H
                    have hnb81 := NB117_118.out
                    have hnc81 := NB118_117.out
                    have hnb82 := NB117_123.out
                    have hnc82 := NB123_117.out
                    have hnb83 := NB117_124.out
                    have hnc83 := NB124_117.out
                    have hcz84_0 : wc.cell? ⟨gb117, 0, none⟩ = some (.int .i64 a0_0) := (blk_cell BK117.out 0).trans rfl
                    have hcz84_1 : wc.cell? ⟨gb117, 1, none⟩ = some (.int .i64 a0_1) := (blk_cell BK117.out 1).trans rfl
                    have hcz84_2 : wc.cell? ⟨gb117, 2, none⟩ = some (.int .i64 a0_2) := (blk_cell BK117.out 2).trans rfl
                    have hfz84_0 := blk_frozen BK117.out 0
                    have hfz84_1 := blk_frozen BK117.out 1
                    have hfz84_2 := blk_frozen BK117.out 2
                    have hnb85 := NB118_123.out
                    have hnc85 := NB123_118.out
                    have hnb86 := NB118_124.out
                    have hnc86 := NB124_118.out
                    have hcz87_0 : wc.cell? ⟨gb118, 0, none⟩ = some (.int .i64 a1_0) := (blk_cell BK118.out 0).trans rfl
                    have hcz87_1 : wc.cell? ⟨gb118, 1, none⟩ = some (.int .i64 a1_1) := (blk_cell BK118.out 1).trans rfl
                    have hcz87_2 : wc.cell? ⟨gb118, 2, none⟩ = some (.int .i64 a1_2) := (blk_cell BK118.out 2).trans rfl
                    have hfz87_0 := blk_frozen BK118.out 0
                    have hfz87_1 := blk_frozen BK118.out 1
                    have hfz87_2 := blk_frozen BK118.out 2
                    go_wp2
                    go_loopg [7, 9] kj49 (fun kq v7 v9 w' => ∃ (x7_4 : Bool) (x9_4 : Int), v7 = .bool x7_4 ∧ v9 = .int .i64 x9_4 ∧ Aside0 (monocoquelaw01_SpanMeets.l0 kq x7_4 ji80 x9_4 a0_0 a0_1 a0_2 a1_0 a1_1 a1_2 a0_0 a0_1 a0_2 a1_0 a1_1 a1_2 = some r) ∧ Aside0 (kq ≤ kj49) ∧ Aside0 (w'.heap[gb117]? = some (.cells #[.int .i64 a0_0, .int .i64 a0_1, .int .i64 a0_2] 23 (0, 0))) ∧ Aside0 (w'.heap[gb118]? = some (.cells #[.int .i64 a1_0, .int .i64 a1_1, .int .i64 a1_2] 23 (0, 0))) ∧ Aside0 (w'.heap[gb123]? = some (.cells #[.int .i64 a0_0, .int .i64 a0_1, .int .i64 a0_2] 26 (0, 0))) ∧ Aside0 (w'.heap[gb124]? = some (.cells #[.int .i64 a1_0, .int .i64 a1_1, .int .i64 a1_2] 26 (0, 0))) ∧ Aside0 (Below w.heap.size w w'))
                    case atStart => exact ⟨(false), (ji80), (by first | rfl | (simp; done) | (simp [*]; done)), (by first | rfl | (simp; done) | (simp only [← hji80] <;> (first | rfl | simp)) | (simp [*]; done)), H', ⟨Nat.le_refl _⟩, ⟨by (with_reducible repeat (first | refine blk_drewN ?_ _ | refine blk_drew ?_ | refine blk_alloc ?_ _)); exact BK117.out⟩, ⟨by (with_reducible repeat (first | refine blk_drewN ?_ _ | refine blk_drew ?_ | refine blk_alloc ?_ _)); exact BK118.out⟩, ⟨by (with_reducible repeat (first | refine blk_drewN ?_ _ | refine blk_drew ?_ | refine blk_alloc ?_ _)); exact BK123.out⟩, ⟨by (with_reducible repeat (first | refine blk_drewN ?_ _ | refine blk_drew ?_ | refine blk_alloc ?_ _)); exact BK124.out⟩, ⟨by repeat (first | (with_reducible first | exact HB.out | apply below_alloc | apply pw_below_drewN | apply below_drew1 | refine below_set ?_ GE117.out | refine below_set ?_ GE118.out | refine below_set ?_ GE123.out | refine below_set ?_ GE124.out) | exact HB.out)⟩⟩
                    case round =>
                      clear H'
                      try clear c1
                      try clear p2
                      try clear c3
                      try clear c4
                      try clear c5
                      try clear c6
                      try clear c7
                      try clear c8
                      try clear c12
                      try clear c38
                      try clear c38b0
                      try clear c38b1
                      try clear c38b2
                      try clear c49
                      try clear c51
                      try clear c51b0
                      try clear c52
                      try clear c53
                      try clear c54
                      try clear c56
                      try clear c56b0
                      try clear c57
                      try clear c58
                      try clear c59
                      try clear c61
                      try clear c62
                      try clear c64
                      try clear c64b0
                      try clear c65
                      try clear c66
                      try clear c67
                      try clear c69
                      try clear c70
                      try clear c72
                      try clear c73
                      try clear c74
                      try clear c76
                      try clear c77
                      try clear c79
                      try clear c81
                      try clear c82
                      try clear c83
                      try clear c85
                      try clear c86
                      try clear hcz55_0
                      try clear hcz55_1
                      try clear hcz55_2
                      try clear hcz60_0
                      try clear hcz60_1
                      try clear hcz60_2
                      try clear hcz63_0
                      try clear hcz63_1
                      try clear hcz63_2
                      try clear hcz68_0
                      try clear hcz68_1
                      try clear hcz68_2
                      try clear hcz71_0
                      try clear hcz71_1
                      try clear hcz71_2
                      try clear hcz75_0
                      try clear hcz75_1
                      try clear hcz75_2
                      try clear hcz78_0
                      try clear hcz78_1
                      try clear hcz78_2
                      try clear hcz84_0
                      try clear hcz84_1
                      try clear hcz84_2
                      try clear hcz87_0
                      try clear hcz87_1
                      try clear hcz87_2
                      try clear hfz55_0
                      try clear hfz55_1
                      try clear hfz55_2
                      try clear hfz60_0
                      try clear hfz60_1
                      try clear hfz60_2
                      try clear hfz63_0
                      try clear hfz63_1
                      try clear hfz63_2
                      try clear hfz68_0
                      try clear hfz68_1
                      try clear hfz68_2
                      try clear hfz71_0
                      try clear hfz71_1
                      try clear hfz71_2
                      try clear hfz75_0
                      try clear hfz75_1
                      try clear hfz75_2
                      try clear hfz78_0
                      try clear hfz78_1
                      try clear hfz78_2
                      try clear hfz84_0
                      try clear hfz84_1
                      try clear hfz84_2
                      try clear hfz87_0
                      try clear hfz87_1
                      try clear hfz87_2
                      try clear p2
                      obtain ⟨x7_4, x9_4, rfl, rfl, HA, HK4, BK117, BK118, BK123, BK124, HB⟩ := hrel
                      cases gk with
                      | zero => exact absurd HA.out (by simp [monocoquelaw01_SpanMeets.l0])
                      | succ k4 =>
                        have H := HA.out
                        clear HA
                        simp only [monocoquelaw01_SpanMeets.l0] at H
                        have HC88 := Aside0.mk H
                        clear H
                        go_upto_region 11 with (fail)
                        go_cut [74] (fun v74 wc => ∃ (kq : Nat) (x74_87 : Bool), v74 = .bool x74_87 ∧ Aside0 (monocoquelaw01_SpanMeets.j4 kq x7_4 ji80 x9_4 x74_87 a0_0 a0_1 a0_2 a1_0 a1_1 a1_2 a0_0 a0_1 a0_2 a1_0 a1_1 a1_2 = some r) ∧ Aside0 (kq ≤ k4) ∧ Aside0 (wc.heap[gb117]? = some (.cells #[.int .i64 a0_0, .int .i64 a0_1, .int .i64 a0_2] 23 (0, 0))) ∧ Aside0 (wc.heap[gb118]? = some (.cells #[.int .i64 a1_0, .int .i64 a1_1, .int .i64 a1_2] 23 (0, 0))) ∧ Aside0 (wc.heap[gb123]? = some (.cells #[.int .i64 a0_0, .int .i64 a0_1, .int .i64 a0_2] 26 (0, 0))) ∧ Aside0 (wc.heap[gb124]? = some (.cells #[.int .i64 a1_0, .int .i64 a1_1, .int .i64 a1_2] 26 (0, 0))) ∧ Aside0 (Below w.heap.size w wc))
                        case first =>
                          have H := HC88.out
                          clear HC88
                          by_cases c89 : x9_4 < (wrap64 (ji80 + (wrap64 (a0_1 * a1_1))))
                          · rw [if_pos c89] at H
                            have c89b0 : decide (x9_4 < (wrap64 (ji80 + (wrap64 (a0_1 * a1_1))))) = true := decide_eq_true c89
                            clear c89
                            (first | rw [c89b0] | (simp only [i64_w, i32_w]; rw [c89b0]) | skip)
                            have H' := Aside0.mk H
                            clear H
                            have hnb90 := NB117_118.out
                            have hnc90 := NB118_117.out
                            have hnb91 := NB117_123.out
                            have hnc91 := NB123_117.out
                            have hnb92 := NB117_124.out
                            have hnc92 := NB124_117.out
                            have hcz93_0 : wr.cell? ⟨gb117, 0, none⟩ = some (.int .i64 a0_0) := (blk_cell BK117.out 0).trans rfl
                            have hcz93_1 : wr.cell? ⟨gb117, 1, none⟩ = some (.int .i64 a0_1) := (blk_cell BK117.out 1).trans rfl
                            have hcz93_2 : wr.cell? ⟨gb117, 2, none⟩ = some (.int .i64 a0_2) := (blk_cell BK117.out 2).trans rfl
                            have hfz93_0 := blk_frozen BK117.out 0
                            have hfz93_1 := blk_frozen BK117.out 1
                            have hfz93_2 := blk_frozen BK117.out 2
                            have hnb94 := NB118_123.out
                            have hnc94 := NB123_118.out
                            have hnb95 := NB118_124.out
                            have hnc95 := NB124_118.out
                            have hcz96_0 : wr.cell? ⟨gb118, 0, none⟩ = some (.int .i64 a1_0) := (blk_cell BK118.out 0).trans rfl
                            have hcz96_1 : wr.cell? ⟨gb118, 1, none⟩ = some (.int .i64 a1_1) := (blk_cell BK118.out 1).trans rfl
                            have hcz96_2 : wr.cell? ⟨gb118, 2, none⟩ = some (.int .i64 a1_2) := (blk_cell BK118.out 2).trans rfl
                            have hfz96_0 := blk_frozen BK118.out 0
                            have hfz96_1 := blk_frozen BK118.out 1
                            have hfz96_2 := blk_frozen BK118.out 2
                            go_wp2
                            go_meet
                            case rel => exact ⟨_, (!x7_4), (by first | rfl | (simp; done) | (simp [*]; done)), H', ⟨by have := HJ2.out; have := HJ24.out; have := HJ49.out; have := HK4.out; first | omega | exact Nat.le_refl _⟩, ⟨by (with_reducible repeat (first | refine blk_drewN ?_ _ | refine blk_drew ?_ | refine blk_alloc ?_ _)); exact BK117.out⟩, ⟨by (with_reducible repeat (first | refine blk_drewN ?_ _ | refine blk_drew ?_ | refine blk_alloc ?_ _)); exact BK118.out⟩, ⟨by (with_reducible repeat (first | refine blk_drewN ?_ _ | refine blk_drew ?_ | refine blk_alloc ?_ _)); exact BK123.out⟩, ⟨by (with_reducible repeat (first | refine blk_drewN ?_ _ | refine blk_drew ?_ | refine blk_alloc ?_ _)); exact BK124.out⟩, ⟨by repeat (first | (with_reducible first | exact HB.out | apply below_alloc | apply pw_below_drewN | apply below_drew1 | refine below_set ?_ GE117.out | refine below_set ?_ GE118.out | refine below_set ?_ GE123.out | refine below_set ?_ GE124.out) | exact HB.out)⟩⟩
                          · rw [if_neg c89] at H
                            have c89b0 : decide (x9_4 < (wrap64 (ji80 + (wrap64 (a0_1 * a1_1))))) = false := decide_eq_false c89
                            clear c89
                            (first | rw [c89b0] | (simp only [i64_w, i32_w]; rw [c89b0]) | skip)
                            have H' := Aside0.mk H
                            clear H
                            have hnb97 := NB117_118.out
                            have hnc97 := NB118_117.out
                            have hnb98 := NB117_123.out
                            have hnc98 := NB123_117.out
                            have hnb99 := NB117_124.out
                            have hnc99 := NB124_117.out
                            have hcz100_0 : wr.cell? ⟨gb117, 0, none⟩ = some (.int .i64 a0_0) := (blk_cell BK117.out 0).trans rfl
                            have hcz100_1 : wr.cell? ⟨gb117, 1, none⟩ = some (.int .i64 a0_1) := (blk_cell BK117.out 1).trans rfl
                            have hcz100_2 : wr.cell? ⟨gb117, 2, none⟩ = some (.int .i64 a0_2) := (blk_cell BK117.out 2).trans rfl
                            have hfz100_0 := blk_frozen BK117.out 0
                            have hfz100_1 := blk_frozen BK117.out 1
                            have hfz100_2 := blk_frozen BK117.out 2
                            have hnb101 := NB118_123.out
                            have hnc101 := NB123_118.out
                            have hnb102 := NB118_124.out
                            have hnc102 := NB124_118.out
                            have hcz103_0 : wr.cell? ⟨gb118, 0, none⟩ = some (.int .i64 a1_0) := (blk_cell BK118.out 0).trans rfl
                            have hcz103_1 : wr.cell? ⟨gb118, 1, none⟩ = some (.int .i64 a1_1) := (blk_cell BK118.out 1).trans rfl
                            have hcz103_2 : wr.cell? ⟨gb118, 2, none⟩ = some (.int .i64 a1_2) := (blk_cell BK118.out 2).trans rfl
                            have hfz103_0 := blk_frozen BK118.out 0
                            have hfz103_1 := blk_frozen BK118.out 1
                            have hfz103_2 := blk_frozen BK118.out 2
                            go_wp2
                            go_meet
                            case rel => exact ⟨_, (false), (by first | rfl | (simp; done) | (simp [*]; done)), H', ⟨by have := HJ2.out; have := HJ24.out; have := HJ49.out; have := HK4.out; first | omega | exact Nat.le_refl _⟩, ⟨by (with_reducible repeat (first | refine blk_drewN ?_ _ | refine blk_drew ?_ | refine blk_alloc ?_ _)); exact BK117.out⟩, ⟨by (with_reducible repeat (first | refine blk_drewN ?_ _ | refine blk_drew ?_ | refine blk_alloc ?_ _)); exact BK118.out⟩, ⟨by (with_reducible repeat (first | refine blk_drewN ?_ _ | refine blk_drew ?_ | refine blk_alloc ?_ _)); exact BK123.out⟩, ⟨by (with_reducible repeat (first | refine blk_drewN ?_ _ | refine blk_drew ?_ | refine blk_alloc ?_ _)); exact BK124.out⟩, ⟨by repeat (first | (with_reducible first | exact HB.out | apply below_alloc | apply pw_below_drewN | apply below_drew1 | refine below_set ?_ GE117.out | refine below_set ?_ GE118.out | refine below_set ?_ GE123.out | refine below_set ?_ GE124.out) | exact HB.out)⟩⟩
                        case rest =>
                          clear HC88
                          try clear c1
                          try clear p2
                          try clear c3
                          try clear c4
                          try clear c5
                          try clear c6
                          try clear p6
                          try clear c7
                          try clear c8
                          try clear c9
                          try clear c10
                          try clear c12
                          try clear c38
                          try clear c38b0
                          try clear c38b1
                          try clear c38b2
                          try clear c49
                          try clear c51
                          try clear c51b0
                          try clear c52
                          try clear c53
                          try clear c54
                          try clear c56
                          try clear c56b0
                          try clear c57
                          try clear c58
                          try clear c59
                          try clear c61
                          try clear c62
                          try clear c64
                          try clear c64b0
                          try clear p64
                          try clear c65
                          try clear c66
                          try clear c67
                          try clear c69
                          try clear c70
                          try clear c72
                          try clear c73
                          try clear c74
                          try clear c76
                          try clear c77
                          try clear c79
                          try clear c81
                          try clear c82
                          try clear c83
                          try clear c85
                          try clear c86
                          try clear c89
                          try clear c89b0
                          try clear c90
                          try clear c91
                          try clear c92
                          try clear c94
                          try clear c95
                          try clear c97
                          try clear c98
                          try clear c99
                          try clear c101
                          try clear c102
                          try clear hcz100_0
                          try clear hcz100_1
                          try clear hcz100_2
                          try clear hcz103_0
                          try clear hcz103_1
                          try clear hcz103_2
                          try clear hcz55_0
                          try clear hcz55_1
                          try clear hcz55_2
                          try clear hcz60_0
                          try clear hcz60_1
                          try clear hcz60_2
                          try clear hcz63_0
                          try clear hcz63_1
                          try clear hcz63_2
                          try clear hcz68_0
                          try clear hcz68_1
                          try clear hcz68_2
                          try clear hcz71_0
                          try clear hcz71_1
                          try clear hcz71_2
                          try clear hcz75_0
                          try clear hcz75_1
                          try clear hcz75_2
                          try clear hcz78_0
                          try clear hcz78_1
                          try clear hcz78_2
                          try clear hcz84_0
                          try clear hcz84_1
                          try clear hcz84_2
                          try clear hcz87_0
                          try clear hcz87_1
                          try clear hcz87_2
                          try clear hcz93_0
                          try clear hcz93_1
                          try clear hcz93_2
                          try clear hcz96_0
                          try clear hcz96_1
                          try clear hcz96_2
                          try clear hfz100_0
                          try clear hfz100_1
                          try clear hfz100_2
                          try clear hfz103_0
                          try clear hfz103_1
                          try clear hfz103_2
                          try clear hfz55_0
                          try clear hfz55_1
                          try clear hfz55_2
                          try clear hfz60_0
                          try clear hfz60_1
                          try clear hfz60_2
                          try clear hfz63_0
                          try clear hfz63_1
                          try clear hfz63_2
                          try clear hfz68_0
                          try clear hfz68_1
                          try clear hfz68_2
                          try clear hfz71_0
                          try clear hfz71_1
                          try clear hfz71_2
                          try clear hfz75_0
                          try clear hfz75_1
                          try clear hfz75_2
                          try clear hfz78_0
                          try clear hfz78_1
                          try clear hfz78_2
                          try clear hfz84_0
                          try clear hfz84_1
                          try clear hfz84_2
                          try clear hfz87_0
                          try clear hfz87_1
                          try clear hfz87_2
                          try clear hfz93_0
                          try clear hfz93_1
                          try clear hfz93_2
                          try clear hfz96_0
                          try clear hfz96_1
                          try clear hfz96_2
                          try clear p2
                          obtain ⟨kq, x74_87, rfl, HA, HJ87, BK117, BK118, BK123, BK124, HB⟩ := hcut
                          cases kq with
                          | zero => exact absurd HA.out (by simp [monocoquelaw01_SpanMeets.j4])
                          | succ kj87 =>
                            have H := HA.out
                            clear HA
                            simp only [monocoquelaw01_SpanMeets.j4] at H
                            by_cases c104 : x74_87 = true
                            · subst c104
                              have H1 : ((monocoqueref01_At.f a0_0 a0_1 a0_2 x9_4).bind fun t128 => (if t128 = true then ((monocoqueref01_At.f a1_0 a1_1 a1_2 x9_4).bind fun t129 => (monocoquelaw01_SpanMeets.l0 kj87 t129 ji80 (wrap64 (x9_4 + 1)) a0_0 a0_1 a0_2 a1_0 a1_1 a1_2 a0_0 a0_1 a0_2 a1_0 a1_1 a1_2)) else (monocoquelaw01_SpanMeets.l0 kj87 false ji80 (wrap64 (x9_4 + 1)) a0_0 a0_1 a0_2 a1_0 a1_1 a1_2 a0_0 a0_1 a0_2 a1_0 a1_1 a1_2))) = some r := by rw [if_pos rfl] at H; exact H
                              clear H
                              have H := H1
                              clear H1
                              replace H := Option.bind_eq_some_iff.mp H
                              obtain ⟨t128, A1050, H⟩ := H
                              replace H : (if t128 = true then ((monocoqueref01_At.f a1_0 a1_1 a1_2 x9_4).bind fun t129 => (monocoquelaw01_SpanMeets.l0 kj87 t129 ji80 (wrap64 (x9_4 + 1)) a0_0 a0_1 a0_2 a1_0 a1_1 a1_2 a0_0 a0_1 a0_2 a1_0 a1_1 a1_2)) else (monocoquelaw01_SpanMeets.l0 kj87 false ji80 (wrap64 (x9_4 + 1)) a0_0 a0_1 a0_2 a1_0 a1_1 a1_2 a0_0 a0_1 a0_2 a1_0 a1_1 a1_2)) = some r := H
                              have A105 := Aside0.mk A1050
                              clear A1050
                              by_cases c106 : t128 = true
                              · subst c106
                                have H1 : ((monocoqueref01_At.f a1_0 a1_1 a1_2 x9_4).bind fun t129 => (monocoquelaw01_SpanMeets.l0 kj87 t129 ji80 (wrap64 (x9_4 + 1)) a0_0 a0_1 a0_2 a1_0 a1_1 a1_2 a0_0 a0_1 a0_2 a1_0 a1_1 a1_2)) = some r := by rw [if_pos rfl] at H; exact H
                                clear H
                                have H := H1
                                clear H1
                                replace H := Option.bind_eq_some_iff.mp H
                                obtain ⟨t129, A1070, H⟩ := H
                                replace H : (monocoquelaw01_SpanMeets.l0 kj87 t129 ji80 (wrap64 (x9_4 + 1)) a0_0 a0_1 a0_2 a1_0 a1_1 a1_2 a0_0 a0_1 a0_2 a1_0 a1_1 a1_2) = some r := H
                                have A107 := Aside0.mk A1070
                                clear A1070
                                have H' := Aside0.mk H
                                clear H
                                have hnb108 := NB117_118.out
                                have hnc108 := NB118_117.out
                                have hnb109 := NB117_123.out
                                have hnc109 := NB123_117.out
                                have hnb110 := NB117_124.out
                                have hnc110 := NB124_117.out
                                have hcz111_0 : wc.cell? ⟨gb117, 0, none⟩ = some (.int .i64 a0_0) := (blk_cell BK117.out 0).trans rfl
                                have hcz111_1 : wc.cell? ⟨gb117, 1, none⟩ = some (.int .i64 a0_1) := (blk_cell BK117.out 1).trans rfl
                                have hcz111_2 : wc.cell? ⟨gb117, 2, none⟩ = some (.int .i64 a0_2) := (blk_cell BK117.out 2).trans rfl
                                have hfz111_0 := blk_frozen BK117.out 0
                                have hfz111_1 := blk_frozen BK117.out 1
                                have hfz111_2 := blk_frozen BK117.out 2
                                go_wp2_with (first | ((with_reducible refine gate_callee (f := 13) rfl ?_); refine goesL_ (some 79) rfl rfl Try.func13 (by kernel_rfl) rfl #[.agg #[.int .i64 a0_0, .int .i64 a0_1, .int .i64 a0_2], .int .i64 x9_4] rfl (by (try simp only [List.map_toArray, List.map_cons, List.map_nil]); first | done | rfl | (simp only [List.length_drop, List.length_take]; rfl)) ?_; (with_reducible refine (monocoqueref01_At.calls a0_0 a0_1 a0_2 x9_4 true _ A105.out).mono ?_); rintro e w112 ⟨rfl, hb⟩; refine ⟨_, rfl, ?_⟩; have n0_ := Aside0.mk (blk_below (g := gb117) (o := .cells #[.int .i64 a0_0, .int .i64 a0_1, .int .i64 a0_2] 23 (0, 0)) (by (with_reducible repeat (first | refine blk_drewN ?_ _ | refine blk_drew ?_ | refine blk_alloc ?_ _)); exact BK117.out) hb); have n1_ := Aside0.mk (blk_below (g := gb118) (o := .cells #[.int .i64 a1_0, .int .i64 a1_1, .int .i64 a1_2] 23 (0, 0)) (by (with_reducible repeat (first | refine blk_drewN ?_ _ | refine blk_drew ?_ | refine blk_alloc ?_ _)); exact BK118.out) hb); have n2_ := Aside0.mk (blk_below (g := gb123) (o := .cells #[.int .i64 a0_0, .int .i64 a0_1, .int .i64 a0_2] 26 (0, 0)) (by (with_reducible repeat (first | refine blk_drewN ?_ _ | refine blk_drew ?_ | refine blk_alloc ?_ _)); exact BK123.out) hb); have n3_ := Aside0.mk (blk_below (g := gb124) (o := .cells #[.int .i64 a1_0, .int .i64 a1_1, .int .i64 a1_2] 26 (0, 0)) (by (with_reducible repeat (first | refine blk_drewN ?_ _ | refine blk_drew ?_ | refine blk_alloc ?_ _)); exact BK124.out) hb); have n4_ := Aside0.mk (below_step (by repeat (first | (with_reducible first | exact HB.out | apply below_alloc | apply pw_below_drewN | apply below_drew1 | refine below_set ?_ GE117.out | refine below_set ?_ GE118.out | refine below_set ?_ GE123.out | refine below_set ?_ GE124.out) | exact HB.out)) hb); clear BK117; clear BK118; clear BK123; clear BK124; clear HB; have BK117 := n0_; have BK118 := n1_; have BK123 := n2_; have BK124 := n3_; have HB := n4_; clear n0_ n1_ n2_ n3_ n4_; (try clear hb); (try clear hb2); (try clear hk); (try clear hi); have hnb113 := NB118_123.out; have hnc113 := NB123_118.out; have hnb114 := NB118_124.out; have hnc114 := NB124_118.out; have hcz115_0 : w112.cell? ⟨gb118, 0, none⟩ = some (.int .i64 a1_0) := (blk_cell BK118.out 0).trans rfl; have hcz115_1 : w112.cell? ⟨gb118, 1, none⟩ = some (.int .i64 a1_1) := (blk_cell BK118.out 1).trans rfl; have hcz115_2 : w112.cell? ⟨gb118, 2, none⟩ = some (.int .i64 a1_2) := (blk_cell BK118.out 2).trans rfl; have hfz115_0 := blk_frozen BK118.out 0; have hfz115_1 := blk_frozen BK118.out 1; have hfz115_2 := blk_frozen BK118.out 2) | (go_at_call 13; (with_reducible refine (monocoqueref01_At.calls a1_0 a1_1 a1_2 x9_4 t129 _ A107.out).mono ?_); rintro e w116 ⟨rfl, hb⟩; have n0_ := Aside0.mk (blk_below (g := gb117) (o := .cells #[.int .i64 a0_0, .int .i64 a0_1, .int .i64 a0_2] 23 (0, 0)) (by (with_reducible repeat (first | refine blk_drewN ?_ _ | refine blk_drew ?_ | refine blk_alloc ?_ _)); exact BK117.out) hb); have n1_ := Aside0.mk (blk_below (g := gb118) (o := .cells #[.int .i64 a1_0, .int .i64 a1_1, .int .i64 a1_2] 23 (0, 0)) (by (with_reducible repeat (first | refine blk_drewN ?_ _ | refine blk_drew ?_ | refine blk_alloc ?_ _)); exact BK118.out) hb); have n2_ := Aside0.mk (blk_below (g := gb123) (o := .cells #[.int .i64 a0_0, .int .i64 a0_1, .int .i64 a0_2] 26 (0, 0)) (by (with_reducible repeat (first | refine blk_drewN ?_ _ | refine blk_drew ?_ | refine blk_alloc ?_ _)); exact BK123.out) hb); have n3_ := Aside0.mk (blk_below (g := gb124) (o := .cells #[.int .i64 a1_0, .int .i64 a1_1, .int .i64 a1_2] 26 (0, 0)) (by (with_reducible repeat (first | refine blk_drewN ?_ _ | refine blk_drew ?_ | refine blk_alloc ?_ _)); exact BK124.out) hb); have n4_ := Aside0.mk (below_step (by repeat (first | (with_reducible first | exact HB.out | apply below_alloc | apply pw_below_drewN | apply below_drew1 | refine below_set ?_ GE117.out | refine below_set ?_ GE118.out | refine below_set ?_ GE123.out | refine below_set ?_ GE124.out) | exact HB.out)) hb); clear BK117; clear BK118; clear BK123; clear BK124; clear HB; have BK117 := n0_; have BK118 := n1_; have BK123 := n2_; have BK124 := n3_; have HB := n4_; clear n0_ n1_ n2_ n3_ n4_; (try clear hb); (try clear hb2); (try clear hk); (try clear hi)))
                                go_roundg kj87
                                case measure => have := HJ2.out; have := HJ24.out; have := HJ49.out; have := HK4.out; have := HJ87.out; omega
                                case rel => exact ⟨(t129), (wrap64 (x9_4 + 1)), (by first | rfl | (simp; done) | (simp [*]; done)), (by first | rfl | (simp; done) | (simp [*]; done)), H', ⟨by have := HJ2.out; have := HJ24.out; have := HJ49.out; have := HK4.out; have := HJ87.out; omega⟩, ⟨by (with_reducible repeat (first | refine blk_drewN ?_ _ | refine blk_drew ?_ | refine blk_alloc ?_ _)); exact BK117.out⟩, ⟨by (with_reducible repeat (first | refine blk_drewN ?_ _ | refine blk_drew ?_ | refine blk_alloc ?_ _)); exact BK118.out⟩, ⟨by (with_reducible repeat (first | refine blk_drewN ?_ _ | refine blk_drew ?_ | refine blk_alloc ?_ _)); exact BK123.out⟩, ⟨by (with_reducible repeat (first | refine blk_drewN ?_ _ | refine blk_drew ?_ | refine blk_alloc ?_ _)); exact BK124.out⟩, ⟨by repeat (first | (with_reducible first | exact HB.out | apply below_alloc | apply pw_below_drewN | apply below_drew1 | refine below_set ?_ GE117.out | refine below_set ?_ GE118.out | refine below_set ?_ GE123.out | refine below_set ?_ GE124.out) | exact HB.out)⟩⟩
                              · replace c106 := Bool.eq_false_iff.mpr c106
                                subst c106
                                have H1 : (monocoquelaw01_SpanMeets.l0 kj87 false ji80 (wrap64 (x9_4 + 1)) a0_0 a0_1 a0_2 a1_0 a1_1 a1_2 a0_0 a0_1 a0_2 a1_0 a1_1 a1_2) = some r := by rw [if_neg (show ¬ (false = true) by decide)] at H; exact H
                                clear H
                                have H := H1
                                clear H1
                                have H' := Aside0.mk H
                                clear H
                                have hnb117 := NB117_118.out
                                have hnc117 := NB118_117.out
                                have hnb118 := NB117_123.out
                                have hnc118 := NB123_117.out
                                have hnb119 := NB117_124.out
                                have hnc119 := NB124_117.out
                                have hcz120_0 : wc.cell? ⟨gb117, 0, none⟩ = some (.int .i64 a0_0) := (blk_cell BK117.out 0).trans rfl
                                have hcz120_1 : wc.cell? ⟨gb117, 1, none⟩ = some (.int .i64 a0_1) := (blk_cell BK117.out 1).trans rfl
                                have hcz120_2 : wc.cell? ⟨gb117, 2, none⟩ = some (.int .i64 a0_2) := (blk_cell BK117.out 2).trans rfl
                                have hfz120_0 := blk_frozen BK117.out 0
                                have hfz120_1 := blk_frozen BK117.out 1
                                have hfz120_2 := blk_frozen BK117.out 2
                                go_wp2_with (first | ((with_reducible refine gate_callee (f := 13) rfl ?_); refine goesL_ (some 79) rfl rfl Try.func13 (by kernel_rfl) rfl #[.agg #[.int .i64 a0_0, .int .i64 a0_1, .int .i64 a0_2], .int .i64 x9_4] rfl (by (try simp only [List.map_toArray, List.map_cons, List.map_nil]); first | done | rfl | (simp only [List.length_drop, List.length_take]; rfl)) ?_; (with_reducible refine (monocoqueref01_At.calls a0_0 a0_1 a0_2 x9_4 false _ A105.out).mono ?_); rintro e w121 ⟨rfl, hb⟩; refine ⟨_, rfl, ?_⟩; have n0_ := Aside0.mk (blk_below (g := gb117) (o := .cells #[.int .i64 a0_0, .int .i64 a0_1, .int .i64 a0_2] 23 (0, 0)) (by (with_reducible repeat (first | refine blk_drewN ?_ _ | refine blk_drew ?_ | refine blk_alloc ?_ _)); exact BK117.out) hb); have n1_ := Aside0.mk (blk_below (g := gb118) (o := .cells #[.int .i64 a1_0, .int .i64 a1_1, .int .i64 a1_2] 23 (0, 0)) (by (with_reducible repeat (first | refine blk_drewN ?_ _ | refine blk_drew ?_ | refine blk_alloc ?_ _)); exact BK118.out) hb); have n2_ := Aside0.mk (blk_below (g := gb123) (o := .cells #[.int .i64 a0_0, .int .i64 a0_1, .int .i64 a0_2] 26 (0, 0)) (by (with_reducible repeat (first | refine blk_drewN ?_ _ | refine blk_drew ?_ | refine blk_alloc ?_ _)); exact BK123.out) hb); have n3_ := Aside0.mk (blk_below (g := gb124) (o := .cells #[.int .i64 a1_0, .int .i64 a1_1, .int .i64 a1_2] 26 (0, 0)) (by (with_reducible repeat (first | refine blk_drewN ?_ _ | refine blk_drew ?_ | refine blk_alloc ?_ _)); exact BK124.out) hb); have n4_ := Aside0.mk (below_step (by repeat (first | (with_reducible first | exact HB.out | apply below_alloc | apply pw_below_drewN | apply below_drew1 | refine below_set ?_ GE117.out | refine below_set ?_ GE118.out | refine below_set ?_ GE123.out | refine below_set ?_ GE124.out) | exact HB.out)) hb); clear BK117; clear BK118; clear BK123; clear BK124; clear HB; have BK117 := n0_; have BK118 := n1_; have BK123 := n2_; have BK124 := n3_; have HB := n4_; clear n0_ n1_ n2_ n3_ n4_; (try clear hb); (try clear hb2); (try clear hk); (try clear hi)))
                                go_roundg kj87
                                case measure => have := HJ2.out; have := HJ24.out; have := HJ49.out; have := HK4.out; have := HJ87.out; omega
                                case rel => exact ⟨(false), (wrap64 (x9_4 + 1)), (by first | rfl | (simp; done) | (simp [*]; done)), (by first | rfl | (simp; done) | (simp [*]; done)), H', ⟨by have := HJ2.out; have := HJ24.out; have := HJ49.out; have := HK4.out; have := HJ87.out; omega⟩, ⟨by (with_reducible repeat (first | refine blk_drewN ?_ _ | refine blk_drew ?_ | refine blk_alloc ?_ _)); exact BK117.out⟩, ⟨by (with_reducible repeat (first | refine blk_drewN ?_ _ | refine blk_drew ?_ | refine blk_alloc ?_ _)); exact BK118.out⟩, ⟨by (with_reducible repeat (first | refine blk_drewN ?_ _ | refine blk_drew ?_ | refine blk_alloc ?_ _)); exact BK123.out⟩, ⟨by (with_reducible repeat (first | refine blk_drewN ?_ _ | refine blk_drew ?_ | refine blk_alloc ?_ _)); exact BK124.out⟩, ⟨by repeat (first | (with_reducible first | exact HB.out | apply below_alloc | apply pw_below_drewN | apply below_drew1 | refine below_set ?_ GE117.out | refine below_set ?_ GE118.out | refine below_set ?_ GE123.out | refine below_set ?_ GE124.out) | exact HB.out)⟩⟩
                            · replace c104 := Bool.eq_false_iff.mpr c104
                              subst c104
                              have H1 : ((span_Meet.f kj87 a0_0 a0_1 a0_2 a1_0 a1_1 a1_2).bind fun t130 => (some (t130 == x7_4))) = some r := by rw [if_neg (show ¬ (false = true) by decide)] at H; exact H
                              clear H
                              have H := H1
                              clear H1
                              replace H := Option.bind_eq_some_iff.mp H
                              obtain ⟨t130, A1220, H⟩ := H
                              replace H : (some (t130 == x7_4)) = some r := H
                              have A122 := Aside0.mk A1220
                              clear A1220
                              obtain rfl := Option.some.inj H
                              have hnb123 := NB123_117.out
                              have hnc123 := NB117_123.out
                              have hnb124 := NB123_118.out
                              have hnc124 := NB118_123.out
                              have hnb125 := NB123_124.out
                              have hnc125 := NB124_123.out
                              have hcz126_0 : wc.cell? ⟨gb123, 0, none⟩ = some (.int .i64 a0_0) := (blk_cell BK123.out 0).trans rfl
                              have hcz126_1 : wc.cell? ⟨gb123, 1, none⟩ = some (.int .i64 a0_1) := (blk_cell BK123.out 1).trans rfl
                              have hcz126_2 : wc.cell? ⟨gb123, 2, none⟩ = some (.int .i64 a0_2) := (blk_cell BK123.out 2).trans rfl
                              have hfz126_0 := blk_frozen BK123.out 0
                              have hfz126_1 := blk_frozen BK123.out 1
                              have hfz126_2 := blk_frozen BK123.out 2
                              have hnb127 := NB124_117.out
                              have hnc127 := NB117_124.out
                              have hnb128 := NB124_118.out
                              have hnc128 := NB118_124.out
                              have hcz129_0 : wc.cell? ⟨gb124, 0, none⟩ = some (.int .i64 a1_0) := (blk_cell BK124.out 0).trans rfl
                              have hcz129_1 : wc.cell? ⟨gb124, 1, none⟩ = some (.int .i64 a1_1) := (blk_cell BK124.out 1).trans rfl
                              have hcz129_2 : wc.cell? ⟨gb124, 2, none⟩ = some (.int .i64 a1_2) := (blk_cell BK124.out 2).trans rfl
                              have hfz129_0 := blk_frozen BK124.out 0
                              have hfz129_1 := blk_frozen BK124.out 1
                              have hfz129_2 := blk_frozen BK124.out 2
                              go_wp2_with (first | ((with_reducible refine gate_callee (f := 12) rfl ?_); refine goesL_ (some 87) rfl rfl Try.func12 (by kernel_rfl) rfl #[.agg #[.int .i64 a0_0, .int .i64 a0_1, .int .i64 a0_2], .agg #[.int .i64 a1_0, .int .i64 a1_1, .int .i64 a1_2]] rfl (by (try simp only [List.map_toArray, List.map_cons, List.map_nil]); first | done | rfl | (simp only [List.length_drop, List.length_take]; rfl)) ?_; (with_reducible refine (span_Meet.calls kj87 a0_0 a0_1 a0_2 a1_0 a1_1 a1_2 t130 _ A122.out).mono ?_); rintro e w130 ⟨rfl, hb⟩; refine ⟨_, rfl, ?_⟩; have n0_ := Aside0.mk (blk_below (g := gb117) (o := .cells #[.int .i64 a0_0, .int .i64 a0_1, .int .i64 a0_2] 23 (0, 0)) (by (with_reducible repeat (first | refine blk_drewN ?_ _ | refine blk_drew ?_ | refine blk_alloc ?_ _)); exact BK117.out) hb); have n1_ := Aside0.mk (blk_below (g := gb118) (o := .cells #[.int .i64 a1_0, .int .i64 a1_1, .int .i64 a1_2] 23 (0, 0)) (by (with_reducible repeat (first | refine blk_drewN ?_ _ | refine blk_drew ?_ | refine blk_alloc ?_ _)); exact BK118.out) hb); have n2_ := Aside0.mk (blk_below (g := gb123) (o := .cells #[.int .i64 a0_0, .int .i64 a0_1, .int .i64 a0_2] 26 (0, 0)) (by (with_reducible repeat (first | refine blk_drewN ?_ _ | refine blk_drew ?_ | refine blk_alloc ?_ _)); exact BK123.out) hb); have n3_ := Aside0.mk (blk_below (g := gb124) (o := .cells #[.int .i64 a1_0, .int .i64 a1_1, .int .i64 a1_2] 26 (0, 0)) (by (with_reducible repeat (first | refine blk_drewN ?_ _ | refine blk_drew ?_ | refine blk_alloc ?_ _)); exact BK124.out) hb); have n4_ := Aside0.mk (below_step (by repeat (first | (with_reducible first | exact HB.out | apply below_alloc | apply pw_below_drewN | apply below_drew1 | refine below_set ?_ GE117.out | refine below_set ?_ GE118.out | refine below_set ?_ GE123.out | refine below_set ?_ GE124.out) | exact HB.out)) hb); clear BK117; clear BK118; clear BK123; clear BK124; clear HB; have BK117 := n0_; have BK118 := n1_; have BK123 := n2_; have BK124 := n3_; have HB := n4_; clear n0_ n1_ n2_ n3_ n4_; (try clear hb); (try clear hb2); (try clear hk); (try clear hi)))
                              go_ret
                              exact ⟨by first | rfl | (simp [errW_none, errW_some] <;> rfl) | (simp only [← hji80]; first | rfl | (simp [errW_none, errW_some] <;> rfl)) | (simp [*, errW_none, errW_some] <;> rfl), by repeat (first | (with_reducible first | exact HB.out | apply below_alloc | apply pw_below_drewN | apply below_drew1 | refine below_set ?_ GE117.out | refine below_set ?_ GE118.out | refine below_set ?_ GE123.out | refine below_set ?_ GE124.out) | exact HB.out)⟩

end Go.Proofs.Ytlhjmbhoeabhmaa.PSpanMeets
