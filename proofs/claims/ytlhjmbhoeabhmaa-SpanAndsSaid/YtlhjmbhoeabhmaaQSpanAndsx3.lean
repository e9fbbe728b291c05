/- The walk of SpanAnds. This text began as one that the kit's print wrote for this law and that is too long for a claim's file; a program of this session says it shorter. -/
import Derived.Test.YtlhjmbhoeabhmaaPSpanAndsx0
import Derived.Test.YtlhjmbhoeabhmaaPSpanAndsx1
import Derived.Test.YtlhjmbhoeabhmaaPSpanAndsx2
namespace Go.Proofs.Ytlhjmbhoeabhmaa.PSpanAnds
open Go.RowKit Go.Proofs.YtlhjmbhoeabhmaaW.PrintWords Go.Proofs.YtlhjmbhoeabhmaaW.PrintLast Go.Proofs.YtlhjmbhoeabhmaaW.PrintMore
attribute [local go_sem] max2_int min2_int max_two min_two max_three min_three max_four min_four   -- for this text's walks alone
set_option linter.unusedVariables false
set_option linter.unusedSimpArgs false

attribute [local go_sem high] eqA33
theorem bN {w : World} {g : Nat} {o : Obj} (h : w.heap[g]? = some o) (n : Nat) : (w.drewN n).heap[g]? = some o := blk_drewN h n
theorem bD {w : World} {g : Nat} {o : Obj} (h : w.heap[g]? = some o) : w.drew.heap[g]? = some o := blk_drew h
theorem bA {w : World} {g : Nat} {o : Obj} (h : w.heap[g]? = some o) (o' : Obj) : (w.alloc o').heap[g]? = some o := blk_alloc h o'
theorem eA {w W : World} (h : Below w.heap.size w W) (o : Obj) : Below w.heap.size w (W.alloc o) := below_alloc h o
theorem eN {B : Nat} {w W : World} (h : Below B w W) (n : Nat) : Below B w (W.drewN n) := pw_below_drewN h n
theorem eD {base : Nat} {w W : World} (h : Below base w W) : Below base w W.drew := below_drew1 h
theorem bS {w W : World} {g j : Nat} {v : Value} (h : Below w.heap.size w W) (hg : w.heap.size ≤ g) : Below w.heap.size w (W.setCell ⟨g, j, none⟩ v) := below_set h hg
theorem lA {α : Type _} {l : List α} {i : Nat} {a : α} : l.toArray.setIfInBounds i a = (l.set i a).toArray := List.setIfInBounds_toArray ..
theorem sZ {α : Type _} {x y : α} {l : List α} : (x :: l).set 0 y = y :: l := List.set_cons_zero
theorem sC {α : Type _} {x y : α} {l : List α} {n : Nat} : (x :: l).set (n + 1) y = x :: l.set n y := List.set_cons_succ
abbrev tt := true
abbrev ff := false
/-! ### sA: function 4 -/
mutual
def sA.j0 : Nat → Bool → Int → Int → Int → Int → Int → Int → Option (Bool)
  | 0, _, _, _, _, _, _, _ => none
  | k + 1, x27, x122000, x122001, x123000, x123001, x124000, x124001 => if x27 = true then ((monocoquelaw01_speaks.f k).bind fun t129 => (some t129)) else ((span_Span_And.f x122000 x122001 x123000 x123001).bind fun bt133 => ((span_Span_And.f x123000 x123001 x122000 x122001).bind fun bt135 => (if (!(bt133.1 == bt135.1) || (!(bt133.2 == bt135.2))) = true then (sA.j1 k true x122000 x122001 x123000 x123001 x124000 x124001) else ((span_Span_And.f x122000 x122001 x123000 x123001).bind fun bt137 => ((span_Span_Len.f bt137.1 bt137.2).bind fun t139 => ((span_Span_Len.f x122000 x122001).bind fun t140 => ((span_Span_Len.f x123000 x123001).bind fun t141 => (if t139 > (mn t140 t141) then (sA.j1 k true x122000 x122001 x123000 x123001 x124000 x124001) else ((span_Span_And.f x122000 x122001 x122000 x122001).bind fun bt142 => ((span_Span_Len.f bt142.1 bt142.2).bind fun t144 => ((span_Span_Len.f x122000 x122001).bind fun t145 => (sA.j1 k (t144 != t145) x122000 x122001 x123000 x123001 x124000 x124001))))))))))))
def sA.j1 : Nat → Bool → Int → Int → Int → Int → Int → Int → Option (Bool)
  | 0, _, _, _, _, _, _, _ => none
  | k + 1, x59, x131000, x131001, x132000, x132001, x133000, x133001 => if x59 = true then (some false) else ((span_Span_And.f x131000 x131001 x132000 x132001).bind fun bt146 => ((span_Span_And.f bt146.1 bt146.2 x133000 x133001).bind fun bt148 => ((span_Span_Len.f bt148.1 bt148.2).bind fun t150 => ((span_Span_And.f x132000 x132001 x133000 x133001).bind fun bt151 => ((span_Span_And.f x131000 x131001 bt151.1 bt151.2).bind fun bt153 => ((span_Span_Len.f bt153.1 bt153.2).bind fun t155 => (some (t150 == t155))))))))
end
def sA.f (k : Nat) (a0_0 : Int) (a0_1 : Int) (a1_0 : Int) (a1_1 : Int) (a2_0 : Int) (a2_1 : Int) : Option (Bool) := (monocoquelaw01_speaks.f k).bind fun t124 => (if t124 = true then ((monocoquelaw01_far.f k (([a0_0, a0_1, a1_0, a1_1, a2_0, a2_1] : List Int))).bind fun t128 => (sA.j0 k t128 a0_0 a0_1 a1_0 a1_1 a2_0 a2_1)) else (sA.j0 k true a0_0 a0_1 a1_0 a1_1 a2_0 a2_1))
theorem sA.mono_l : ∀ k, (∀ y0 y1 y2 y3 y4 y5 y6, LeO (sA.j0 k y0 y1 y2 y3 y4 y5 y6) (sA.j0 (k + 1) y0 y1 y2 y3 y4 y5 y6)) ∧ (∀ y0 y1 y2 y3 y4 y5 y6, LeO (sA.j1 k y0 y1 y2 y3 y4 y5 y6) (sA.j1 (k + 1) y0 y1 y2 y3 y4 y5 y6))
  | 0 => ⟨fun _ _ _ _ _ _ _ r h => by simp [sA.j0] at h, fun _ _ _ _ _ _ _ r h => by simp [sA.j1] at h⟩
  | k + 1 => by
    obtain ⟨ih0, ih1⟩ := sA.mono_l k
    refine ⟨?_, ?_⟩
    · intro y0 y1 y2 y3 y4 y5 y6
      unfold sA.j0
      repeat' first
      | (with_reducible exact ih0 _ _ _ _ _ _ _)
      | (with_reducible exact ih1 _ _ _ _ _ _ _)
      | (with_reducible exact monocoquelaw01_far.mono _ _)
      | (with_reducible exact monocoquelaw01_speaks.mono _)
      | (with_reducible exact LeO.refl _)
      | (with_reducible exact LeO.none _)
      | (with_reducible refine LeO.ite ?_ ?_)
      | (with_reducible refine LeO.bind ?_ (fun _ => ?_))
      | exact ih0 _ _ _ _ _ _ _
      | exact ih1 _ _ _ _ _ _ _
      | exact monocoquelaw01_far.mono _ _
      | exact monocoquelaw01_speaks.mono _
      | exact LeO.none _
      | refine LeO.ite ?_ ?_
      | refine LeO.bind ?_ (fun _ => ?_)
    · intro y0 y1 y2 y3 y4 y5 y6
      unfold sA.j1
      repeat' first
      | (with_reducible exact ih0 _ _ _ _ _ _ _)
      | (with_reducible exact ih1 _ _ _ _ _ _ _)
      | (with_reducible exact monocoquelaw01_far.mono _ _)
      | (with_reducible exact monocoquelaw01_speaks.mono _)
      | (with_reducible exact LeO.refl _)
      | (with_reducible exact LeO.none _)
      | (with_reducible refine LeO.ite ?_ ?_)
      | (with_reducible refine LeO.bind ?_ (fun _ => ?_))
      | exact ih0 _ _ _ _ _ _ _
      | exact ih1 _ _ _ _ _ _ _
      | exact monocoquelaw01_far.mono _ _
      | exact monocoquelaw01_speaks.mono _
      | exact LeO.none _
      | refine LeO.ite ?_ ?_
      | refine LeO.bind ?_ (fun _ => ?_)
theorem sA.mono : ∀ a0 a1 a2 a3 a4 a5 k, LeO (sA.f k a0 a1 a2 a3 a4 a5) (sA.f (k + 1) a0 a1 a2 a3 a4 a5) := by
  intro a0 a1 a2 a3 a4 a5 k
  obtain ⟨ih0, ih1⟩ := sA.mono_l k
  unfold sA.f
  repeat' first
      | (with_reducible exact ih0 _ _ _ _ _ _ _)
      | (with_reducible exact ih1 _ _ _ _ _ _ _)
      | (with_reducible exact monocoquelaw01_far.mono _ _)
      | (with_reducible exact monocoquelaw01_speaks.mono _)
      | (with_reducible exact LeO.refl _)
      | (with_reducible exact LeO.none _)
      | (with_reducible refine LeO.ite ?_ ?_)
      | (with_reducible refine LeO.bind ?_ (fun _ => ?_))
      | exact ih0 _ _ _ _ _ _ _
      | exact ih1 _ _ _ _ _ _ _
      | exact monocoquelaw01_far.mono _ _
      | exact monocoquelaw01_speaks.mono _
      | exact LeO.none _
      | refine LeO.ite ?_ ?_
      | refine LeO.bind ?_ (fun _ => ?_)
def sA.T3 : Bool × List (List Nat × List Nat) := (true, [([], []), ([], []), ([], []), ([], []), ([], []), ([], []), ([3, 0, 0, 3, 4, 5], [0, 3]), ([4, 1, 6, 0, 1, 3, 4, 5, 6], [1, 4]), ([5, 2, 7, 0, 1, 2, 3, 4, 5, 6, 7], [2, 5])])
def sA.B3 : List Nat := [0, 0, 0, 0, 0, 0, 57, 123, 255]
theorem sA.tab3 : rtab .any (opsOf Try.f4 3) = sA.T3 := by kernel_rfl
theorem sA.bits3 : waitsOk sA.T3.2 sA.B3 = true := by kernel_rfl
def sA.T4 : Bool × List (List Nat × List Nat) := (true, [([], []), ([], []), ([0, 1], [0, 1]), ([], []), ([], []), ([3, 4, 2], [3, 4]), ([2, 5], [2, 5]), ([6, 5], [6]), ([7], [7]), ([7], [7]), ([8, 9, 7, 7], [7, 8, 9]), ([10, 10, 7], [7, 10]), ([7], [7]), ([12, 11, 7], [7, 12]), ([7], [7]), ([14, 13, 7], [7, 14]), ([13, 15, 7], [7, 13, 15]), ([11, 16, 7], [7, 11, 16]), ([7, 17], [7, 17]), ([18, 15], [18]), ([19], [19]), ([19], [19]), ([20, 21, 19, 19], [19, 20, 21]), ([22, 22, 19], [19, 22]), ([19], [19]), ([24, 23, 19], [19, 24]), ([23, 25, 19], [19, 23, 25]), ([19, 26], [19, 26])])
def sA.B4 : List Nat := [0, 0, 3, 0, 0, 31, 63, 127, 255, 255, 1023, 2047, 255, 8191, 255, 32767, 65535, 131071, 262143, 524287, 1048575, 1048575, 4194303, 8388607, 1048575, 33554431, 67108863, 134217727]
theorem sA.tab4 : rtab .any (opsOf Try.f4 4) = sA.T4 := by kernel_rfl
theorem sA.bits4 : waitsOk sA.T4.2 sA.B4 = true := by kernel_rfl
def sA.T6 : Bool × List (List Nat × List Nat) := (true, [([], []), ([], []), ([0, 1], [0, 1]), ([], []), ([2, 3, 2], [2, 3]), ([4, 4], [4]), ([], []), ([], []), ([], []), ([7, 8, 5], [7, 8]), ([6, 9, 9], [6, 9]), ([10, 10], [10]), ([5, 11], [5, 11]), ([12, 11, 0, 1, 2, 3, 4, 5, 6, 7, 8, 9, 10, 11, 12], [12])])
def sA.B6 : List Nat := [0, 0, 3, 0, 15, 31, 0, 0, 0, 447, 1023, 2047, 4095, 8191]
theorem sA.tab6 : rtab .any (opsOf Try.f4 6) = sA.T6 := by kernel_rfl
theorem sA.bits6 : waitsOk sA.T6.2 sA.B6 = true := by kernel_rfl
set_option maxHeartbeats 8000000 in
set_option maxRecDepth 100000 in
theorem sA.calls (k : Nat) (a0_0 : Int) (a0_1 : Int) (a1_0 : Int) (a1_1 : Int) (a2_0 : Int) (a2_1 : Int) (r : Bool) (w : World) (h : sA.f k a0_0 a0_1 a1_0 a1_1 a2_0 a2_1 = some r) :
    Calls Try.prog 4 #[.agg #[.int .i64 a0_0, .int .i64 a0_1], .agg #[.int .i64 a1_0, .int .i64 a1_1], .agg #[.int .i64 a2_0, .int .i64 a2_1]] w fun e w' => e = .returned (.bool r) ∧ Below w.heap.size w w' := by
  have hu31 := Try.underlying31
  have hu33 := Try.underlying33
  have HB := Aside0.mk (Below.refl w.heap.size w)
  have H : ((monocoquelaw01_speaks.f k).bind fun t124 => (if t124 = true then ((monocoquelaw01_far.f k (([a0_0, a0_1, a1_0, a1_1, a2_0, a2_1] : List Int))).bind fun t128 => (sA.j0 k t128 a0_0 a0_1 a1_0 a1_1 a2_0 a2_1)) else (sA.j0 k true a0_0 a0_1 a1_0 a1_1 a2_0 a2_1))) = some r := h
  clear h
  have HC4 := Aside0.mk H
  clear H
  go_enter Try.func4, Try.ntmps4
  go_upto_region 1 with (first | ((with_reducible refine gate_dst (N := 3) rfl ?_); (try (refine gate_guard (by rfl) ?_; dsimp only)); refine box_event ?hg (N := 3) ?hd (cs := #[.int .i64 a0_0, .int .i64 a0_1]) (t := 31) ?hr ?_; (case hd => rfl); (case hg => rfl); (case hr => first | (go_simp; done) | (go_simp; rfl)); intro gb121 hg w5 hbox hb; have n0_ := Aside0.mk (below_step (by repeat (first | (with_reducible first | exact HB.out | apply eA | apply eN | apply eD) | exact HB.out)) hb); have n1_ := Aside0.mk (hbox); have n2_ := Aside0.mk ((by rw [hg]; exact (below_size (by repeat (first | (with_reducible first | exact HB.out | apply eA | apply eN | apply eD) | exact HB.out))) : w.heap.size ≤ gb121)); have n3_ := Aside0.mk ((by rw [hg]; exact (below_size (by repeat (first | (with_reducible first | exact HB.out | apply eA | apply eN | apply eD) | exact HB.out))) : w.heap.size ≤ gb121)); clear HB; have HB := n0_; have BK121 := n1_; have GW121 := n2_; have GE121 := n3_; clear n0_ n1_ n2_ n3_; clear hb hbox hg) | ((with_reducible refine gate_dst (N := 4) rfl ?_); (try (refine gate_guard (by rfl) ?_; dsimp only)); refine box_event ?hg (N := 4) ?hd (cs := #[.int .i64 a1_0, .int .i64 a1_1]) (t := 31) ?hr ?_; (case hd => rfl); (case hg => rfl); (case hr => first | (go_simp; done) | (go_simp; rfl)); intro gb122 hg w6 hbox hb; have n0_ := Aside0.mk (blk_below (by (with_reducible repeat first | apply bN | apply bD | apply bA); exact BK121.out) hb); have n1_ := Aside0.mk (below_step (by repeat (first | (with_reducible first | exact HB.out | apply eA | apply eN | apply eD | refine bS ?_ GE121.out) | exact HB.out)) hb); have n2_ := Aside0.mk (hbox); have n3_ := Aside0.mk ((by rw [hg]; exact (below_size (by repeat (first | (with_reducible first | exact HB.out | apply eA | apply eN | apply eD | refine bS ?_ GE121.out) | exact HB.out))) : w.heap.size ≤ gb122)); have n4_ := Aside0.mk ((by rw [hg]; exact (below_size (by repeat (first | (with_reducible first | exact HB.out | apply eA | apply eN | apply eD | refine bS ?_ GE121.out) | exact HB.out))) : w.heap.size ≤ gb122)); have n5_ := Aside0.mk ((by rw [hg]; exact Nat.ne_of_lt (blk_lt (g := gb121) (by (with_reducible repeat first | apply bN | apply bD | apply bA); exact BK121.out)) : gb121 ≠ gb122)); have n6_ := Aside0.mk ((by rw [hg]; exact Nat.ne_of_gt (blk_lt (g := gb121) (by (with_reducible repeat first | apply bN | apply bD | apply bA); exact BK121.out)) : gb122 ≠ gb121)); clear BK121; clear HB; have BK121 := n0_; have HB := n1_; have BK122 := n2_; have GW122 := n3_; have GE122 := n4_; have NB121_122 := n5_; have NB122_121 := n6_; clear n0_ n1_ n2_ n3_ n4_ n5_ n6_; clear hb hbox hg) | ((with_reducible refine gate_dst (N := 5) rfl ?_); (try (refine gate_guard (by rfl) ?_; dsimp only)); refine box_event ?hg (N := 5) ?hd (cs := #[.int .i64 a2_0, .int .i64 a2_1]) (t := 31) ?hr ?_; (case hd => rfl); (case hg => rfl); (case hr => first | (go_simp; done) | (go_simp; rfl)); intro gb123 hg w7 hbox hb; have n0_ := Aside0.mk (blk_below (by (with_reducible repeat first | apply bN | apply bD | apply bA); exact BK121.out) hb); have n1_ := Aside0.mk (blk_below (by (with_reducible repeat first | apply bN | apply bD | apply bA); exact BK122.out) hb); have n2_ := Aside0.mk (below_step (by repeat (first | (with_reducible first | exact HB.out | apply eA | apply eN | apply eD | refine bS ?_ GE121.out | refine bS ?_ GE122.out) | exact HB.out)) hb); have n3_ := Aside0.mk (hbox); have n4_ := Aside0.mk ((by rw [hg]; exact (below_size (by repeat (first | (with_reducible first | exact HB.out | apply eA | apply eN | apply eD | refine bS ?_ GE121.out | refine bS ?_ GE122.out) | exact HB.out))) : w.heap.size ≤ gb123)); have n5_ := Aside0.mk ((by rw [hg]; exact (below_size (by repeat (first | (with_reducible first | exact HB.out | apply eA | apply eN | apply eD | refine bS ?_ GE121.out | refine bS ?_ GE122.out) | exact HB.out))) : w.heap.size ≤ gb123)); have n6_ := Aside0.mk ((by rw [hg]; exact Nat.ne_of_lt (blk_lt (g := gb121) (by (with_reducible repeat first | apply bN | apply bD | apply bA); exact BK121.out)) : gb121 ≠ gb123)); have n7_ := Aside0.mk ((by rw [hg]; exact Nat.ne_of_gt (blk_lt (g := gb121) (by (with_reducible repeat first | apply bN | apply bD | apply bA); exact BK121.out)) : gb123 ≠ gb121)); have n8_ := Aside0.mk ((by rw [hg]; exact Nat.ne_of_lt (blk_lt (g := gb122) (by (with_reducible repeat first | apply bN | apply bD | apply bA); exact BK122.out)) : gb122 ≠ gb123)); have n9_ := Aside0.mk ((by rw [hg]; exact Nat.ne_of_gt (blk_lt (g := gb122) (by (with_reducible repeat first | apply bN | apply bD | apply bA); exact BK122.out)) : gb123 ≠ gb122)); clear BK121; clear BK122; clear HB; have BK121 := n0_; have BK122 := n1_; have HB := n2_; have BK123 := n3_; have GW123 := n4_; have GE123 := n5_; have NB121_123 := n6_; have NB123_121 := n7_; have NB122_123 := n8_; have NB123_122 := n9_; clear n0_ n1_ n2_ n3_ n4_ n5_ n6_ n7_ n8_ n9_; clear hb hbox hg))
  (try simp only [Act.put, lA, sZ, sC])
  go_cut [27] (fun v27 wc => ∃ (kq : Nat) (x27_3 : Bool), v27 = .bool x27_3 ∧ Aside0 (sA.j0 kq x27_3 a0_0 a0_1 a1_0 a1_1 a2_0 a2_1 = some r) ∧ Aside0 (kq ≤ k) ∧ Aside0 (wc.heap[gb121]? = some (.cells #[.int .i64 a0_0, .int .i64 a0_1] 31 (0, 0))) ∧ Aside0 (wc.heap[gb122]? = some (.cells #[.int .i64 a1_0, .int .i64 a1_1] 31 (0, 0))) ∧ Aside0 (wc.heap[gb123]? = some (.cells #[.int .i64 a2_0, .int .i64 a2_1] 31 (0, 0))) ∧ Aside0 (Below w.heap.size w wc))
  case first =>
    have H := HC4.out
    clear HC4
    replace H := Option.bind_eq_some_iff.mp H
    obtain ⟨t124, A80, H⟩ := H
    replace H : (if t124 = true then ((monocoquelaw01_far.f k (([a0_0, a0_1, a1_0, a1_1, a2_0, a2_1] : List Int))).bind fun t128 => (sA.j0 k t128 a0_0 a0_1 a1_0 a1_1 a2_0 a2_1)) else (sA.j0 k true a0_0 a0_1 a1_0 a1_1 a2_0 a2_1)) = some r := H
    have A8 := Aside0.mk A80
    clear A80
    by_cases c9 : t124 = true
    · subst c9
      have H1 : ((monocoquelaw01_far.f k (([a0_0, a0_1, a1_0, a1_1, a2_0, a2_1] : List Int))).bind fun t128 => (sA.j0 k t128 a0_0 a0_1 a1_0 a1_1 a2_0 a2_1)) = some r := by rw [if_pos rfl] at H; exact H
      clear H
      have H := H1
      clear H1
      obtain ⟨y125, hy125⟩ : ∃ y_ : List Int, y_ = (([a0_0, a0_1, a1_0, a1_1, a2_0, a2_1] : List Int)) := ⟨_, rfl⟩
      replace H : ((monocoquelaw01_far.f k y125).bind fun t128 => (sA.j0 k t128 a0_0 a0_1 a1_0 a1_1 a2_0 a2_1)) = some r := by first | (rw [hy125]; with_reducible exact H) | (have H2_ := (Option.bind_some _ _).symm.trans H; rw [hy125]; with_reducible exact H2_) | (have H2_ := (Option.bind_some _ _).symm.trans H; with_reducible exact H2_) | with_reducible exact H | (rw [hy125]; exact H) | exact H
      have Ny125 := Aside0.mk hy125
      clear hy125
      replace H := Option.bind_eq_some_iff.mp H
      obtain ⟨t128, A100, H⟩ := H
      replace H : (sA.j0 k t128 a0_0 a0_1 a1_0 a1_1 a2_0 a2_1) = some r := H
      have A10 := Aside0.mk A100
      clear A100
      have H' := Aside0.mk H
      clear H
      go_wp2_with (first | ((with_reducible refine gate_callee (f := 10) rfl ?_); refine goesL_ (some 10) rfl rfl Try.func10 (by kernel_rfl) rfl #[] rfl (by (try simp only [List.map_toArray, List.map_cons, List.map_nil]); first | done | rfl | (simp only [List.length_drop, List.length_take]; rfl)) ?_; (with_reducible refine (monocoquelaw01_speaks.calls k  true _ A8.out).mono ?_); rintro e w11 ⟨rfl, hb⟩; refine ⟨_, rfl, ?_⟩; have n0_ := Aside0.mk (blk_below (by (with_reducible repeat first | apply bN | apply bD | apply bA); exact BK121.out) hb); have n1_ := Aside0.mk (blk_below (by (with_reducible repeat first | apply bN | apply bD | apply bA); exact BK122.out) hb); have n2_ := Aside0.mk (blk_below (by (with_reducible repeat first | apply bN | apply bD | apply bA); exact BK123.out) hb); have n3_ := Aside0.mk (below_step (by repeat (first | (with_reducible first | exact HB.out | apply eA | apply eN | apply eD | refine bS ?_ GE121.out | refine bS ?_ GE122.out | refine bS ?_ GE123.out) | exact HB.out)) hb); clear BK121; clear BK122; clear BK123; clear HB; have BK121 := n0_; have BK122 := n1_; have BK123 := n2_; have HB := n3_; clear n0_ n1_ n2_ n3_; (try clear hb); (try clear hb2); (try clear hk); (try clear hi); have hnb12 := NB121_122.out; have hnc12 := NB122_121.out; have hnb13 := NB121_123.out; have hnc13 := NB123_121.out; have hcz14_0 : w11.cell? ⟨gb121, 0, none⟩ = some (.int .i64 a0_0) := (blk_cell BK121.out 0).trans rfl; have hcz14_1 : w11.cell? ⟨gb121, 1, none⟩ = some (.int .i64 a0_1) := (blk_cell BK121.out 1).trans rfl; have hfz14_0 := blk_frozen BK121.out 0; have hfz14_1 := blk_frozen BK121.out 1; have hnb15 := NB122_123.out; have hnc15 := NB123_122.out; have hcz16_0 : w11.cell? ⟨gb122, 0, none⟩ = some (.int .i64 a1_0) := (blk_cell BK122.out 0).trans rfl; have hcz16_1 : w11.cell? ⟨gb122, 1, none⟩ = some (.int .i64 a1_1) := (blk_cell BK122.out 1).trans rfl; have hfz16_0 := blk_frozen BK122.out 0; have hfz16_1 := blk_frozen BK122.out 1; have hcz17_0 : w11.cell? ⟨gb123, 0, none⟩ = some (.int .i64 a2_0) := (blk_cell BK123.out 0).trans rfl; have hcz17_1 : w11.cell? ⟨gb123, 1, none⟩ = some (.int .i64 a2_1) := (blk_cell BK123.out 1).trans rfl; have hfz17_0 := blk_frozen BK123.out 0; have hfz17_1 := blk_frozen BK123.out 1) | ((with_reducible refine gate_dst (N := 25) rfl ?_); (try (refine gate_guard (by rfl) ?_; dsimp only)); refine Kd.R_lit (Kd.int .i64) _ 3 ?hg (N := 25) ?hd (xs := ([a0_0, a0_1, a1_0, a1_1, a2_0, a2_1] : List Int)) (inner := [.int .i64 a0_0, .int .i64 a0_1, .int .i64 a1_0, .int .i64 a1_1, .int .i64 a2_0, .int .i64 a2_1]) (ok := fun _ => True) (okp := fun _ => True) ?hr ?hp (fun _ hk => hk) trivial (Below.refl _ _) (Nat.le_refl _) (by simp) ?_; (case hd => rfl); (case hg => rfl); (case hr => first | (go_simp; done) | (go_simp; rfl)); (case hp => exact (Reps.one (show Kd.M (Kd.int .i64) _ _ _ a0_0 [.int .i64 a0_0] from rfl) (Reps.one (show Kd.M (Kd.int .i64) _ _ _ a0_1 [.int .i64 a0_1] from rfl) (Reps.one (show Kd.M (Kd.int .i64) _ _ _ a1_0 [.int .i64 a1_0] from rfl) (Reps.one (show Kd.M (Kd.int .i64) _ _ _ a1_1 [.int .i64 a1_1] from rfl) (Reps.one (show Kd.M (Kd.int .i64) _ _ _ a2_0 [.int .i64 a2_0] from rfl) (Reps.one (show Kd.M (Kd.int .i64) _ _ _ a2_1 [.int .i64 a2_1] from rfl) (Reps.none _ _)))))))); intro v126 w18 ho19 hb hg_ hnew_; clear hg_ hnew_; (first | rw [← Ny125.out] at ho19 | (simp only [Int.reduceToNat] at ho19; rw [← Ny125.out] at ho19)); have n0_ := Aside0.mk (Kd.R_lower ho19 (below_size (by repeat (first | (with_reducible first | exact HB.out | apply eA | apply eN | apply eD | refine bS ?_ GE121.out | refine bS ?_ GE122.out | refine bS ?_ GE123.out) | exact HB.out)))); have n1_ := Aside0.mk (blk_below (by (with_reducible repeat first | apply bN | apply bD | apply bA); exact BK121.out) hb); have n2_ := Aside0.mk (blk_below (by (with_reducible repeat first | apply bN | apply bD | apply bA); exact BK122.out) hb); have n3_ := Aside0.mk (blk_below (by (with_reducible repeat first | apply bN | apply bD | apply bA); exact BK123.out) hb); have n4_ := Aside0.mk (below_step (by repeat (first | (with_reducible first | exact HB.out | apply eA | apply eN | apply eD | refine bS ?_ GE121.out | refine bS ?_ GE122.out | refine bS ?_ GE123.out) | exact HB.out)) hb); clear BK121; clear BK122; clear BK123; clear HB; have HO127 := n0_; have BK121 := n1_; have BK122 := n2_; have BK123 := n3_; have HB := n4_; clear n0_ n1_ n2_ n3_ n4_; clear hb ho19; obtain ⟨Ao20, co20, eo20⟩ := Kd.R_slice HO127.out; subst eo20) | (go_at_call 14; (with_reducible refine (monocoquelaw01_far.calls k _ _ y125 t128 _ ?side1 ?side2 A10.out).mono ?_); (case side1 => repeat (first | exact (Kd.R_reads' HO127.out).2.2 | (with_reducible refine Kd.C_alloc ?_ _) | (with_reducible refine Kd.C_drewN ?_ _) | (with_reducible refine Kd.C_drew ?_))); (case side2 => exact (Kd.R_reads' HO127.out).2.1); rintro e w' ⟨rfl, ⟨nd, rfl⟩⟩))
      go_meet
      case rel => exact ⟨_, (t128), (by first | rfl | (simp; done) | (simp [*]; done)), H', ⟨by first | omega | exact Nat.le_refl _⟩, ⟨by (with_reducible repeat first | apply bN | apply bD | apply bA); exact BK121.out⟩, ⟨by (with_reducible repeat first | apply bN | apply bD | apply bA); exact BK122.out⟩, ⟨by (with_reducible repeat first | apply bN | apply bD | apply bA); exact BK123.out⟩, ⟨by repeat (first | (with_reducible first | exact HB.out | apply eA | apply eN | apply eD | refine bS ?_ GE121.out | refine bS ?_ GE122.out | refine bS ?_ GE123.out) | exact HB.out)⟩⟩
    · replace c9 := Bool.eq_false_iff.mpr c9
      subst c9
      have H1 : (sA.j0 k true a0_0 a0_1 a1_0 a1_1 a2_0 a2_1) = some r := by rw [if_neg (show ¬ (false = true) by decide)] at H; exact H
      clear H
      have H := H1
      clear H1
      have H' := Aside0.mk H
      clear H
      go_wp2_with (first | ((with_reducible refine gate_callee (f := 10) rfl ?_); refine goesL_ (some 10) rfl rfl Try.func10 (by kernel_rfl) rfl #[] rfl (by (try simp only [List.map_toArray, List.map_cons, List.map_nil]); first | done | rfl | (simp only [List.length_drop, List.length_take]; rfl)) ?_; (with_reducible refine (monocoquelaw01_speaks.calls k  false _ A8.out).mono ?_); rintro e w21 ⟨rfl, hb⟩; refine ⟨_, rfl, ?_⟩; have n0_ := Aside0.mk (blk_below (by (with_reducible repeat first | apply bN | apply bD | apply bA); exact BK121.out) hb); have n1_ := Aside0.mk (blk_below (by (with_reducible repeat first | apply bN | apply bD | apply bA); exact BK122.out) hb); have n2_ := Aside0.mk (blk_below (by (with_reducible repeat first | apply bN | apply bD | apply bA); exact BK123.out) hb); have n3_ := Aside0.mk (below_step (by repeat (first | (with_reducible first | exact HB.out | apply eA | apply eN | apply eD | refine bS ?_ GE121.out | refine bS ?_ GE122.out | refine bS ?_ GE123.out) | exact HB.out)) hb); clear BK121; clear BK122; clear BK123; clear HB; have BK121 := n0_; have BK122 := n1_; have BK123 := n2_; have HB := n3_; clear n0_ n1_ n2_ n3_; (try clear hb); (try clear hb2); (try clear hk); (try clear hi)))
      go_meet
      case rel => exact ⟨_, (true), (by first | rfl | (simp; done) | (simp [*]; done)), H', ⟨by first | omega | exact Nat.le_refl _⟩, ⟨by (with_reducible repeat first | apply bN | apply bD | apply bA); exact BK121.out⟩, ⟨by (with_reducible repeat first | apply bN | apply bD | apply bA); exact BK122.out⟩, ⟨by (with_reducible repeat first | apply bN | apply bD | apply bA); exact BK123.out⟩, ⟨by repeat (first | (with_reducible first | exact HB.out | apply eA | apply eN | apply eD | refine bS ?_ GE121.out | refine bS ?_ GE122.out | refine bS ?_ GE123.out) | exact HB.out)⟩⟩
  case rest =>
    clear HC4
    try clear c1
    try clear p2
    try clear c4
    try clear c9
    try clear c10
    try clear c12
    try clear c13
    try clear c15
    try clear hcz14_0
    try clear hcz14_1
    try clear hcz16_0
    try clear hcz16_1
    try clear hcz17_0
    try clear hcz17_1
    try clear hfz14_0
    try clear hfz14_1
    try clear hfz16_0
    try clear hfz16_1
    try clear hfz17_0
    try clear hfz17_1
    obtain ⟨kq, x27_3, rfl, HA, HJ3, BK121, BK122, BK123, HB⟩ := hcut
    cases kq with
    | zero => exact absurd HA.out (by simp [sA.j0])
    | succ kj3 =>
      have H := HA.out
      clear HA
      simp only [sA.j0] at H
      by_cases c22 : x27_3 = true
      · subst c22
        have H1 : ((monocoquelaw01_speaks.f kj3).bind fun t129 => (some t129)) = some r := by rw [if_pos rfl] at H; exact H
        clear H
        have H := H1
        clear H1
        replace H := Option.bind_eq_some_iff.mp H
        obtain ⟨t129, A230, H⟩ := H
        replace H : (some t129) = some r := H
        have A23 := Aside0.mk A230
        clear A230
        obtain rfl := Option.some.inj H
        go_wp2_with (first | ((with_reducible refine gate_callee (f := 10) rfl ?_); refine goesL_ (some 28) rfl rfl Try.func10 (by kernel_rfl) rfl #[] rfl (by (try simp only [List.map_toArray, List.map_cons, List.map_nil]); first | done | rfl | (simp only [List.length_drop, List.length_take]; rfl)) ?_; (with_reducible refine (monocoquelaw01_speaks.calls kj3  t129 _ A23.out).mono ?_); rintro e w24 ⟨rfl, hb⟩; refine ⟨_, rfl, ?_⟩; have n0_ := Aside0.mk (blk_below (by (with_reducible repeat first | apply bN | apply bD | apply bA); exact BK121.out) hb); have n1_ := Aside0.mk (blk_below (by (with_reducible repeat first | apply bN | apply bD | apply bA); exact BK122.out) hb); have n2_ := Aside0.mk (blk_below (by (with_reducible repeat first | apply bN | apply bD | apply bA); exact BK123.out) hb); have n3_ := Aside0.mk (below_step (by repeat (first | (with_reducible first | exact HB.out | apply eA | apply eN | apply eD | refine bS ?_ GE121.out | refine bS ?_ GE122.out | refine bS ?_ GE123.out) | exact HB.out)) hb); clear BK121; clear BK122; clear BK123; clear HB; have BK121 := n0_; have BK122 := n1_; have BK123 := n2_; have HB := n3_; clear n0_ n1_ n2_ n3_; (try clear hb); (try clear hb2); (try clear hk); (try clear hi)))
        go_ret
        exact ⟨by first | rfl | (simp [errW_none, errW_some] <;> rfl) | (simp [*, errW_none, errW_some] <;> rfl), by repeat (first | (with_reducible first | exact HB.out | apply eA | apply eN | apply eD | refine bS ?_ GE121.out | refine bS ?_ GE122.out | refine bS ?_ GE123.out) | exact HB.out)⟩
      · replace c22 := Bool.eq_false_iff.mpr c22
        subst c22
        have H1 : ((span_Span_And.f a0_0 a0_1 a1_0 a1_1).bind fun bt133 => ((span_Span_And.f a1_0 a1_1 a0_0 a0_1).bind fun bt135 => (if (!(bt133.1 == bt135.1) || (!(bt133.2 == bt135.2))) = true then (sA.j1 kj3 true a0_0 a0_1 a1_0 a1_1 a2_0 a2_1) else ((span_Span_And.f a0_0 a0_1 a1_0 a1_1).bind fun bt137 => ((span_Span_Len.f bt137.1 bt137.2).bind fun t139 => ((span_Span_Len.f a0_0 a0_1).bind fun t140 => ((span_Span_Len.f a1_0 a1_1).bind fun t141 => (if t139 > (mn t140 t141) then (sA.j1 kj3 true a0_0 a0_1 a1_0 a1_1 a2_0 a2_1) else ((span_Span_And.f a0_0 a0_1 a0_0 a0_1).bind fun bt142 => ((span_Span_Len.f bt142.1 bt142.2).bind fun t144 => ((span_Span_Len.f a0_0 a0_1).bind fun t145 => (sA.j1 kj3 (t144 != t145) a0_0 a0_1 a1_0 a1_1 a2_0 a2_1)))))))))))) = some r := by rw [if_neg (show ¬ (false = true) by decide)] at H; exact H
        clear H
        have H := H1
        clear H1
        have HC25 := Aside0.mk H
        clear H
        try go_wp2
        have n0_ := Aside0.mk (blk_drew BK121.out)
        have n1_ := Aside0.mk (blk_drew BK122.out)
        have n2_ := Aside0.mk (blk_drew BK123.out)
        have n3_ := Aside0.mk (below_drew1 HB.out)
        clear BK121
        clear BK122
        clear BK123
        clear HB
        have BK121 := n0_
        have BK122 := n1_
        have BK123 := n2_
        have HB := n3_
        clear n0_ n1_ n2_ n3_
        refine start_ (n := 9) (S := fun w' => w'.cell? ⟨gb121, 0, none⟩ = some (.int .i64 a0_0) ∧ w'.cell? ⟨gb121, 1, none⟩ = some (.int .i64 a0_1) ∧ w'.cell? ⟨gb122, 0, none⟩ = some (.int .i64 a1_0) ∧ w'.cell? ⟨gb122, 1, none⟩ = some (.int .i64 a1_1) ∧ w'.cell? ⟨gb123, 0, none⟩ = some (.int .i64 a2_0) ∧ w'.cell? ⟨gb123, 1, none⟩ = some (.int .i64 a2_1)) (ds := []) #[ff, ff, ff, ff, ff, ff, ff, ff, ff] (by kernel_rfl) rfl rfl ⟨(blk_cell BK121.out 0).trans rfl, (blk_cell BK121.out 1).trans rfl, (blk_cell BK122.out 0).trans rfl, (blk_cell BK122.out 1).trans rfl, (blk_cell BK123.out 0).trans rfl, (blk_cell BK123.out 1).trans rfl⟩ (fun hHeld => ?_); refine with_tabW sA.tab3 sA.bits3 (fun HT_ HW_ => ?_)
        generalize wc.drew = w26 at BK121 BK122 BK123 HB hHeld ⊢
        refine take_ (i := 0) (N := some 29) (v := ?_) (a' := ?_) #[tt, ff, ff, ff, ff, ff, ff, ff, ff] rfl rfl (take_ofW HT_.out HW_.out (by kernel_rfl)) (fun _ _ _ h => h) (Or.inl ⟨by rfl, ?_⟩) hHeld ?_ ?_
        rotate_left
        · rintro w' ⟨s0, s1, s2, s3, s4, s5⟩
          go_simp
          with_reducible rfl
        rotate_left
        · simp only [Act.put, lA, sZ, sC, i64_w, i32_w]
          rfl
        refine take_ (i := 1) (N := some 30) (v := ?_) (a' := ?_) #[tt, tt, ff, ff, ff, ff, ff, ff, ff] rfl rfl (take_ofW HT_.out HW_.out (by kernel_rfl)) (fun _ _ _ h => h) (Or.inl ⟨by rfl, ?_⟩) hHeld ?_ ?_
        rotate_left
        · rintro w' ⟨s0, s1, s2, s3, s4, s5⟩
          go_simp
          with_reducible rfl
        rotate_left
        · simp only [Act.put, lA, sZ, sC, i64_w, i32_w]
          rfl
        refine take_ (i := 2) (N := some 31) (v := ?_) (a' := ?_) #[tt, tt, tt, ff, ff, ff, ff, ff, ff] rfl rfl (take_ofW HT_.out HW_.out (by kernel_rfl)) (fun _ _ _ h => h) (Or.inl ⟨by rfl, ?_⟩) hHeld ?_ ?_
        rotate_left
        · rintro w' ⟨s0, s1, s2, s3, s4, s5⟩
          go_simp
          with_reducible rfl
        rotate_left
        · simp only [Act.put, lA, sZ, sC, i64_w, i32_w]
          rfl
        refine join_ (σ := Nat × Nat × Nat) 3 #[tt, tt, tt, tt, tt, tt, ff, ff, ff] (fun s_ => [(7, .pointer (some ⟨s_.1, 0, none⟩)), (8, .pointer (some ⟨s_.2.1, 0, none⟩)), (9, .pointer (some ⟨s_.2.2, 0, none⟩))]) (fun s_ w' => (w'.cell? ⟨gb121, 0, none⟩ = some (.int .i64 a0_0) ∧ w'.cell? ⟨gb121, 1, none⟩ = some (.int .i64 a0_1) ∧ w'.cell? ⟨gb122, 0, none⟩ = some (.int .i64 a1_0) ∧ w'.cell? ⟨gb122, 1, none⟩ = some (.int .i64 a1_1) ∧ w'.cell? ⟨gb123, 0, none⟩ = some (.int .i64 a2_0) ∧ w'.cell? ⟨gb123, 1, none⟩ = some (.int .i64 a2_1)) ∧ (w'.heap[gb121]? = some (.cells #[.int .i64 a0_0, .int .i64 a0_1] 31 (0, 0))) ∧ (w'.heap[gb122]? = some (.cells #[.int .i64 a1_0, .int .i64 a1_1] 31 (0, 0))) ∧ (w'.heap[gb123]? = some (.cells #[.int .i64 a2_0, .int .i64 a2_1] 31 (0, 0))) ∧ (w'.heap[s_.1]? = some (.cells #[.int .i64 0, .int .i64 0] 33 (0, 0))) ∧ (w'.heap[s_.2.1]? = some (.cells #[.int .i64 0, .int .i64 0] 33 (0, 0))) ∧ (w'.heap[s_.2.2]? = some (.cells #[.int .i64 0, .int .i64 0] 33 (0, 0))) ∧ (w.heap.size ≤ s_.1) ∧ (w.heap.size ≤ s_.1) ∧ (gb121 ≠ s_.1) ∧ (s_.1 ≠ gb121) ∧ (gb122 ≠ s_.1) ∧ (s_.1 ≠ gb122) ∧ (gb123 ≠ s_.1) ∧ (s_.1 ≠ gb123) ∧ (s_.2.1 ≠ s_.1) ∧ (s_.1 ≠ s_.2.1) ∧ (s_.2.2 ≠ s_.1) ∧ (s_.1 ≠ s_.2.2) ∧ (w.heap.size ≤ s_.2.1) ∧ (w.heap.size ≤ s_.2.1) ∧ (gb121 ≠ s_.2.1) ∧ (s_.2.1 ≠ gb121) ∧ (gb122 ≠ s_.2.1) ∧ (s_.2.1 ≠ gb122) ∧ (gb123 ≠ s_.2.1) ∧ (s_.2.1 ≠ gb123) ∧ (s_.2.2 ≠ s_.2.1) ∧ (s_.2.1 ≠ s_.2.2) ∧ (w.heap.size ≤ s_.2.2) ∧ (w.heap.size ≤ s_.2.2) ∧ (gb121 ≠ s_.2.2) ∧ (s_.2.2 ≠ gb121) ∧ (gb122 ≠ s_.2.2) ∧ (s_.2.2 ≠ gb122) ∧ (gb123 ≠ s_.2.2) ∧ (s_.2.2 ≠ gb123) ∧ (Below w.heap.size w w')) ?_ ?_
        rotate_left
        · intro hJ3_4_5
          refine join_ (σ := Nat × Nat) 4 #[tt, tt, tt, tt, tt, ff, ff, ff, ff] (fun s_ => [(7, .pointer (some ⟨s_.1, 0, none⟩)), (8, .pointer (some ⟨s_.2, 0, none⟩))]) (fun s_ w' => (w'.cell? ⟨gb121, 0, none⟩ = some (.int .i64 a0_0) ∧ w'.cell? ⟨gb121, 1, none⟩ = some (.int .i64 a0_1) ∧ w'.cell? ⟨gb122, 0, none⟩ = some (.int .i64 a1_0) ∧ w'.cell? ⟨gb122, 1, none⟩ = some (.int .i64 a1_1) ∧ w'.cell? ⟨gb123, 0, none⟩ = some (.int .i64 a2_0) ∧ w'.cell? ⟨gb123, 1, none⟩ = some (.int .i64 a2_1)) ∧ (w'.heap[gb121]? = some (.cells #[.int .i64 a0_0, .int .i64 a0_1] 31 (0, 0))) ∧ (w'.heap[gb122]? = some (.cells #[.int .i64 a1_0, .int .i64 a1_1] 31 (0, 0))) ∧ (w'.heap[gb123]? = some (.cells #[.int .i64 a2_0, .int .i64 a2_1] 31 (0, 0))) ∧ (w'.heap[s_.1]? = some (.cells #[.int .i64 0, .int .i64 0] 33 (0, 0))) ∧ (w'.heap[s_.2]? = some (.cells #[.int .i64 0, .int .i64 0] 33 (0, 0))) ∧ (w.heap.size ≤ s_.1) ∧ (w.heap.size ≤ s_.1) ∧ (gb121 ≠ s_.1) ∧ (s_.1 ≠ gb121) ∧ (gb122 ≠ s_.1) ∧ (s_.1 ≠ gb122) ∧ (gb123 ≠ s_.1) ∧ (s_.1 ≠ gb123) ∧ (s_.2 ≠ s_.1) ∧ (s_.1 ≠ s_.2) ∧ (w.heap.size ≤ s_.2) ∧ (w.heap.size ≤ s_.2) ∧ (gb121 ≠ s_.2) ∧ (s_.2 ≠ gb121) ∧ (gb122 ≠ s_.2) ∧ (s_.2 ≠ gb122) ∧ (gb123 ≠ s_.2) ∧ (s_.2 ≠ gb123) ∧ (Below w.heap.size w w')) ?_ ?_
          rotate_left
          · intro hJ3_4
            refine join_ (σ := Nat × Nat) 4 #[tt, tt, tt, tt, ff, tt, ff, ff, ff] (fun s_ => [(7, .pointer (some ⟨s_.1, 0, none⟩)), (9, .pointer (some ⟨s_.2, 0, none⟩))]) (fun s_ w' => (w'.cell? ⟨gb121, 0, none⟩ = some (.int .i64 a0_0) ∧ w'.cell? ⟨gb121, 1, none⟩ = some (.int .i64 a0_1) ∧ w'.cell? ⟨gb122, 0, none⟩ = some (.int .i64 a1_0) ∧ w'.cell? ⟨gb122, 1, none⟩ = some (.int .i64 a1_1) ∧ w'.cell? ⟨gb123, 0, none⟩ = some (.int .i64 a2_0) ∧ w'.cell? ⟨gb123, 1, none⟩ = some (.int .i64 a2_1)) ∧ (w'.heap[gb121]? = some (.cells #[.int .i64 a0_0, .int .i64 a0_1] 31 (0, 0))) ∧ (w'.heap[gb122]? = some (.cells #[.int .i64 a1_0, .int .i64 a1_1] 31 (0, 0))) ∧ (w'.heap[gb123]? = some (.cells #[.int .i64 a2_0, .int .i64 a2_1] 31 (0, 0))) ∧ (w'.heap[s_.1]? = some (.cells #[.int .i64 0, .int .i64 0] 33 (0, 0))) ∧ (w'.heap[s_.2]? = some (.cells #[.int .i64 0, .int .i64 0] 33 (0, 0))) ∧ (w.heap.size ≤ s_.1) ∧ (w.heap.size ≤ s_.1) ∧ (gb121 ≠ s_.1) ∧ (s_.1 ≠ gb121) ∧ (gb122 ≠ s_.1) ∧ (s_.1 ≠ gb122) ∧ (gb123 ≠ s_.1) ∧ (s_.1 ≠ gb123) ∧ (s_.2 ≠ s_.1) ∧ (s_.1 ≠ s_.2) ∧ (w.heap.size ≤ s_.2) ∧ (w.heap.size ≤ s_.2) ∧ (gb121 ≠ s_.2) ∧ (s_.2 ≠ gb121) ∧ (gb122 ≠ s_.2) ∧ (s_.2 ≠ gb122) ∧ (gb123 ≠ s_.2) ∧ (s_.2 ≠ gb123) ∧ (Below w.heap.size w w')) ?_ ?_
            rotate_left
            · intro hJ3_5
              refine join_ (σ := Nat × Nat) 4 #[tt, tt, tt, ff, tt, tt, ff, ff, ff] (fun s_ => [(8, .pointer (some ⟨s_.1, 0, none⟩)), (9, .pointer (some ⟨s_.2, 0, none⟩))]) (fun s_ w' => (w'.cell? ⟨gb121, 0, none⟩ = some (.int .i64 a0_0) ∧ w'.cell? ⟨gb121, 1, none⟩ = some (.int .i64 a0_1) ∧ w'.cell? ⟨gb122, 0, none⟩ = some (.int .i64 a1_0) ∧ w'.cell? ⟨gb122, 1, none⟩ = some (.int .i64 a1_1) ∧ w'.cell? ⟨gb123, 0, none⟩ = some (.int .i64 a2_0) ∧ w'.cell? ⟨gb123, 1, none⟩ = some (.int .i64 a2_1)) ∧ (w'.heap[gb121]? = some (.cells #[.int .i64 a0_0, .int .i64 a0_1] 31 (0, 0))) ∧ (w'.heap[gb122]? = some (.cells #[.int .i64 a1_0, .int .i64 a1_1] 31 (0, 0))) ∧ (w'.heap[gb123]? = some (.cells #[.int .i64 a2_0, .int .i64 a2_1] 31 (0, 0))) ∧ (w'.heap[s_.1]? = some (.cells #[.int .i64 0, .int .i64 0] 33 (0, 0))) ∧ (w'.heap[s_.2]? = some (.cells #[.int .i64 0, .int .i64 0] 33 (0, 0))) ∧ (w.heap.size ≤ s_.1) ∧ (w.heap.size ≤ s_.1) ∧ (gb121 ≠ s_.1) ∧ (s_.1 ≠ gb121) ∧ (gb122 ≠ s_.1) ∧ (s_.1 ≠ gb122) ∧ (gb123 ≠ s_.1) ∧ (s_.1 ≠ gb123) ∧ (s_.2 ≠ s_.1) ∧ (s_.1 ≠ s_.2) ∧ (w.heap.size ≤ s_.2) ∧ (w.heap.size ≤ s_.2) ∧ (gb121 ≠ s_.2) ∧ (s_.2 ≠ gb121) ∧ (gb122 ≠ s_.2) ∧ (s_.2 ≠ gb122) ∧ (gb123 ≠ s_.2) ∧ (s_.2 ≠ gb123) ∧ (Below w.heap.size w w')) ?_ ?_
              rotate_left
              · intro hJ4_5
                refine join_ (σ := Nat) 5 #[tt, tt, tt, tt, ff, ff, ff, ff, ff] (fun s_ => [(7, .pointer (some ⟨s_, 0, none⟩))]) (fun s_ w' => (w'.cell? ⟨gb121, 0, none⟩ = some (.int .i64 a0_0) ∧ w'.cell? ⟨gb121, 1, none⟩ = some (.int .i64 a0_1) ∧ w'.cell? ⟨gb122, 0, none⟩ = some (.int .i64 a1_0) ∧ w'.cell? ⟨gb122, 1, none⟩ = some (.int .i64 a1_1) ∧ w'.cell? ⟨gb123, 0, none⟩ = some (.int .i64 a2_0) ∧ w'.cell? ⟨gb123, 1, none⟩ = some (.int .i64 a2_1)) ∧ (w'.heap[gb121]? = some (.cells #[.int .i64 a0_0, .int .i64 a0_1] 31 (0, 0))) ∧ (w'.heap[gb122]? = some (.cells #[.int .i64 a1_0, .int .i64 a1_1] 31 (0, 0))) ∧ (w'.heap[gb123]? = some (.cells #[.int .i64 a2_0, .int .i64 a2_1] 31 (0, 0))) ∧ (w'.heap[s_]? = some (.cells #[.int .i64 0, .int .i64 0] 33 (0, 0))) ∧ (w.heap.size ≤ s_) ∧ (w.heap.size ≤ s_) ∧ (gb121 ≠ s_) ∧ (s_ ≠ gb121) ∧ (gb122 ≠ s_) ∧ (s_ ≠ gb122) ∧ (gb123 ≠ s_) ∧ (s_ ≠ gb123) ∧ (Below w.heap.size w w')) ?_ ?_
                rotate_left
                · intro hJ3
                  refine join_ (σ := Nat) 5 #[tt, tt, tt, ff, tt, ff, ff, ff, ff] (fun s_ => [(8, .pointer (some ⟨s_, 0, none⟩))]) (fun s_ w' => (w'.cell? ⟨gb121, 0, none⟩ = some (.int .i64 a0_0) ∧ w'.cell? ⟨gb121, 1, none⟩ = some (.int .i64 a0_1) ∧ w'.cell? ⟨gb122, 0, none⟩ = some (.int .i64 a1_0) ∧ w'.cell? ⟨gb122, 1, none⟩ = some (.int .i64 a1_1) ∧ w'.cell? ⟨gb123, 0, none⟩ = some (.int .i64 a2_0) ∧ w'.cell? ⟨gb123, 1, none⟩ = some (.int .i64 a2_1)) ∧ (w'.heap[gb121]? = some (.cells #[.int .i64 a0_0, .int .i64 a0_1] 31 (0, 0))) ∧ (w'.heap[gb122]? = some (.cells #[.int .i64 a1_0, .int .i64 a1_1] 31 (0, 0))) ∧ (w'.heap[gb123]? = some (.cells #[.int .i64 a2_0, .int .i64 a2_1] 31 (0, 0))) ∧ (w'.heap[s_]? = some (.cells #[.int .i64 0, .int .i64 0] 33 (0, 0))) ∧ (w.heap.size ≤ s_) ∧ (w.heap.size ≤ s_) ∧ (gb121 ≠ s_) ∧ (s_ ≠ gb121) ∧ (gb122 ≠ s_) ∧ (s_ ≠ gb122) ∧ (gb123 ≠ s_) ∧ (s_ ≠ gb123) ∧ (Below w.heap.size w w')) ?_ ?_
                  rotate_left
                  · intro hJ4
                    refine join_ (σ := Nat) 5 #[tt, tt, tt, ff, ff, tt, ff, ff, ff] (fun s_ => [(9, .pointer (some ⟨s_, 0, none⟩))]) (fun s_ w' => (w'.cell? ⟨gb121, 0, none⟩ = some (.int .i64 a0_0) ∧ w'.cell? ⟨gb121, 1, none⟩ = some (.int .i64 a0_1) ∧ w'.cell? ⟨gb122, 0, none⟩ = some (.int .i64 a1_0) ∧ w'.cell? ⟨gb122, 1, none⟩ = some (.int .i64 a1_1) ∧ w'.cell? ⟨gb123, 0, none⟩ = some (.int .i64 a2_0) ∧ w'.cell? ⟨gb123, 1, none⟩ = some (.int .i64 a2_1)) ∧ (w'.heap[gb121]? = some (.cells #[.int .i64 a0_0, .int .i64 a0_1] 31 (0, 0))) ∧ (w'.heap[gb122]? = some (.cells #[.int .i64 a1_0, .int .i64 a1_1] 31 (0, 0))) ∧ (w'.heap[gb123]? = some (.cells #[.int .i64 a2_0, .int .i64 a2_1] 31 (0, 0))) ∧ (w'.heap[s_]? = some (.cells #[.int .i64 0, .int .i64 0] 33 (0, 0))) ∧ (w.heap.size ≤ s_) ∧ (w.heap.size ≤ s_) ∧ (gb121 ≠ s_) ∧ (s_ ≠ gb121) ∧ (gb122 ≠ s_) ∧ (s_ ≠ gb122) ∧ (gb123 ≠ s_) ∧ (s_ ≠ gb123) ∧ (Below w.heap.size w w')) ?_ ?_
                    rotate_left
                    · intro hJ5
                      refine three_ (i := 3) (j := 4) (k := 5) (Ni := some 7) (Nj := some 8) (Nk := some 9) #[tt, tt, tt, tt, ff, ff, ff, ff, ff] #[tt, tt, tt, ff, tt, ff, ff, ff, ff] #[tt, tt, tt, ff, ff, tt, ff, ff, ff] rfl rfl rfl rfl rfl rfl (three_of HT_.out (by kernel_rfl)) (by decide) (by decide) (by decide) (fun K hK => ?_) (fun K hK => ?_) (fun K hK => ?_)
                      · skip
                        refine box_step ?hg (N := 7) ?hd (cs := #[.int .i64 0, .int .i64 0]) (t := 33) ?hr ?_; (case hd => rfl); (case hg => rfl); (case hr => first | (go_simp; done) | (go_simp; rfl))
                        intro gb130 hg w27 hbox hb
                        have n0_ := Aside0.mk (blk_below (by (with_reducible repeat first | apply bN | apply bD | apply bA); exact BK121.out) hb)
                        have n1_ := Aside0.mk (blk_below (by (with_reducible repeat first | apply bN | apply bD | apply bA); exact BK122.out) hb)
                        have n2_ := Aside0.mk (blk_below (by (with_reducible repeat first | apply bN | apply bD | apply bA); exact BK123.out) hb)
                        have n3_ := Aside0.mk (below_step (by repeat (first | (with_reducible first | exact HB.out | apply eA | apply eN | apply eD | refine bS ?_ GE121.out | refine bS ?_ GE122.out | refine bS ?_ GE123.out) | exact HB.out)) hb)
                        have n4_ := Aside0.mk (hbox)
                        have n5_ := Aside0.mk ((by rw [hg]; exact (below_size (by repeat (first | (with_reducible first | exact HB.out | apply eA | apply eN | apply eD | refine bS ?_ GE121.out | refine bS ?_ GE122.out | refine bS ?_ GE123.out) | exact HB.out))) : w.heap.size ≤ gb130))
                        have n6_ := Aside0.mk ((by rw [hg]; exact (below_size (by repeat (first | (with_reducible first | exact HB.out | apply eA | apply eN | apply eD | refine bS ?_ GE121.out | refine bS ?_ GE122.out | refine bS ?_ GE123.out) | exact HB.out))) : w.heap.size ≤ gb130))
                        have n7_ := Aside0.mk ((by rw [hg]; exact Nat.ne_of_lt (blk_lt (g := gb121) (by (with_reducible repeat first | apply bN | apply bD | apply bA); exact BK121.out)) : gb121 ≠ gb130))
                        have n8_ := Aside0.mk ((by rw [hg]; exact Nat.ne_of_gt (blk_lt (g := gb121) (by (with_reducible repeat first | apply bN | apply bD | apply bA); exact BK121.out)) : gb130 ≠ gb121))
                        have n9_ := Aside0.mk ((by rw [hg]; exact Nat.ne_of_lt (blk_lt (g := gb122) (by (with_reducible repeat first | apply bN | apply bD | apply bA); exact BK122.out)) : gb122 ≠ gb130))
                        have n10_ := Aside0.mk ((by rw [hg]; exact Nat.ne_of_gt (blk_lt (g := gb122) (by (with_reducible repeat first | apply bN | apply bD | apply bA); exact BK122.out)) : gb130 ≠ gb122))
                        have n11_ := Aside0.mk ((by rw [hg]; exact Nat.ne_of_lt (blk_lt (g := gb123) (by (with_reducible repeat first | apply bN | apply bD | apply bA); exact BK123.out)) : gb123 ≠ gb130))
                        have n12_ := Aside0.mk ((by rw [hg]; exact Nat.ne_of_gt (blk_lt (g := gb123) (by (with_reducible repeat first | apply bN | apply bD | apply bA); exact BK123.out)) : gb130 ≠ gb123))
                        clear BK121
                        clear BK122
                        clear BK123
                        clear HB
                        have BK121 := n0_
                        have BK122 := n1_
                        have BK123 := n2_
                        have HB := n3_
                        have BK130 := n4_
                        have GW130 := n5_
                        have GE130 := n6_
                        have NB121_130 := n7_
                        have NB130_121 := n8_
                        have NB122_130 := n9_
                        have NB130_122 := n10_
                        have NB123_130 := n11_
                        have NB130_123 := n12_
                        clear n0_ n1_ n2_ n3_ n4_ n5_ n6_ n7_ n8_ n9_ n10_ n11_ n12_
                        clear hb hbox hg
                        refine hK.out _ _ ⟨(blk_cell BK121.out 0).trans rfl, (blk_cell BK121.out 1).trans rfl, (blk_cell BK122.out 0).trans rfl, (blk_cell BK122.out 1).trans rfl, (blk_cell BK123.out 0).trans rfl, (blk_cell BK123.out 1).trans rfl⟩ (fun hHeld => ?_)
                        clear hK K
                        refine norm_ (a' := ?_) ?_ ?_
                        rotate_left
                        · show Act.put _ (some 7) _ = _
                          simp only [Act.put, lA, sZ, sC, i64_w, i32_w]
                          rfl
                        exact norm_ (by first | (simp only [putAll, Act.put, lA, sZ, sC]; done) | (simp only [putAll, Act.put, lA, sZ, sC]; rfl)) (hJ3 (gb130) _ ⟨hHeld, (by (with_reducible repeat first | apply bN | apply bD | apply bA); exact BK121.out), (by (with_reducible repeat first | apply bN | apply bD | apply bA); exact BK122.out), (by (with_reducible repeat first | apply bN | apply bD | apply bA); exact BK123.out), (by (with_reducible repeat first | apply bN | apply bD | apply bA); exact BK130.out), GW130.out, GE130.out, NB121_130.out, NB130_121.out, NB122_130.out, NB130_122.out, NB123_130.out, NB130_123.out, (by repeat (first | (with_reducible first | exact HB.out | apply eA | apply eN | apply eD | refine bS ?_ GE121.out | refine bS ?_ GE122.out | refine bS ?_ GE123.out | refine bS ?_ GE130.out) | exact HB.out))⟩)
                      · skip
                        refine box_step ?hg (N := 8) ?hd (cs := #[.int .i64 0, .int .i64 0]) (t := 33) ?hr ?_; (case hd => rfl); (case hg => rfl); (case hr => first | (go_simp; done) | (go_simp; rfl))
                        intro gb131 hg w27 hbox hb
                        have n0_ := Aside0.mk (blk_below (by (with_reducible repeat first | apply bN | apply bD | apply bA); exact BK121.out) hb)
                        have n1_ := Aside0.mk (blk_below (by (with_reducible repeat first | apply bN | apply bD | apply bA); exact BK122.out) hb)
                        have n2_ := Aside0.mk (blk_below (by (with_reducible repeat first | apply bN | apply bD | apply bA); exact BK123.out) hb)
                        have n3_ := Aside0.mk (below_step (by repeat (first | (with_reducible first | exact HB.out | apply eA | apply eN | apply eD | refine bS ?_ GE121.out | refine bS ?_ GE122.out | refine bS ?_ GE123.out) | exact HB.out)) hb)
                        have n4_ := Aside0.mk (hbox)
                        have n5_ := Aside0.mk ((by rw [hg]; exact (below_size (by repeat (first | (with_reducible first | exact HB.out | apply eA | apply eN | apply eD | refine bS ?_ GE121.out | refine bS ?_ GE122.out | refine bS ?_ GE123.out) | exact HB.out))) : w.heap.size ≤ gb131))
                        have n6_ := Aside0.mk ((by rw [hg]; exact (below_size (by repeat (first | (with_reducible first | exact HB.out | apply eA | apply eN | apply eD | refine bS ?_ GE121.out | refine bS ?_ GE122.out | refine bS ?_ GE123.out) | exact HB.out))) : w.heap.size ≤ gb131))
                        have n7_ := Aside0.mk ((by rw [hg]; exact Nat.ne_of_lt (blk_lt (g := gb121) (by (with_reducible repeat first | apply bN | apply bD | apply bA); exact BK121.out)) : gb121 ≠ gb131))
                        have n8_ := Aside0.mk ((by rw [hg]; exact Nat.ne_of_gt (blk_lt (g := gb121) (by (with_reducible repeat first | apply bN | apply bD | apply bA); exact BK121.out)) : gb131 ≠ gb121))
                        have n9_ := Aside0.mk ((by rw [hg]; exact Nat.ne_of_lt (blk_lt (g := gb122) (by (with_reducible repeat first | apply bN | apply bD | apply bA); exact BK122.out)) : gb122 ≠ gb131))
                        have n10_ := Aside0.mk ((by rw [hg]; exact Nat.ne_of_gt (blk_lt (g := gb122) (by (with_reducible repeat first | apply bN | apply bD | apply bA); exact BK122.out)) : gb131 ≠ gb122))
                        have n11_ := Aside0.mk ((by rw [hg]; exact Nat.ne_of_lt (blk_lt (g := gb123) (by (with_reducible repeat first | apply bN | apply bD | apply bA); exact BK123.out)) : gb123 ≠ gb131))
                        have n12_ := Aside0.mk ((by rw [hg]; exact Nat.ne_of_gt (blk_lt (g := gb123) (by (with_reducible repeat first | apply bN | apply bD | apply bA); exact BK123.out)) : gb131 ≠ gb123))
                        clear BK121
                        clear BK122
                        clear BK123
                        clear HB
                        have BK121 := n0_
                        have BK122 := n1_
                        have BK123 := n2_
                        have HB := n3_
                        have BK131 := n4_
                        have GW131 := n5_
                        have GE131 := n6_
                        have NB121_131 := n7_
                        have NB131_121 := n8_
                        have NB122_131 := n9_
                        have NB131_122 := n10_
                        have NB123_131 := n11_
                        have NB131_123 := n12_
                        clear n0_ n1_ n2_ n3_ n4_ n5_ n6_ n7_ n8_ n9_ n10_ n11_ n12_
                        clear hb hbox hg
                        refine hK.out _ _ ⟨(blk_cell BK121.out 0).trans rfl, (blk_cell BK121.out 1).trans rfl, (blk_cell BK122.out 0).trans rfl, (blk_cell BK122.out 1).trans rfl, (blk_cell BK123.out 0).trans rfl, (blk_cell BK123.out 1).trans rfl⟩ (fun hHeld => ?_)
                        clear hK K
                        refine norm_ (a' := ?_) ?_ ?_
                        rotate_left
                        · show Act.put _ (some 8) _ = _
                          simp only [Act.put, lA, sZ, sC, i64_w, i32_w]
                          rfl
                        exact norm_ (by first | (simp only [putAll, Act.put, lA, sZ, sC]; done) | (simp only [putAll, Act.put, lA, sZ, sC]; rfl)) (hJ4 (gb131) _ ⟨hHeld, (by (with_reducible repeat first | apply bN | apply bD | apply bA); exact BK121.out), (by (with_reducible repeat first | apply bN | apply bD | apply bA); exact BK122.out), (by (with_reducible repeat first | apply bN | apply bD | apply bA); exact BK123.out), (by (with_reducible repeat first | apply bN | apply bD | apply bA); exact BK131.out), GW131.out, GE131.out, NB121_131.out, NB131_121.out, NB122_131.out, NB131_122.out, NB123_131.out, NB131_123.out, (by repeat (first | (with_reducible first | exact HB.out | apply eA | apply eN | apply eD | refine bS ?_ GE121.out | refine bS ?_ GE122.out | refine bS ?_ GE123.out | refine bS ?_ GE131.out) | exact HB.out))⟩)
                      · skip
                        refine box_step ?hg (N := 9) ?hd (cs := #[.int .i64 0, .int .i64 0]) (t := 33) ?hr ?_; (case hd => rfl); (case hg => rfl); (case hr => first | (go_simp; done) | (go_simp; rfl))
                        intro gb132 hg w27 hbox hb
                        have n0_ := Aside0.mk (blk_below (by (with_reducible repeat first | apply bN | apply bD | apply bA); exact BK121.out) hb)
                        have n1_ := Aside0.mk (blk_below (by (with_reducible repeat first | apply bN | apply bD | apply bA); exact BK122.out) hb)
                        have n2_ := Aside0.mk (blk_below (by (with_reducible repeat first | apply bN | apply bD | apply bA); exact BK123.out) hb)
                        have n3_ := Aside0.mk (below_step (by repeat (first | (with_reducible first | exact HB.out | apply eA | apply eN | apply eD | refine bS ?_ GE121.out | refine bS ?_ GE122.out | refine bS ?_ GE123.out) | exact HB.out)) hb)
                        have n4_ := Aside0.mk (hbox)
                        have n5_ := Aside0.mk ((by rw [hg]; exact (below_size (by repeat (first | (with_reducible first | exact HB.out | apply eA | apply eN | apply eD | refine bS ?_ GE121.out | refine bS ?_ GE122.out | refine bS ?_ GE123.out) | exact HB.out))) : w.heap.size ≤ gb132))
                        have n6_ := Aside0.mk ((by rw [hg]; exact (below_size (by repeat (first | (with_reducible first | exact HB.out | apply eA | apply eN | apply eD | refine bS ?_ GE121.out | refine bS ?_ GE122.out | refine bS ?_ GE123.out) | exact HB.out))) : w.heap.size ≤ gb132))
                        have n7_ := Aside0.mk ((by rw [hg]; exact Nat.ne_of_lt (blk_lt (g := gb121) (by (with_reducible repeat first | apply bN | apply bD | apply bA); exact BK121.out)) : gb121 ≠ gb132))
                        have n8_ := Aside0.mk ((by rw [hg]; exact Nat.ne_of_gt (blk_lt (g := gb121) (by (with_reducible repeat first | apply bN | apply bD | apply bA); exact BK121.out)) : gb132 ≠ gb121))
                        have n9_ := Aside0.mk ((by rw [hg]; exact Nat.ne_of_lt (blk_lt (g := gb122) (by (with_reducible repeat first | apply bN | apply bD | apply bA); exact BK122.out)) : gb122 ≠ gb132))
                        have n10_ := Aside0.mk ((by rw [hg]; exact Nat.ne_of_gt (blk_lt (g := gb122) (by (with_reducible repeat first | apply bN | apply bD | apply bA); exact BK122.out)) : gb132 ≠ gb122))
                        have n11_ := Aside0.mk ((by rw [hg]; exact Nat.ne_of_lt (blk_lt (g := gb123) (by (with_reducible repeat first | apply bN | apply bD | apply bA); exact BK123.out)) : gb123 ≠ gb132))
                        have n12_ := Aside0.mk ((by rw [hg]; exact Nat.ne_of_gt (blk_lt (g := gb123) (by (with_reducible repeat first | apply bN | apply bD | apply bA); exact BK123.out)) : gb132 ≠ gb123))
                        clear BK121
                        clear BK122
                        clear BK123
                        clear HB
                        have BK121 := n0_
                        have BK122 := n1_
                        have BK123 := n2_
                        have HB := n3_
                        have BK132 := n4_
                        have GW132 := n5_
                        have GE132 := n6_
                        have NB121_132 := n7_
                        have NB132_121 := n8_
                        have NB122_132 := n9_
                        have NB132_122 := n10_
                        have NB123_132 := n11_
                        have NB132_123 := n12_
                        clear n0_ n1_ n2_ n3_ n4_ n5_ n6_ n7_ n8_ n9_ n10_ n11_ n12_
                        clear hb hbox hg
                        refine hK.out _ _ ⟨(blk_cell BK121.out 0).trans rfl, (blk_cell BK121.out 1).trans rfl, (blk_cell BK122.out 0).trans rfl, (blk_cell BK122.out 1).trans rfl, (blk_cell BK123.out 0).trans rfl, (blk_cell BK123.out 1).trans rfl⟩ (fun hHeld => ?_)
                        clear hK K
                        refine norm_ (a' := ?_) ?_ ?_
                        rotate_left
                        · show Act.put _ (some 9) _ = _
                          simp only [Act.put, lA, sZ, sC, i64_w, i32_w]
                          rfl
                        exact norm_ (by first | (simp only [putAll, Act.put, lA, sZ, sC]; done) | (simp only [putAll, Act.put, lA, sZ, sC]; rfl)) (hJ5 (gb132) _ ⟨hHeld, (by (with_reducible repeat first | apply bN | apply bD | apply bA); exact BK121.out), (by (with_reducible repeat first | apply bN | apply bD | apply bA); exact BK122.out), (by (with_reducible repeat first | apply bN | apply bD | apply bA); exact BK123.out), (by (with_reducible repeat first | apply bN | apply bD | apply bA); exact BK132.out), GW132.out, GE132.out, NB121_132.out, NB132_121.out, NB122_132.out, NB132_122.out, NB123_132.out, NB132_123.out, (by repeat (first | (with_reducible first | exact HB.out | apply eA | apply eN | apply eD | refine bS ?_ GE121.out | refine bS ?_ GE122.out | refine bS ?_ GE123.out | refine bS ?_ GE132.out) | exact HB.out))⟩)
                    · skip
                      rintro gb132 w28 ⟨hS_, h0_, h1_, h2_, h3_, h4_, h5_, h6_, h7_, h8_, h9_, h10_, h11_, h12_⟩
                      have n0_ : Aside0 (w28.heap[gb121]? = some (.cells #[.int .i64 a0_0, .int .i64 a0_1] 31 (0, 0))) := ⟨h0_⟩
                      have n1_ : Aside0 (w28.heap[gb122]? = some (.cells #[.int .i64 a1_0, .int .i64 a1_1] 31 (0, 0))) := ⟨h1_⟩
                      have n2_ : Aside0 (w28.heap[gb123]? = some (.cells #[.int .i64 a2_0, .int .i64 a2_1] 31 (0, 0))) := ⟨h2_⟩
                      have n3_ : Aside0 (w28.heap[gb132]? = some (.cells #[.int .i64 0, .int .i64 0] 33 (0, 0))) := ⟨h3_⟩
                      have n4_ : Aside0 (w.heap.size ≤ gb132) := ⟨h4_⟩
                      have n5_ : Aside0 (w.heap.size ≤ gb132) := ⟨h5_⟩
                      have n6_ : Aside0 (gb121 ≠ gb132) := ⟨h6_⟩
                      have n7_ : Aside0 (gb132 ≠ gb121) := ⟨h7_⟩
                      have n8_ : Aside0 (gb122 ≠ gb132) := ⟨h8_⟩
                      have n9_ : Aside0 (gb132 ≠ gb122) := ⟨h9_⟩
                      have n10_ : Aside0 (gb123 ≠ gb132) := ⟨h10_⟩
                      have n11_ : Aside0 (gb132 ≠ gb123) := ⟨h11_⟩
                      have n12_ : Aside0 (Below w.heap.size w w28) := ⟨h12_⟩
                      clear BK121
                      clear BK122
                      clear BK123
                      clear HB
                      clear h0_ h1_ h2_ h3_ h4_ h5_ h6_ h7_ h8_ h9_ h10_ h11_ h12_
                      have BK121 := n0_
                      have BK122 := n1_
                      have BK123 := n2_
                      have BK132 := n3_
                      have GW132 := n4_
                      have GE132 := n5_
                      have NB121_132 := n6_
                      have NB132_121 := n7_
                      have NB122_132 := n8_
                      have NB132_122 := n9_
                      have NB123_132 := n10_
                      have NB132_123 := n11_
                      have HB := n12_
                      clear n0_ n1_ n2_ n3_ n4_ n5_ n6_ n7_ n8_ n9_ n10_ n11_ n12_
                      have hHeld : w28.cell? ⟨gb121, 0, none⟩ = some (.int .i64 a0_0) ∧ w28.cell? ⟨gb121, 1, none⟩ = some (.int .i64 a0_1) ∧ w28.cell? ⟨gb122, 0, none⟩ = some (.int .i64 a1_0) ∧ w28.cell? ⟨gb122, 1, none⟩ = some (.int .i64 a1_1) ∧ w28.cell? ⟨gb123, 0, none⟩ = some (.int .i64 a2_0) ∧ w28.cell? ⟨gb123, 1, none⟩ = some (.int .i64 a2_1) := hS_
                      refine norm_ (a' := ?_) ?_ ?_
                      rotate_left
                      · simp only [putAll, Act.put, lA, sZ, sC]
                        rfl
                      refine two_ (i := 3) (j := 4) (Ni := some 7) (Nj := some 8) #[tt, tt, tt, tt, ff, tt, ff, ff, ff] #[tt, tt, tt, ff, tt, tt, ff, ff, ff] rfl rfl rfl rfl (two_of HT_.out (by kernel_rfl)) (by decide) (by decide) (fun K hK => ?_) (fun K hK => ?_)
                      · skip
                        refine box_step ?hg (N := 7) ?hd (cs := #[.int .i64 0, .int .i64 0]) (t := 33) ?hr ?_; (case hd => rfl); (case hg => rfl); (case hr => first | (go_simp; done) | (go_simp; rfl))
                        intro gb130 hg w29 hbox hb
                        have n0_ := Aside0.mk (blk_below (by (with_reducible repeat first | apply bN | apply bD | apply bA); exact BK121.out) hb)
                        have n1_ := Aside0.mk (blk_below (by (with_reducible repeat first | apply bN | apply bD | apply bA); exact BK122.out) hb)
                        have n2_ := Aside0.mk (blk_below (by (with_reducible repeat first | apply bN | apply bD | apply bA); exact BK123.out) hb)
                        have n3_ := Aside0.mk (blk_below (by (with_reducible repeat first | apply bN | apply bD | apply bA); exact BK132.out) hb)
                        have n4_ := Aside0.mk (below_step (by repeat (first | (with_reducible first | exact HB.out | apply eA | apply eN | apply eD | refine bS ?_ GE121.out | refine bS ?_ GE122.out | refine bS ?_ GE123.out | refine bS ?_ GE132.out) | exact HB.out)) hb)
                        have n5_ := Aside0.mk (hbox)
                        have n6_ := Aside0.mk ((by rw [hg]; exact (below_size (by repeat (first | (with_reducible first | exact HB.out | apply eA | apply eN | apply eD | refine bS ?_ GE121.out | refine bS ?_ GE122.out | refine bS ?_ GE123.out | refine bS ?_ GE132.out) | exact HB.out))) : w.heap.size ≤ gb130))
                        have n7_ := Aside0.mk ((by rw [hg]; exact (below_size (by repeat (first | (with_reducible first | exact HB.out | apply eA | apply eN | apply eD | refine bS ?_ GE121.out | refine bS ?_ GE122.out | refine bS ?_ GE123.out | refine bS ?_ GE132.out) | exact HB.out))) : w.heap.size ≤ gb130))
                        have n8_ := Aside0.mk ((by rw [hg]; exact Nat.ne_of_lt (blk_lt (g := gb121) (by (with_reducible repeat first | apply bN | apply bD | apply bA); exact BK121.out)) : gb121 ≠ gb130))
                        have n9_ := Aside0.mk ((by rw [hg]; exact Nat.ne_of_gt (blk_lt (g := gb121) (by (with_reducible repeat first | apply bN | apply bD | apply bA); exact BK121.out)) : gb130 ≠ gb121))
                        have n10_ := Aside0.mk ((by rw [hg]; exact Nat.ne_of_lt (blk_lt (g := gb122) (by (with_reducible repeat first | apply bN | apply bD | apply bA); exact BK122.out)) : gb122 ≠ gb130))
                        have n11_ := Aside0.mk ((by rw [hg]; exact Nat.ne_of_gt (blk_lt (g := gb122) (by (with_reducible repeat first | apply bN | apply bD | apply bA); exact BK122.out)) : gb130 ≠ gb122))
                        have n12_ := Aside0.mk ((by rw [hg]; exact Nat.ne_of_lt (blk_lt (g := gb123) (by (with_reducible repeat first | apply bN | apply bD | apply bA); exact BK123.out)) : gb123 ≠ gb130))
                        have n13_ := Aside0.mk ((by rw [hg]; exact Nat.ne_of_gt (blk_lt (g := gb123) (by (with_reducible repeat first | apply bN | apply bD | apply bA); exact BK123.out)) : gb130 ≠ gb123))
                        have n14_ := Aside0.mk ((by rw [hg]; exact Nat.ne_of_lt (blk_lt (g := gb132) (by (with_reducible repeat first | apply bN | apply bD | apply bA); exact BK132.out)) : gb132 ≠ gb130))
                        have n15_ := Aside0.mk ((by rw [hg]; exact Nat.ne_of_gt (blk_lt (g := gb132) (by (with_reducible repeat first | apply bN | apply bD | apply bA); exact BK132.out)) : gb130 ≠ gb132))
                        clear BK121
                        clear BK122
                        clear BK123
                        clear BK132
                        clear HB
                        have BK121 := n0_
                        have BK122 := n1_
                        have BK123 := n2_
                        have BK132 := n3_
                        have HB := n4_
                        have BK130 := n5_
                        have GW130 := n6_
                        have GE130 := n7_
                        have NB121_130 := n8_
                        have NB130_121 := n9_
                        have NB122_130 := n10_
                        have NB130_122 := n11_
                        have NB123_130 := n12_
                        have NB130_123 := n13_
                        have NB132_130 := n14_
                        have NB130_132 := n15_
                        clear n0_ n1_ n2_ n3_ n4_ n5_ n6_ n7_ n8_ n9_ n10_ n11_ n12_ n13_ n14_ n15_
                        clear hb hbox hg
                        refine hK.out _ _ ⟨(blk_cell BK121.out 0).trans rfl, (blk_cell BK121.out 1).trans rfl, (blk_cell BK122.out 0).trans rfl, (blk_cell BK122.out 1).trans rfl, (blk_cell BK123.out 0).trans rfl, (blk_cell BK123.out 1).trans rfl⟩ (fun hHeld => ?_)
                        clear hK K
                        refine norm_ (a' := ?_) ?_ ?_
                        rotate_left
                        · show Act.put _ (some 7) _ = _
                          simp only [Act.put, lA, sZ, sC, i64_w, i32_w]
                          rfl
                        exact norm_ (by first | (simp only [putAll, Act.put, lA, sZ, sC]; done) | (simp only [putAll, Act.put, lA, sZ, sC]; rfl)) (hJ3_5 (gb130, gb132) _ ⟨hHeld, (by (with_reducible repeat first | apply bN | apply bD | apply bA); exact BK121.out), (by (with_reducible repeat first | apply bN | apply bD | apply bA); exact BK122.out), (by (with_reducible repeat first | apply bN | apply bD | apply bA); exact BK123.out), (by (with_reducible repeat first | apply bN | apply bD | apply bA); exact BK130.out), (by (with_reducible repeat first | apply bN | apply bD | apply bA); exact BK132.out), GW130.out, GE130.out, NB121_130.out, NB130_121.out, NB122_130.out, NB130_122.out, NB123_130.out, NB130_123.out, NB132_130.out, NB130_132.out, GW132.out, GE132.out, NB121_132.out, NB132_121.out, NB122_132.out, NB132_122.out, NB123_132.out, NB132_123.out, (by repeat (first | (with_reducible first | exact HB.out | apply eA | apply eN | apply eD | refine bS ?_ GE121.out | refine bS ?_ GE122.out | refine bS ?_ GE123.out | refine bS ?_ GE132.out | refine bS ?_ GE130.out) | exact HB.out))⟩)
                      · skip
                        refine box_step ?hg (N := 8) ?hd (cs := #[.int .i64 0, .int .i64 0]) (t := 33) ?hr ?_; (case hd => rfl); (case hg => rfl); (case hr => first | (go_simp; done) | (go_simp; rfl))
                        intro gb131 hg w29 hbox hb
                        have n0_ := Aside0.mk (blk_below (by (with_reducible repeat first | apply bN | apply bD | apply bA); exact BK121.out) hb)
                        have n1_ := Aside0.mk (blk_below (by (with_reducible repeat first | apply bN | apply bD | apply bA); exact BK122.out) hb)
                        have n2_ := Aside0.mk (blk_below (by (with_reducible repeat first | apply bN | apply bD | apply bA); exact BK123.out) hb)
                        have n3_ := Aside0.mk (blk_below (by (with_reducible repeat first | apply bN | apply bD | apply bA); exact BK132.out) hb)
                        have n4_ := Aside0.mk (below_step (by repeat (first | (with_reducible first | exact HB.out | apply eA | apply eN | apply eD | refine bS ?_ GE121.out | refine bS ?_ GE122.out | refine bS ?_ GE123.out | refine bS ?_ GE132.out) | exact HB.out)) hb)
                        have n5_ := Aside0.mk (hbox)
                        have n6_ := Aside0.mk ((by rw [hg]; exact (below_size (by repeat (first | (with_reducible first | exact HB.out | apply eA | apply eN | apply eD | refine bS ?_ GE121.out | refine bS ?_ GE122.out | refine bS ?_ GE123.out | refine bS ?_ GE132.out) | exact HB.out))) : w.heap.size ≤ gb131))
                        have n7_ := Aside0.mk ((by rw [hg]; exact (below_size (by repeat (first | (with_reducible first | exact HB.out | apply eA | apply eN | apply eD | refine bS ?_ GE121.out | refine bS ?_ GE122.out | refine bS ?_ GE123.out | refine bS ?_ GE132.out) | exact HB.out))) : w.heap.size ≤ gb131))
                        have n8_ := Aside0.mk ((by rw [hg]; exact Nat.ne_of_lt (blk_lt (g := gb121) (by (with_reducible repeat first | apply bN | apply bD | apply bA); exact BK121.out)) : gb121 ≠ gb131))
                        have n9_ := Aside0.mk ((by rw [hg]; exact Nat.ne_of_gt (blk_lt (g := gb121) (by (with_reducible repeat first | apply bN | apply bD | apply bA); exact BK121.out)) : gb131 ≠ gb121))
                        have n10_ := Aside0.mk ((by rw [hg]; exact Nat.ne_of_lt (blk_lt (g := gb122) (by (with_reducible repeat first | apply bN | apply bD | apply bA); exact BK122.out)) : gb122 ≠ gb131))
                        have n11_ := Aside0.mk ((by rw [hg]; exact Nat.ne_of_gt (blk_lt (g := gb122) (by (with_reducible repeat first | apply bN | apply bD | apply bA); exact BK122.out)) : gb131 ≠ gb122))
                        have n12_ := Aside0.mk ((by rw [hg]; exact Nat.ne_of_lt (blk_lt (g := gb123) (by (with_reducible repeat first | apply bN | apply bD | apply bA); exact BK123.out)) : gb123 ≠ gb131))
                        have n13_ := Aside0.mk ((by rw [hg]; exact Nat.ne_of_gt (blk_lt (g := gb123) (by (with_reducible repeat first | apply bN | apply bD | apply bA); exact BK123.out)) : gb131 ≠ gb123))
                        have n14_ := Aside0.mk ((by rw [hg]; exact Nat.ne_of_lt (blk_lt (g := gb132) (by (with_reducible repeat first | apply bN | apply bD | apply bA); exact BK132.out)) : gb132 ≠ gb131))
                        have n15_ := Aside0.mk ((by rw [hg]; exact Nat.ne_of_gt (blk_lt (g := gb132) (by (with_reducible repeat first | apply bN | apply bD | apply bA); exact BK132.out)) : gb131 ≠ gb132))
                        clear BK121
                        clear BK122
                        clear BK123
                        clear BK132
                        clear HB
                        have BK121 := n0_
                        have BK122 := n1_
                        have BK123 := n2_
                        have BK132 := n3_
                        have HB := n4_
                        have BK131 := n5_
                        have GW131 := n6_
                        have GE131 := n7_
                        have NB121_131 := n8_
                        have NB131_121 := n9_
                        have NB122_131 := n10_
                        have NB131_122 := n11_
                        have NB123_131 := n12_
                        have NB131_123 := n13_
                        have NB132_131 := n14_
                        have NB131_132 := n15_
                        clear n0_ n1_ n2_ n3_ n4_ n5_ n6_ n7_ n8_ n9_ n10_ n11_ n12_ n13_ n14_ n15_
                        clear hb hbox hg
                        refine hK.out _ _ ⟨(blk_cell BK121.out 0).trans rfl, (blk_cell BK121.out 1).trans rfl, (blk_cell BK122.out 0).trans rfl, (blk_cell BK122.out 1).trans rfl, (blk_cell BK123.out 0).trans rfl, (blk_cell BK123.out 1).trans rfl⟩ (fun hHeld => ?_)
                        clear hK K
                        refine norm_ (a' := ?_) ?_ ?_
                        rotate_left
                        · show Act.put _ (some 8) _ = _
                          simp only [Act.put, lA, sZ, sC, i64_w, i32_w]
                          rfl
                        exact norm_ (by first | (simp only [putAll, Act.put, lA, sZ, sC]; done) | (simp only [putAll, Act.put, lA, sZ, sC]; rfl)) (hJ4_5 (gb131, gb132) _ ⟨hHeld, (by (with_reducible repeat first | apply bN | apply bD | apply bA); exact BK121.out), (by (with_reducible repeat first | apply bN | apply bD | apply bA); exact BK122.out), (by (with_reducible repeat first | apply bN | apply bD | apply bA); exact BK123.out), (by (with_reducible repeat first | apply bN | apply bD | apply bA); exact BK131.out), (by (with_reducible repeat first | apply bN | apply bD | apply bA); exact BK132.out), GW131.out, GE131.out, NB121_131.out, NB131_121.out, NB122_131.out, NB131_122.out, NB123_131.out, NB131_123.out, NB132_131.out, NB131_132.out, GW132.out, GE132.out, NB121_132.out, NB132_121.out, NB122_132.out, NB132_122.out, NB123_132.out, NB132_123.out, (by repeat (first | (with_reducible first | exact HB.out | apply eA | apply eN | apply eD | refine bS ?_ GE121.out | refine bS ?_ GE122.out | refine bS ?_ GE123.out | refine bS ?_ GE132.out | refine bS ?_ GE131.out) | exact HB.out))⟩)
                  · skip
                    rintro gb131 w28 ⟨hS_, h0_, h1_, h2_, h3_, h4_, h5_, h6_, h7_, h8_, h9_, h10_, h11_, h12_⟩
                    have n0_ : Aside0 (w28.heap[gb121]? = some (.cells #[.int .i64 a0_0, .int .i64 a0_1] 31 (0, 0))) := ⟨h0_⟩
                    have n1_ : Aside0 (w28.heap[gb122]? = some (.cells #[.int .i64 a1_0, .int .i64 a1_1] 31 (0, 0))) := ⟨h1_⟩
                    have n2_ : Aside0 (w28.heap[gb123]? = some (.cells #[.int .i64 a2_0, .int .i64 a2_1] 31 (0, 0))) := ⟨h2_⟩
                    have n3_ : Aside0 (w28.heap[gb131]? = some (.cells #[.int .i64 0, .int .i64 0] 33 (0, 0))) := ⟨h3_⟩
                    have n4_ : Aside0 (w.heap.size ≤ gb131) := ⟨h4_⟩
                    have n5_ : Aside0 (w.heap.size ≤ gb131) := ⟨h5_⟩
                    have n6_ : Aside0 (gb121 ≠ gb131) := ⟨h6_⟩
                    have n7_ : Aside0 (gb131 ≠ gb121) := ⟨h7_⟩
                    have n8_ : Aside0 (gb122 ≠ gb131) := ⟨h8_⟩
                    have n9_ : Aside0 (gb131 ≠ gb122) := ⟨h9_⟩
                    have n10_ : Aside0 (gb123 ≠ gb131) := ⟨h10_⟩
                    have n11_ : Aside0 (gb131 ≠ gb123) := ⟨h11_⟩
                    have n12_ : Aside0 (Below w.heap.size w w28) := ⟨h12_⟩
                    clear BK121
                    clear BK122
                    clear BK123
                    clear HB
                    clear h0_ h1_ h2_ h3_ h4_ h5_ h6_ h7_ h8_ h9_ h10_ h11_ h12_
                    have BK121 := n0_
                    have BK122 := n1_
                    have BK123 := n2_
                    have BK131 := n3_
                    have GW131 := n4_
                    have GE131 := n5_
                    have NB121_131 := n6_
                    have NB131_121 := n7_
                    have NB122_131 := n8_
                    have NB131_122 := n9_
                    have NB123_131 := n10_
                    have NB131_123 := n11_
                    have HB := n12_
                    clear n0_ n1_ n2_ n3_ n4_ n5_ n6_ n7_ n8_ n9_ n10_ n11_ n12_
                    have hHeld : w28.cell? ⟨gb121, 0, none⟩ = some (.int .i64 a0_0) ∧ w28.cell? ⟨gb121, 1, none⟩ = some (.int .i64 a0_1) ∧ w28.cell? ⟨gb122, 0, none⟩ = some (.int .i64 a1_0) ∧ w28.cell? ⟨gb122, 1, none⟩ = some (.int .i64 a1_1) ∧ w28.cell? ⟨gb123, 0, none⟩ = some (.int .i64 a2_0) ∧ w28.cell? ⟨gb123, 1, none⟩ = some (.int .i64 a2_1) := hS_
                    refine norm_ (a' := ?_) ?_ ?_
                    rotate_left
                    · simp only [putAll, Act.put, lA, sZ, sC]
                      rfl
                    refine two_ (i := 3) (j := 5) (Ni := some 7) (Nj := some 9) #[tt, tt, tt, tt, tt, ff, ff, ff, ff] #[tt, tt, tt, ff, tt, tt, ff, ff, ff] rfl rfl rfl rfl (two_of HT_.out (by kernel_rfl)) (by decide) (by decide) (fun K hK => ?_) (fun K hK => ?_)
                    · skip
                      refine box_step ?hg (N := 7) ?hd (cs := #[.int .i64 0, .int .i64 0]) (t := 33) ?hr ?_; (case hd => rfl); (case hg => rfl); (case hr => first | (go_simp; done) | (go_simp; rfl))
                      intro gb130 hg w29 hbox hb
                      have n0_ := Aside0.mk (blk_below (by (with_reducible repeat first | apply bN | apply bD | apply bA); exact BK121.out) hb)
                      have n1_ := Aside0.mk (blk_below (by (with_reducible repeat first | apply bN | apply bD | apply bA); exact BK122.out) hb)
                      have n2_ := Aside0.mk (blk_below (by (with_reducible repeat first | apply bN | apply bD | apply bA); exact BK123.out) hb)
                      have n3_ := Aside0.mk (blk_below (by (with_reducible repeat first | apply bN | apply bD | apply bA); exact BK131.out) hb)
                      have n4_ := Aside0.mk (below_step (by repeat (first | (with_reducible first | exact HB.out | apply eA | apply eN | apply eD | refine bS ?_ GE121.out | refine bS ?_ GE122.out | refine bS ?_ GE123.out | refine bS ?_ GE131.out) | exact HB.out)) hb)
                      have n5_ := Aside0.mk (hbox)
                      have n6_ := Aside0.mk ((by rw [hg]; exact (below_size (by repeat (first | (with_reducible first | exact HB.out | apply eA | apply eN | apply eD | refine bS ?_ GE121.out | refine bS ?_ GE122.out | refine bS ?_ GE123.out | refine bS ?_ GE131.out) | exact HB.out))) : w.heap.size ≤ gb130))
                      have n7_ := Aside0.mk ((by rw [hg]; exact (below_size (by repeat (first | (with_reducible first | exact HB.out | apply eA | apply eN | apply eD | refine bS ?_ GE121.out | refine bS ?_ GE122.out | refine bS ?_ GE123.out | refine bS ?_ GE131.out) | exact HB.out))) : w.heap.size ≤ gb130))
                      have n8_ := Aside0.mk ((by rw [hg]; exact Nat.ne_of_lt (blk_lt (g := gb121) (by (with_reducible repeat first | apply bN | apply bD | apply bA); exact BK121.out)) : gb121 ≠ gb130))
                      have n9_ := Aside0.mk ((by rw [hg]; exact Nat.ne_of_gt (blk_lt (g := gb121) (by (with_reducible repeat first | apply bN | apply bD | apply bA); exact BK121.out)) : gb130 ≠ gb121))
                      have n10_ := Aside0.mk ((by rw [hg]; exact Nat.ne_of_lt (blk_lt (g := gb122) (by (with_reducible repeat first | apply bN | apply bD | apply bA); exact BK122.out)) : gb122 ≠ gb130))
                      have n11_ := Aside0.mk ((by rw [hg]; exact Nat.ne_of_gt (blk_lt (g := gb122) (by (with_reducible repeat first | apply bN | apply bD | apply bA); exact BK122.out)) : gb130 ≠ gb122))
                      have n12_ := Aside0.mk ((by rw [hg]; exact Nat.ne_of_lt (blk_lt (g := gb123) (by (with_reducible repeat first | apply bN | apply bD | apply bA); exact BK123.out)) : gb123 ≠ gb130))
                      have n13_ := Aside0.mk ((by rw [hg]; exact Nat.ne_of_gt (blk_lt (g := gb123) (by (with_reducible repeat first | apply bN | apply bD | apply bA); exact BK123.out)) : gb130 ≠ gb123))
                      have n14_ := Aside0.mk ((by rw [hg]; exact Nat.ne_of_lt (blk_lt (g := gb131) (by (with_reducible repeat first | apply bN | apply bD | apply bA); exact BK131.out)) : gb131 ≠ gb130))
                      have n15_ := Aside0.mk ((by rw [hg]; exact Nat.ne_of_gt (blk_lt (g := gb131) (by (with_reducible repeat first | apply bN | apply bD | apply bA); exact BK131.out)) : gb130 ≠ gb131))
                      clear BK121
                      clear BK122
                      clear BK123
                      clear BK131
                      clear HB
                      have BK121 := n0_
                      have BK122 := n1_
                      have BK123 := n2_
                      have BK131 := n3_
                      have HB := n4_
                      have BK130 := n5_
                      have GW130 := n6_
                      have GE130 := n7_
                      have NB121_130 := n8_
                      have NB130_121 := n9_
                      have NB122_130 := n10_
                      have NB130_122 := n11_
                      have NB123_130 := n12_
                      have NB130_123 := n13_
                      have NB131_130 := n14_
                      have NB130_131 := n15_
                      clear n0_ n1_ n2_ n3_ n4_ n5_ n6_ n7_ n8_ n9_ n10_ n11_ n12_ n13_ n14_ n15_
                      clear hb hbox hg
                      refine hK.out _ _ ⟨(blk_cell BK121.out 0).trans rfl, (blk_cell BK121.out 1).trans rfl, (blk_cell BK122.out 0).trans rfl, (blk_cell BK122.out 1).trans rfl, (blk_cell BK123.out 0).trans rfl, (blk_cell BK123.out 1).trans rfl⟩ (fun hHeld => ?_)
                      clear hK K
                      refine norm_ (a' := ?_) ?_ ?_
                      rotate_left
                      · show Act.put _ (some 7) _ = _
                        simp only [Act.put, lA, sZ, sC, i64_w, i32_w]
                        rfl
                      exact norm_ (by first | (simp only [putAll, Act.put, lA, sZ, sC]; done) | (simp only [putAll, Act.put, lA, sZ, sC]; rfl)) (hJ3_4 (gb130, gb131) _ ⟨hHeld, (by (with_reducible repeat first | apply bN | apply bD | apply bA); exact BK121.out), (by (with_reducible repeat first | apply bN | apply bD | apply bA); exact BK122.out), (by (with_reducible repeat first | apply bN | apply bD | apply bA); exact BK123.out), (by (with_reducible repeat first | apply bN | apply bD | apply bA); exact BK130.out), (by (with_reducible repeat first | apply bN | apply bD | apply bA); exact BK131.out), GW130.out, GE130.out, NB121_130.out, NB130_121.out, NB122_130.out, NB130_122.out, NB123_130.out, NB130_123.out, NB131_130.out, NB130_131.out, GW131.out, GE131.out, NB121_131.out, NB131_121.out, NB122_131.out, NB131_122.out, NB123_131.out, NB131_123.out, (by repeat (first | (with_reducible first | exact HB.out | apply eA | apply eN | apply eD | refine bS ?_ GE121.out | refine bS ?_ GE122.out | refine bS ?_ GE123.out | refine bS ?_ GE131.out | refine bS ?_ GE130.out) | exact HB.out))⟩)
                    · skip
                      refine box_step ?hg (N := 9) ?hd (cs := #[.int .i64 0, .int .i64 0]) (t := 33) ?hr ?_; (case hd => rfl); (case hg => rfl); (case hr => first | (go_simp; done) | (go_simp; rfl))
                      intro gb132 hg w29 hbox hb
                      have n0_ := Aside0.mk (blk_below (by (with_reducible repeat first | apply bN | apply bD | apply bA); exact BK121.out) hb)
                      have n1_ := Aside0.mk (blk_below (by (with_reducible repeat first | apply bN | apply bD | apply bA); exact BK122.out) hb)
                      have n2_ := Aside0.mk (blk_below (by (with_reducible repeat first | apply bN | apply bD | apply bA); exact BK123.out) hb)
                      have n3_ := Aside0.mk (blk_below (by (with_reducible repeat first | apply bN | apply bD | apply bA); exact BK131.out) hb)
                      have n4_ := Aside0.mk (below_step (by repeat (first | (with_reducible first | exact HB.out | apply eA | apply eN | apply eD | refine bS ?_ GE121.out | refine bS ?_ GE122.out | refine bS ?_ GE123.out | refine bS ?_ GE131.out) | exact HB.out)) hb)
                      have n5_ := Aside0.mk (hbox)
                      have n6_ := Aside0.mk ((by rw [hg]; exact (below_size (by repeat (first | (with_reducible first | exact HB.out | apply eA | apply eN | apply eD | refine bS ?_ GE121.out | refine bS ?_ GE122.out | refine bS ?_ GE123.out | refine bS ?_ GE131.out) | exact HB.out))) : w.heap.size ≤ gb132))
                      have n7_ := Aside0.mk ((by rw [hg]; exact (below_size (by repeat (first | (with_reducible first | exact HB.out | apply eA | apply eN | apply eD | refine bS ?_ GE121.out | refine bS ?_ GE122.out | refine bS ?_ GE123.out | refine bS ?_ GE131.out) | exact HB.out))) : w.heap.size ≤ gb132))
                      have n8_ := Aside0.mk ((by rw [hg]; exact Nat.ne_of_lt (blk_lt (g := gb121) (by (with_reducible repeat first | apply bN | apply bD | apply bA); exact BK121.out)) : gb121 ≠ gb132))
                      have n9_ := Aside0.mk ((by rw [hg]; exact Nat.ne_of_gt (blk_lt (g := gb121) (by (with_reducible repeat first | apply bN | apply bD | apply bA); exact BK121.out)) : gb132 ≠ gb121))
                      have n10_ := Aside0.mk ((by rw [hg]; exact Nat.ne_of_lt (blk_lt (g := gb122) (by (with_reducible repeat first | apply bN | apply bD | apply bA); exact BK122.out)) : gb122 ≠ gb132))
                      have n11_ := Aside0.mk ((by rw [hg]; exact Nat.ne_of_gt (blk_lt (g := gb122) (by (with_reducible repeat first | apply bN | apply bD | apply bA); exact BK122.out)) : gb132 ≠ gb122))
                      have n12_ := Aside0.mk ((by rw [hg]; exact Nat.ne_of_lt (blk_lt (g := gb123) (by (with_reducible repeat first | apply bN | apply bD | apply bA); exact BK123.out)) : gb123 ≠ gb132))
                      have n13_ := Aside0.mk ((by rw [hg]; exact Nat.ne_of_gt (blk_lt (g := gb123) (by (with_reducible repeat first | apply bN | apply bD | apply bA); exact BK123.out)) : gb132 ≠ gb123))
                      have n14_ := Aside0.mk ((by rw [hg]; exact Nat.ne_of_lt (blk_lt (g := gb131) (by (with_reducible repeat first | apply bN | apply bD | apply bA); exact BK131.out)) : gb131 ≠ gb132))
                      have n15_ := Aside0.mk ((by rw [hg]; exact Nat.ne_of_gt (blk_lt (g := gb131) (by (with_reducible repeat first | apply bN | apply bD | apply bA); exact BK131.out)) : gb132 ≠ gb131))
                      clear BK121
                      clear BK122
                      clear BK123
                      clear BK131
                      clear HB
                      have BK121 := n0_
                      have BK122 := n1_
                      have BK123 := n2_
                      have BK131 := n3_
                      have HB := n4_
                      have BK132 := n5_
                      have GW132 := n6_
                      have GE132 := n7_
                      have NB121_132 := n8_
                      have NB132_121 := n9_
                      have NB122_132 := n10_
                      have NB132_122 := n11_
                      have NB123_132 := n12_
                      have NB132_123 := n13_
                      have NB131_132 := n14_
                      have NB132_131 := n15_
                      clear n0_ n1_ n2_ n3_ n4_ n5_ n6_ n7_ n8_ n9_ n10_ n11_ n12_ n13_ n14_ n15_
                      clear hb hbox hg
                      refine hK.out _ _ ⟨(blk_cell BK121.out 0).trans rfl, (blk_cell BK121.out 1).trans rfl, (blk_cell BK122.out 0).trans rfl, (blk_cell BK122.out 1).trans rfl, (blk_cell BK123.out 0).trans rfl, (blk_cell BK123.out 1).trans rfl⟩ (fun hHeld => ?_)
                      clear hK K
                      refine norm_ (a' := ?_) ?_ ?_
                      rotate_left
                      · show Act.put _ (some 9) _ = _
                        simp only [Act.put, lA, sZ, sC, i64_w, i32_w]
                        rfl
                      exact norm_ (by first | (simp only [putAll, Act.put, lA, sZ, sC]; done) | (simp only [putAll, Act.put, lA, sZ, sC]; rfl)) (hJ4_5 (gb131, gb132) _ ⟨hHeld, (by (with_reducible repeat first | apply bN | apply bD | apply bA); exact BK121.out), (by (with_reducible repeat first | apply bN | apply bD | apply bA); exact BK122.out), (by (with_reducible repeat first | apply bN | apply bD | apply bA); exact BK123.out), (by (with_reducible repeat first | apply bN | apply bD | apply bA); exact BK131.out), (by (with_reducible repeat first | apply bN | apply bD | apply bA); exact BK132.out), GW131.out, GE131.out, NB121_131.out, NB131_121.out, NB122_131.out, NB131_122.out, NB123_131.out, NB131_123.out, NB132_131.out, NB131_132.out, GW132.out, GE132.out, NB121_132.out, NB132_121.out, NB122_132.out, NB132_122.out, NB123_132.out, NB132_123.out, (by repeat (first | (with_reducible first | exact HB.out | apply eA | apply eN | apply eD | refine bS ?_ GE121.out | refine bS ?_ GE122.out | refine bS ?_ GE123.out | refine bS ?_ GE131.out | refine bS ?_ GE132.out) | exact HB.out))⟩)
                · skip
                  rintro gb130 w28 ⟨hS_, h0_, h1_, h2_, h3_, h4_, h5_, h6_, h7_, h8_, h9_, h10_, h11_, h12_⟩
                  have n0_ : Aside0 (w28.heap[gb121]? = some (.cells #[.int .i64 a0_0, .int .i64 a0_1] 31 (0, 0))) := ⟨h0_⟩
                  have n1_ : Aside0 (w28.heap[gb122]? = some (.cells #[.int .i64 a1_0, .int .i64 a1_1] 31 (0, 0))) := ⟨h1_⟩
                  have n2_ : Aside0 (w28.heap[gb123]? = some (.cells #[.int .i64 a2_0, .int .i64 a2_1] 31 (0, 0))) := ⟨h2_⟩
                  have n3_ : Aside0 (w28.heap[gb130]? = some (.cells #[.int .i64 0, .int .i64 0] 33 (0, 0))) := ⟨h3_⟩
                  have n4_ : Aside0 (w.heap.size ≤ gb130) := ⟨h4_⟩
                  have n5_ : Aside0 (w.heap.size ≤ gb130) := ⟨h5_⟩
                  have n6_ : Aside0 (gb121 ≠ gb130) := ⟨h6_⟩
                  have n7_ : Aside0 (gb130 ≠ gb121) := ⟨h7_⟩
                  have n8_ : Aside0 (gb122 ≠ gb130) := ⟨h8_⟩
                  have n9_ : Aside0 (gb130 ≠ gb122) := ⟨h9_⟩
                  have n10_ : Aside0 (gb123 ≠ gb130) := ⟨h10_⟩
                  have n11_ : Aside0 (gb130 ≠ gb123) := ⟨h11_⟩
                  have n12_ : Aside0 (Below w.heap.size w w28) := ⟨h12_⟩
                  clear BK121
                  clear BK122
                  clear BK123
                  clear HB
                  clear h0_ h1_ h2_ h3_ h4_ h5_ h6_ h7_ h8_ h9_ h10_ h11_ h12_
                  have BK121 := n0_
                  have BK122 := n1_
                  have BK123 := n2_
                  have BK130 := n3_
                  have GW130 := n4_
                  have GE130 := n5_
                  have NB121_130 := n6_
                  have NB130_121 := n7_
                  have NB122_130 := n8_
                  have NB130_122 := n9_
                  have NB123_130 := n10_
                  have NB130_123 := n11_
                  have HB := n12_
                  clear n0_ n1_ n2_ n3_ n4_ n5_ n6_ n7_ n8_ n9_ n10_ n11_ n12_
                  have hHeld : w28.cell? ⟨gb121, 0, none⟩ = some (.int .i64 a0_0) ∧ w28.cell? ⟨gb121, 1, none⟩ = some (.int .i64 a0_1) ∧ w28.cell? ⟨gb122, 0, none⟩ = some (.int .i64 a1_0) ∧ w28.cell? ⟨gb122, 1, none⟩ = some (.int .i64 a1_1) ∧ w28.cell? ⟨gb123, 0, none⟩ = some (.int .i64 a2_0) ∧ w28.cell? ⟨gb123, 1, none⟩ = some (.int .i64 a2_1) := hS_
                  refine norm_ (a' := ?_) ?_ ?_
                  rotate_left
                  · simp only [putAll, Act.put, lA, sZ, sC]
                    rfl
                  refine two_ (i := 4) (j := 5) (Ni := some 8) (Nj := some 9) #[tt, tt, tt, tt, tt, ff, ff, ff, ff] #[tt, tt, tt, tt, ff, tt, ff, ff, ff] rfl rfl rfl rfl (two_of HT_.out (by kernel_rfl)) (by decide) (by decide) (fun K hK => ?_) (fun K hK => ?_)
                  · skip
                    refine box_step ?hg (N := 8) ?hd (cs := #[.int .i64 0, .int .i64 0]) (t := 33) ?hr ?_; (case hd => rfl); (case hg => rfl); (case hr => first | (go_simp; done) | (go_simp; rfl))
                    intro gb131 hg w29 hbox hb
                    have n0_ := Aside0.mk (blk_below (by (with_reducible repeat first | apply bN | apply bD | apply bA); exact BK121.out) hb)
                    have n1_ := Aside0.mk (blk_below (by (with_reducible repeat first | apply bN | apply bD | apply bA); exact BK122.out) hb)
                    have n2_ := Aside0.mk (blk_below (by (with_reducible repeat first | apply bN | apply bD | apply bA); exact BK123.out) hb)
                    have n3_ := Aside0.mk (blk_below (by (with_reducible repeat first | apply bN | apply bD | apply bA); exact BK130.out) hb)
                    have n4_ := Aside0.mk (below_step (by repeat (first | (with_reducible first | exact HB.out | apply eA | apply eN | apply eD | refine bS ?_ GE121.out | refine bS ?_ GE122.out | refine bS ?_ GE123.out | refine bS ?_ GE130.out) | exact HB.out)) hb)
                    have n5_ := Aside0.mk (hbox)
                    have n6_ := Aside0.mk ((by rw [hg]; exact (below_size (by repeat (first | (with_reducible first | exact HB.out | apply eA | apply eN | apply eD | refine bS ?_ GE121.out | refine bS ?_ GE122.out | refine bS ?_ GE123.out | refine bS ?_ GE130.out) | exact HB.out))) : w.heap.size ≤ gb131))
                    have n7_ := Aside0.mk ((by rw [hg]; exact (below_size (by repeat (first | (with_reducible first | exact HB.out | apply eA | apply eN | apply eD | refine bS ?_ GE121.out | refine bS ?_ GE122.out | refine bS ?_ GE123.out | refine bS ?_ GE130.out) | exact HB.out))) : w.heap.size ≤ gb131))
                    have n8_ := Aside0.mk ((by rw [hg]; exact Nat.ne_of_lt (blk_lt (g := gb121) (by (with_reducible repeat first | apply bN | apply bD | apply bA); exact BK121.out)) : gb121 ≠ gb131))
                    have n9_ := Aside0.mk ((by rw [hg]; exact Nat.ne_of_gt (blk_lt (g := gb121) (by (with_reducible repeat first | apply bN | apply bD | apply bA); exact BK121.out)) : gb131 ≠ gb121))
                    have n10_ := Aside0.mk ((by rw [hg]; exact Nat.ne_of_lt (blk_lt (g := gb122) (by (with_reducible repeat first | apply bN | apply bD | apply bA); exact BK122.out)) : gb122 ≠ gb131))
                    have n11_ := Aside0.mk ((by rw [hg]; exact Nat.ne_of_gt (blk_lt (g := gb122) (by (with_reducible repeat first | apply bN | apply bD | apply bA); exact BK122.out)) : gb131 ≠ gb122))
                    have n12_ := Aside0.mk ((by rw [hg]; exact Nat.ne_of_lt (blk_lt (g := gb123) (by (with_reducible repeat first | apply bN | apply bD | apply bA); exact BK123.out)) : gb123 ≠ gb131))
                    have n13_ := Aside0.mk ((by rw [hg]; exact Nat.ne_of_gt (blk_lt (g := gb123) (by (with_reducible repeat first | apply bN | apply bD | apply bA); exact BK123.out)) : gb131 ≠ gb123))
                    have n14_ := Aside0.mk ((by rw [hg]; exact Nat.ne_of_lt (blk_lt (g := gb130) (by (with_reducible repeat first | apply bN | apply bD | apply bA); exact BK130.out)) : gb130 ≠ gb131))
                    have n15_ := Aside0.mk ((by rw [hg]; exact Nat.ne_of_gt (blk_lt (g := gb130) (by (with_reducible repeat first | apply bN | apply bD | apply bA); exact BK130.out)) : gb131 ≠ gb130))
                    clear BK121
                    clear BK122
                    clear BK123
                    clear BK130
                    clear HB
                    have BK121 := n0_
                    have BK122 := n1_
                    have BK123 := n2_
                    have BK130 := n3_
                    have HB := n4_
                    have BK131 := n5_
                    have GW131 := n6_
                    have GE131 := n7_
                    have NB121_131 := n8_
                    have NB131_121 := n9_
                    have NB122_131 := n10_
                    have NB131_122 := n11_
                    have NB123_131 := n12_
                    have NB131_123 := n13_
                    have NB130_131 := n14_
                    have NB131_130 := n15_
                    clear n0_ n1_ n2_ n3_ n4_ n5_ n6_ n7_ n8_ n9_ n10_ n11_ n12_ n13_ n14_ n15_
                    clear hb hbox hg
                    refine hK.out _ _ ⟨(blk_cell BK121.out 0).trans rfl, (blk_cell BK121.out 1).trans rfl, (blk_cell BK122.out 0).trans rfl, (blk_cell BK122.out 1).trans rfl, (blk_cell BK123.out 0).trans rfl, (blk_cell BK123.out 1).trans rfl⟩ (fun hHeld => ?_)
                    clear hK K
                    refine norm_ (a' := ?_) ?_ ?_
                    rotate_left
                    · show Act.put _ (some 8) _ = _
                      simp only [Act.put, lA, sZ, sC, i64_w, i32_w]
                      rfl
                    exact norm_ (by first | (simp only [putAll, Act.put, lA, sZ, sC]; done) | (simp only [putAll, Act.put, lA, sZ, sC]; rfl)) (hJ3_4 (gb130, gb131) _ ⟨hHeld, (by (with_reducible repeat first | apply bN | apply bD | apply bA); exact BK121.out), (by (with_reducible repeat first | apply bN | apply bD | apply bA); exact BK122.out), (by (with_reducible repeat first | apply bN | apply bD | apply bA); exact BK123.out), (by (with_reducible repeat first | apply bN | apply bD | apply bA); exact BK130.out), (by (with_reducible repeat first | apply bN | apply bD | apply bA); exact BK131.out), GW130.out, GE130.out, NB121_130.out, NB130_121.out, NB122_130.out, NB130_122.out, NB123_130.out, NB130_123.out, NB131_130.out, NB130_131.out, GW131.out, GE131.out, NB121_131.out, NB131_121.out, NB122_131.out, NB131_122.out, NB123_131.out, NB131_123.out, (by repeat (first | (with_reducible first | exact HB.out | apply eA | apply eN | apply eD | refine bS ?_ GE121.out | refine bS ?_ GE122.out | refine bS ?_ GE123.out | refine bS ?_ GE130.out | refine bS ?_ GE131.out) | exact HB.out))⟩)
                  · skip
                    refine box_step ?hg (N := 9) ?hd (cs := #[.int .i64 0, .int .i64 0]) (t := 33) ?hr ?_; (case hd => rfl); (case hg => rfl); (case hr => first | (go_simp; done) | (go_simp; rfl))
                    intro gb132 hg w29 hbox hb
                    have n0_ := Aside0.mk (blk_below (by (with_reducible repeat first | apply bN | apply bD | apply bA); exact BK121.out) hb)
                    have n1_ := Aside0.mk (blk_below (by (with_reducible repeat first | apply bN | apply bD | apply bA); exact BK122.out) hb)
                    have n2_ := Aside0.mk (blk_below (by (with_reducible repeat first | apply bN | apply bD | apply bA); exact BK123.out) hb)
                    have n3_ := Aside0.mk (blk_below (by (with_reducible repeat first | apply bN | apply bD | apply bA); exact BK130.out) hb)
                    have n4_ := Aside0.mk (below_step (by repeat (first | (with_reducible first | exact HB.out | apply eA | apply eN | apply eD | refine bS ?_ GE121.out | refine bS ?_ GE122.out | refine bS ?_ GE123.out | refine bS ?_ GE130.out) | exact HB.out)) hb)
                    have n5_ := Aside0.mk (hbox)
                    have n6_ := Aside0.mk ((by rw [hg]; exact (below_size (by repeat (first | (with_reducible first | exact HB.out | apply eA | apply eN | apply eD | refine bS ?_ GE121.out | refine bS ?_ GE122.out | refine bS ?_ GE123.out | refine bS ?_ GE130.out) | exact HB.out))) : w.heap.size ≤ gb132))
                    have n7_ := Aside0.mk ((by rw [hg]; exact (below_size (by repeat (first | (with_reducible first | exact HB.out | apply eA | apply eN | apply eD | refine bS ?_ GE121.out | refine bS ?_ GE122.out | refine bS ?_ GE123.out | refine bS ?_ GE130.out) | exact HB.out))) : w.heap.size ≤ gb132))
                    have n8_ := Aside0.mk ((by rw [hg]; exact Nat.ne_of_lt (blk_lt (g := gb121) (by (with_reducible repeat first | apply bN | apply bD | apply bA); exact BK121.out)) : gb121 ≠ gb132))
                    have n9_ := Aside0.mk ((by rw [hg]; exact Nat.ne_of_gt (blk_lt (g := gb121) (by (with_reducible repeat first | apply bN | apply bD | apply bA); exact BK121.out)) : gb132 ≠ gb121))
                    have n10_ := Aside0.mk ((by rw [hg]; exact Nat.ne_of_lt (blk_lt (g := gb122) (by (with_reducible repeat first | apply bN | apply bD | apply bA); exact BK122.out)) : gb122 ≠ gb132))
                    have n11_ := Aside0.mk ((by rw [hg]; exact Nat.ne_of_gt (blk_lt (g := gb122) (by (with_reducible repeat first | apply bN | apply bD | apply bA); exact BK122.out)) : gb132 ≠ gb122))
                    have n12_ := Aside0.mk ((by rw [hg]; exact Nat.ne_of_lt (blk_lt (g := gb123) (by (with_reducible repeat first | apply bN | apply bD | apply bA); exact BK123.out)) : gb123 ≠ gb132))
                    have n13_ := Aside0.mk ((by rw [hg]; exact Nat.ne_of_gt (blk_lt (g := gb123) (by (with_reducible repeat first | apply bN | apply bD | apply bA); exact BK123.out)) : gb132 ≠ gb123))
                    have n14_ := Aside0.mk ((by rw [hg]; exact Nat.ne_of_lt (blk_lt (g := gb130) (by (with_reducible repeat first | apply bN | apply bD | apply bA); exact BK130.out)) : gb130 ≠ gb132))
                    have n15_ := Aside0.mk ((by rw [hg]; exact Nat.ne_of_gt (blk_lt (g := gb130) (by (with_reducible repeat first | apply bN | apply bD | apply bA); exact BK130.out)) : gb132 ≠ gb130))
                    clear BK121
                    clear BK122
                    clear BK123
                    clear BK130
                    clear HB
                    have BK121 := n0_
                    have BK122 := n1_
                    have BK123 := n2_
                    have BK130 := n3_
                    have HB := n4_
                    have BK132 := n5_
                    have GW132 := n6_
                    have GE132 := n7_
                    have NB121_132 := n8_
                    have NB132_121 := n9_
                    have NB122_132 := n10_
                    have NB132_122 := n11_
                    have NB123_132 := n12_
                    have NB132_123 := n13_
                    have NB130_132 := n14_
                    have NB132_130 := n15_
                    clear n0_ n1_ n2_ n3_ n4_ n5_ n6_ n7_ n8_ n9_ n10_ n11_ n12_ n13_ n14_ n15_
                    clear hb hbox hg
                    refine hK.out _ _ ⟨(blk_cell BK121.out 0).trans rfl, (blk_cell BK121.out 1).trans rfl, (blk_cell BK122.out 0).trans rfl, (blk_cell BK122.out 1).trans rfl, (blk_cell BK123.out 0).trans rfl, (blk_cell BK123.out 1).trans rfl⟩ (fun hHeld => ?_)
                    clear hK K
                    refine norm_ (a' := ?_) ?_ ?_
                    rotate_left
                    · show Act.put _ (some 9) _ = _
                      simp only [Act.put, lA, sZ, sC, i64_w, i32_w]
                      rfl
                    exact norm_ (by first | (simp only [putAll, Act.put, lA, sZ, sC]; done) | (simp only [putAll, Act.put, lA, sZ, sC]; rfl)) (hJ3_5 (gb130, gb132) _ ⟨hHeld, (by (with_reducible repeat first | apply bN | apply bD | apply bA); exact BK121.out), (by (with_reducible repeat first | apply bN | apply bD | apply bA); exact BK122.out), (by (with_reducible repeat first | apply bN | apply bD | apply bA); exact BK123.out), (by (with_reducible repeat first | apply bN | apply bD | apply bA); exact BK130.out), (by (with_reducible repeat first | apply bN | apply bD | apply bA); exact BK132.out), GW130.out, GE130.out, NB121_130.out, NB130_121.out, NB122_130.out, NB130_122.out, NB123_130.out, NB130_123.out, NB132_130.out, NB130_132.out, GW132.out, GE132.out, NB121_132.out, NB132_121.out, NB122_132.out, NB132_122.out, NB123_132.out, NB132_123.out, (by repeat (first | (with_reducible first | exact HB.out | apply eA | apply eN | apply eD | refine bS ?_ GE121.out | refine bS ?_ GE122.out | refine bS ?_ GE123.out | refine bS ?_ GE130.out | refine bS ?_ GE132.out) | exact HB.out))⟩)
              · skip
                rintro ⟨gb131, gb132⟩ w29 ⟨hS_, h0_, h1_, h2_, h3_, h4_, h5_, h6_, h7_, h8_, h9_, h10_, h11_, h12_, h13_, h14_, h15_, h16_, h17_, h18_, h19_, h20_, h21_, h22_, h23_⟩
                have n0_ : Aside0 (w29.heap[gb121]? = some (.cells #[.int .i64 a0_0, .int .i64 a0_1] 31 (0, 0))) := ⟨h0_⟩
                have n1_ : Aside0 (w29.heap[gb122]? = some (.cells #[.int .i64 a1_0, .int .i64 a1_1] 31 (0, 0))) := ⟨h1_⟩
                have n2_ : Aside0 (w29.heap[gb123]? = some (.cells #[.int .i64 a2_0, .int .i64 a2_1] 31 (0, 0))) := ⟨h2_⟩
                have n3_ : Aside0 (w29.heap[gb131]? = some (.cells #[.int .i64 0, .int .i64 0] 33 (0, 0))) := ⟨h3_⟩
                have n4_ : Aside0 (w29.heap[gb132]? = some (.cells #[.int .i64 0, .int .i64 0] 33 (0, 0))) := ⟨h4_⟩
                have n5_ : Aside0 (w.heap.size ≤ gb131) := ⟨h5_⟩
                have n6_ : Aside0 (w.heap.size ≤ gb131) := ⟨h6_⟩
                have n7_ : Aside0 (gb121 ≠ gb131) := ⟨h7_⟩
                have n8_ : Aside0 (gb131 ≠ gb121) := ⟨h8_⟩
                have n9_ : Aside0 (gb122 ≠ gb131) := ⟨h9_⟩
                have n10_ : Aside0 (gb131 ≠ gb122) := ⟨h10_⟩
                have n11_ : Aside0 (gb123 ≠ gb131) := ⟨h11_⟩
                have n12_ : Aside0 (gb131 ≠ gb123) := ⟨h12_⟩
                have n13_ : Aside0 (gb132 ≠ gb131) := ⟨h13_⟩
                have n14_ : Aside0 (gb131 ≠ gb132) := ⟨h14_⟩
                have n15_ : Aside0 (w.heap.size ≤ gb132) := ⟨h15_⟩
                have n16_ : Aside0 (w.heap.size ≤ gb132) := ⟨h16_⟩
                have n17_ : Aside0 (gb121 ≠ gb132) := ⟨h17_⟩
                have n18_ : Aside0 (gb132 ≠ gb121) := ⟨h18_⟩
                have n19_ : Aside0 (gb122 ≠ gb132) := ⟨h19_⟩
                have n20_ : Aside0 (gb132 ≠ gb122) := ⟨h20_⟩
                have n21_ : Aside0 (gb123 ≠ gb132) := ⟨h21_⟩
                have n22_ : Aside0 (gb132 ≠ gb123) := ⟨h22_⟩
                have n23_ : Aside0 (Below w.heap.size w w29) := ⟨h23_⟩
                clear BK121
                clear BK122
                clear BK123
                clear HB
                clear h0_ h1_ h2_ h3_ h4_ h5_ h6_ h7_ h8_ h9_ h10_ h11_ h12_ h13_ h14_ h15_ h16_ h17_ h18_ h19_ h20_ h21_ h22_ h23_
                have BK121 := n0_
                have BK122 := n1_
                have BK123 := n2_
                have BK131 := n3_
                have BK132 := n4_
                have GW131 := n5_
                have GE131 := n6_
                have NB121_131 := n7_
                have NB131_121 := n8_
                have NB122_131 := n9_
                have NB131_122 := n10_
                have NB123_131 := n11_
                have NB131_123 := n12_
                have NB132_131 := n13_
                have NB131_132 := n14_
                have GW132 := n15_
                have GE132 := n16_
                have NB121_132 := n17_
                have NB132_121 := n18_
                have NB122_132 := n19_
                have NB132_122 := n20_
                have NB123_132 := n21_
                have NB132_123 := n22_
                have HB := n23_
                clear n0_ n1_ n2_ n3_ n4_ n5_ n6_ n7_ n8_ n9_ n10_ n11_ n12_ n13_ n14_ n15_ n16_ n17_ n18_ n19_ n20_ n21_ n22_ n23_
                have hHeld : w29.cell? ⟨gb121, 0, none⟩ = some (.int .i64 a0_0) ∧ w29.cell? ⟨gb121, 1, none⟩ = some (.int .i64 a0_1) ∧ w29.cell? ⟨gb122, 0, none⟩ = some (.int .i64 a1_0) ∧ w29.cell? ⟨gb122, 1, none⟩ = some (.int .i64 a1_1) ∧ w29.cell? ⟨gb123, 0, none⟩ = some (.int .i64 a2_0) ∧ w29.cell? ⟨gb123, 1, none⟩ = some (.int .i64 a2_1) := hS_
                refine norm_ (a' := ?_) ?_ ?_
                rotate_left
                · simp only [putAll, Act.put, lA, sZ, sC]
                  rfl
                refine one_ (i := 3) (N := some 7) #[tt, tt, tt, tt, tt, tt, ff, ff, ff] rfl rfl (one_of HT_.out (by kernel_rfl)) (by decide) (fun K hK => ?_)
                refine box_step ?hg (N := 7) ?hd (cs := #[.int .i64 0, .int .i64 0]) (t := 33) ?hr ?_; (case hd => rfl); (case hg => rfl); (case hr => first | (go_simp; done) | (go_simp; rfl))
                intro gb130 hg w30 hbox hb
                have n0_ := Aside0.mk (blk_below (by (with_reducible repeat first | apply bN | apply bD | apply bA); exact BK121.out) hb)
                have n1_ := Aside0.mk (blk_below (by (with_reducible repeat first | apply bN | apply bD | apply bA); exact BK122.out) hb)
                have n2_ := Aside0.mk (blk_below (by (with_reducible repeat first | apply bN | apply bD | apply bA); exact BK123.out) hb)
                have n3_ := Aside0.mk (blk_below (by (with_reducible repeat first | apply bN | apply bD | apply bA); exact BK131.out) hb)
                have n4_ := Aside0.mk (blk_below (by (with_reducible repeat first | apply bN | apply bD | apply bA); exact BK132.out) hb)
                have n5_ := Aside0.mk (below_step (by repeat (first | (with_reducible first | exact HB.out | apply eA | apply eN | apply eD | refine bS ?_ GE121.out | refine bS ?_ GE122.out | refine bS ?_ GE123.out | refine bS ?_ GE131.out | refine bS ?_ GE132.out) | exact HB.out)) hb)
                have n6_ := Aside0.mk (hbox)
                have n7_ := Aside0.mk ((by rw [hg]; exact (below_size (by repeat (first | (with_reducible first | exact HB.out | apply eA | apply eN | apply eD | refine bS ?_ GE121.out | refine bS ?_ GE122.out | refine bS ?_ GE123.out | refine bS ?_ GE131.out | refine bS ?_ GE132.out) | exact HB.out))) : w.heap.size ≤ gb130))
                have n8_ := Aside0.mk ((by rw [hg]; exact (below_size (by repeat (first | (with_reducible first | exact HB.out | apply eA | apply eN | apply eD | refine bS ?_ GE121.out | refine bS ?_ GE122.out | refine bS ?_ GE123.out | refine bS ?_ GE131.out | refine bS ?_ GE132.out) | exact HB.out))) : w.heap.size ≤ gb130))
                have n9_ := Aside0.mk ((by rw [hg]; exact Nat.ne_of_lt (blk_lt (g := gb121) (by (with_reducible repeat first | apply bN | apply bD | apply bA); exact BK121.out)) : gb121 ≠ gb130))
                have n10_ := Aside0.mk ((by rw [hg]; exact Nat.ne_of_gt (blk_lt (g := gb121) (by (with_reducible repeat first | apply bN | apply bD | apply bA); exact BK121.out)) : gb130 ≠ gb121))
                have n11_ := Aside0.mk ((by rw [hg]; exact Nat.ne_of_lt (blk_lt (g := gb122) (by (with_reducible repeat first | apply bN | apply bD | apply bA); exact BK122.out)) : gb122 ≠ gb130))
                have n12_ := Aside0.mk ((by rw [hg]; exact Nat.ne_of_gt (blk_lt (g := gb122) (by (with_reducible repeat first | apply bN | apply bD | apply bA); exact BK122.out)) : gb130 ≠ gb122))
                have n13_ := Aside0.mk ((by rw [hg]; exact Nat.ne_of_lt (blk_lt (g := gb123) (by (with_reducible repeat first | apply bN | apply bD | apply bA); exact BK123.out)) : gb123 ≠ gb130))
                have n14_ := Aside0.mk ((by rw [hg]; exact Nat.ne_of_gt (blk_lt (g := gb123) (by (with_reducible repeat first | apply bN | apply bD | apply bA); exact BK123.out)) : gb130 ≠ gb123))
                have n15_ := Aside0.mk ((by rw [hg]; exact Nat.ne_of_lt (blk_lt (g := gb131) (by (with_reducible repeat first | apply bN | apply bD | apply bA); exact BK131.out)) : gb131 ≠ gb130))
                have n16_ := Aside0.mk ((by rw [hg]; exact Nat.ne_of_gt (blk_lt (g := gb131) (by (with_reducible repeat first | apply bN | apply bD | apply bA); exact BK131.out)) : gb130 ≠ gb131))
                have n17_ := Aside0.mk ((by rw [hg]; exact Nat.ne_of_lt (blk_lt (g := gb132) (by (with_reducible repeat first | apply bN | apply bD | apply bA); exact BK132.out)) : gb132 ≠ gb130))
                have n18_ := Aside0.mk ((by rw [hg]; exact Nat.ne_of_gt (blk_lt (g := gb132) (by (with_reducible repeat first | apply bN | apply bD | apply bA); exact BK132.out)) : gb130 ≠ gb132))
                clear BK121
                clear BK122
                clear BK123
                clear BK131
                clear BK132
                clear HB
                have BK121 := n0_
                have BK122 := n1_
                have BK123 := n2_
                have BK131 := n3_
                have BK132 := n4_
                have HB := n5_
                have BK130 := n6_
                have GW130 := n7_
                have GE130 := n8_
                have NB121_130 := n9_
                have NB130_121 := n10_
                have NB122_130 := n11_
                have NB130_122 := n12_
                have NB123_130 := n13_
                have NB130_123 := n14_
                have NB131_130 := n15_
                have NB130_131 := n16_
                have NB132_130 := n17_
                have NB130_132 := n18_
                clear n0_ n1_ n2_ n3_ n4_ n5_ n6_ n7_ n8_ n9_ n10_ n11_ n12_ n13_ n14_ n15_ n16_ n17_ n18_
                clear hb hbox hg
                refine hK.out _ _ ⟨(blk_cell BK121.out 0).trans rfl, (blk_cell BK121.out 1).trans rfl, (blk_cell BK122.out 0).trans rfl, (blk_cell BK122.out 1).trans rfl, (blk_cell BK123.out 0).trans rfl, (blk_cell BK123.out 1).trans rfl⟩ (fun hHeld => ?_)
                clear hK K
                refine norm_ (a' := ?_) ?_ ?_
                rotate_left
                · show Act.put _ (some 7) _ = _
                  simp only [Act.put, lA, sZ, sC, i64_w, i32_w]
                  rfl
                exact norm_ (by first | (simp only [putAll, Act.put, lA, sZ, sC]; done) | (simp only [putAll, Act.put, lA, sZ, sC]; rfl)) (hJ3_4_5 (gb130, gb131, gb132) _ ⟨hHeld, (by (with_reducible repeat first | apply bN | apply bD | apply bA); exact BK121.out), (by (with_reducible repeat first | apply bN | apply bD | apply bA); exact BK122.out), (by (with_reducible repeat first | apply bN | apply bD | apply bA); exact BK123.out), (by (with_reducible repeat first | apply bN | apply bD | apply bA); exact BK130.out), (by (with_reducible repeat first | apply bN | apply bD | apply bA); exact BK131.out), (by (with_reducible repeat first | apply bN | apply bD | apply bA); exact BK132.out), GW130.out, GE130.out, NB121_130.out, NB130_121.out, NB122_130.out, NB130_122.out, NB123_130.out, NB130_123.out, NB131_130.out, NB130_131.out, NB132_130.out, NB130_132.out, GW131.out, GE131.out, NB121_131.out, NB131_121.out, NB122_131.out, NB131_122.out, NB123_131.out, NB131_123.out, NB132_131.out, NB131_132.out, GW132.out, GE132.out, NB121_132.out, NB132_121.out, NB122_132.out, NB132_122.out, NB123_132.out, NB132_123.out, (by repeat (first | (with_reducible first | exact HB.out | apply eA | apply eN | apply eD | refine bS ?_ GE121.out | refine bS ?_ GE122.out | refine bS ?_ GE123.out | refine bS ?_ GE131.out | refine bS ?_ GE132.out | refine bS ?_ GE130.out) | exact HB.out))⟩)
            · skip
              rintro ⟨gb130, gb132⟩ w29 ⟨hS_, h0_, h1_, h2_, h3_, h4_, h5_, h6_, h7_, h8_, h9_, h10_, h11_, h12_, h13_, h14_, h15_, h16_, h17_, h18_, h19_, h20_, h21_, h22_, h23_⟩
              have n0_ : Aside0 (w29.heap[gb121]? = some (.cells #[.int .i64 a0_0, .int .i64 a0_1] 31 (0, 0))) := ⟨h0_⟩
              have n1_ : Aside0 (w29.heap[gb122]? = some (.cells #[.int .i64 a1_0, .int .i64 a1_1] 31 (0, 0))) := ⟨h1_⟩
              have n2_ : Aside0 (w29.heap[gb123]? = some (.cells #[.int .i64 a2_0, .int .i64 a2_1] 31 (0, 0))) := ⟨h2_⟩
              have n3_ : Aside0 (w29.heap[gb130]? = some (.cells #[.int .i64 0, .int .i64 0] 33 (0, 0))) := ⟨h3_⟩
              have n4_ : Aside0 (w29.heap[gb132]? = some (.cells #[.int .i64 0, .int .i64 0] 33 (0, 0))) := ⟨h4_⟩
              have n5_ : Aside0 (w.heap.size ≤ gb130) := ⟨h5_⟩
              have n6_ : Aside0 (w.heap.size ≤ gb130) := ⟨h6_⟩
              have n7_ : Aside0 (gb121 ≠ gb130) := ⟨h7_⟩
              have n8_ : Aside0 (gb130 ≠ gb121) := ⟨h8_⟩
              have n9_ : Aside0 (gb122 ≠ gb130) := ⟨h9_⟩
              have n10_ : Aside0 (gb130 ≠ gb122) := ⟨h10_⟩
              have n11_ : Aside0 (gb123 ≠ gb130) := ⟨h11_⟩
              have n12_ : Aside0 (gb130 ≠ gb123) := ⟨h12_⟩
              have n13_ : Aside0 (gb132 ≠ gb130) := ⟨h13_⟩
              have n14_ : Aside0 (gb130 ≠ gb132) := ⟨h14_⟩
              have n15_ : Aside0 (w.heap.size ≤ gb132) := ⟨h15_⟩
              have n16_ : Aside0 (w.heap.size ≤ gb132) := ⟨h16_⟩
              have n17_ : Aside0 (gb121 ≠ gb132) := ⟨h17_⟩
              have n18_ : Aside0 (gb132 ≠ gb121) := ⟨h18_⟩
              have n19_ : Aside0 (gb122 ≠ gb132) := ⟨h19_⟩
              have n20_ : Aside0 (gb132 ≠ gb122) := ⟨h20_⟩
              have n21_ : Aside0 (gb123 ≠ gb132) := ⟨h21_⟩
              have n22_ : Aside0 (gb132 ≠ gb123) := ⟨h22_⟩
              have n23_ : Aside0 (Below w.heap.size w w29) := ⟨h23_⟩
              clear BK121
              clear BK122
              clear BK123
              clear HB
              clear h0_ h1_ h2_ h3_ h4_ h5_ h6_ h7_ h8_ h9_ h10_ h11_ h12_ h13_ h14_ h15_ h16_ h17_ h18_ h19_ h20_ h21_ h22_ h23_
              have BK121 := n0_
              have BK122 := n1_
              have BK123 := n2_
              have BK130 := n3_
              have BK132 := n4_
              have GW130 := n5_
              have GE130 := n6_
              have NB121_130 := n7_
              have NB130_121 := n8_
              have NB122_130 := n9_
              have NB130_122 := n10_
              have NB123_130 := n11_
              have NB130_123 := n12_
              have NB132_130 := n13_
              have NB130_132 := n14_
              have GW132 := n15_
              have GE132 := n16_
              have NB121_132 := n17_
              have NB132_121 := n18_
              have NB122_132 := n19_
              have NB132_122 := n20_
              have NB123_132 := n21_
              have NB132_123 := n22_
              have HB := n23_
              clear n0_ n1_ n2_ n3_ n4_ n5_ n6_ n7_ n8_ n9_ n10_ n11_ n12_ n13_ n14_ n15_ n16_ n17_ n18_ n19_ n20_ n21_ n22_ n23_
              have hHeld : w29.cell? ⟨gb121, 0, none⟩ = some (.int .i64 a0_0) ∧ w29.cell? ⟨gb121, 1, none⟩ = some (.int .i64 a0_1) ∧ w29.cell? ⟨gb122, 0, none⟩ = some (.int .i64 a1_0) ∧ w29.cell? ⟨gb122, 1, none⟩ = some (.int .i64 a1_1) ∧ w29.cell? ⟨gb123, 0, none⟩ = some (.int .i64 a2_0) ∧ w29.cell? ⟨gb123, 1, none⟩ = some (.int .i64 a2_1) := hS_
              refine norm_ (a' := ?_) ?_ ?_
              rotate_left
              · simp only [putAll, Act.put, lA, sZ, sC]
                rfl
              refine one_ (i := 4) (N := some 8) #[tt, tt, tt, tt, tt, tt, ff, ff, ff] rfl rfl (one_of HT_.out (by kernel_rfl)) (by decide) (fun K hK => ?_)
              refine box_step ?hg (N := 8) ?hd (cs := #[.int .i64 0, .int .i64 0]) (t := 33) ?hr ?_; (case hd => rfl); (case hg => rfl); (case hr => first | (go_simp; done) | (go_simp; rfl))
              intro gb131 hg w30 hbox hb
              have n0_ := Aside0.mk (blk_below (by (with_reducible repeat first | apply bN | apply bD | apply bA); exact BK121.out) hb)
              have n1_ := Aside0.mk (blk_below (by (with_reducible repeat first | apply bN | apply bD | apply bA); exact BK122.out) hb)
              have n2_ := Aside0.mk (blk_below (by (with_reducible repeat first | apply bN | apply bD | apply bA); exact BK123.out) hb)
              have n3_ := Aside0.mk (blk_below (by (with_reducible repeat first | apply bN | apply bD | apply bA); exact BK130.out) hb)
              have n4_ := Aside0.mk (blk_below (by (with_reducible repeat first | apply bN | apply bD | apply bA); exact BK132.out) hb)
              have n5_ := Aside0.mk (below_step (by repeat (first | (with_reducible first | exact HB.out | apply eA | apply eN | apply eD | refine bS ?_ GE121.out | refine bS ?_ GE122.out | refine bS ?_ GE123.out | refine bS ?_ GE130.out | refine bS ?_ GE132.out) | exact HB.out)) hb)
              have n6_ := Aside0.mk (hbox)
              have n7_ := Aside0.mk ((by rw [hg]; exact (below_size (by repeat (first | (with_reducible first | exact HB.out | apply eA | apply eN | apply eD | refine bS ?_ GE121.out | refine bS ?_ GE122.out | refine bS ?_ GE123.out | refine bS ?_ GE130.out | refine bS ?_ GE132.out) | exact HB.out))) : w.heap.size ≤ gb131))
              have n8_ := Aside0.mk ((by rw [hg]; exact (below_size (by repeat (first | (with_reducible first | exact HB.out | apply eA | apply eN | apply eD | refine bS ?_ GE121.out | refine bS ?_ GE122.out | refine bS ?_ GE123.out | refine bS ?_ GE130.out | refine bS ?_ GE132.out) | exact HB.out))) : w.heap.size ≤ gb131))
              have n9_ := Aside0.mk ((by rw [hg]; exact Nat.ne_of_lt (blk_lt (g := gb121) (by (with_reducible repeat first | apply bN | apply bD | apply bA); exact BK121.out)) : gb121 ≠ gb131))
              have n10_ := Aside0.mk ((by rw [hg]; exact Nat.ne_of_gt (blk_lt (g := gb121) (by (with_reducible repeat first | apply bN | apply bD | apply bA); exact BK121.out)) : gb131 ≠ gb121))
              have n11_ := Aside0.mk ((by rw [hg]; exact Nat.ne_of_lt (blk_lt (g := gb122) (by (with_reducible repeat first | apply bN | apply bD | apply bA); exact BK122.out)) : gb122 ≠ gb131))
              have n12_ := Aside0.mk ((by rw [hg]; exact Nat.ne_of_gt (blk_lt (g := gb122) (by (with_reducible repeat first | apply bN | apply bD | apply bA); exact BK122.out)) : gb131 ≠ gb122))
              have n13_ := Aside0.mk ((by rw [hg]; exact Nat.ne_of_lt (blk_lt (g := gb123) (by (with_reducible repeat first | apply bN | apply bD | apply bA); exact BK123.out)) : gb123 ≠ gb131))
              have n14_ := Aside0.mk ((by rw [hg]; exact Nat.ne_of_gt (blk_lt (g := gb123) (by (with_reducible repeat first | apply bN | apply bD | apply bA); exact BK123.out)) : gb131 ≠ gb123))
              have n15_ := Aside0.mk ((by rw [hg]; exact Nat.ne_of_lt (blk_lt (g := gb130) (by (with_reducible repeat first | apply bN | apply bD | apply bA); exact BK130.out)) : gb130 ≠ gb131))
              have n16_ := Aside0.mk ((by rw [hg]; exact Nat.ne_of_gt (blk_lt (g := gb130) (by (with_reducible repeat first | apply bN | apply bD | apply bA); exact BK130.out)) : gb131 ≠ gb130))
              have n17_ := Aside0.mk ((by rw [hg]; exact Nat.ne_of_lt (blk_lt (g := gb132) (by (with_reducible repeat first | apply bN | apply bD | apply bA); exact BK132.out)) : gb132 ≠ gb131))
              have n18_ := Aside0.mk ((by rw [hg]; exact Nat.ne_of_gt (blk_lt (g := gb132) (by (with_reducible repeat first | apply bN | apply bD | apply bA); exact BK132.out)) : gb131 ≠ gb132))
              clear BK121
              clear BK122
              clear BK123
              clear BK130
              clear BK132
              clear HB
              have BK121 := n0_
              have BK122 := n1_
              have BK123 := n2_
              have BK130 := n3_
              have BK132 := n4_
              have HB := n5_
              have BK131 := n6_
              have GW131 := n7_
              have GE131 := n8_
              have NB121_131 := n9_
              have NB131_121 := n10_
              have NB122_131 := n11_
              have NB131_122 := n12_
              have NB123_131 := n13_
              have NB131_123 := n14_
              have NB130_131 := n15_
              have NB131_130 := n16_
              have NB132_131 := n17_
              have NB131_132 := n18_
              clear n0_ n1_ n2_ n3_ n4_ n5_ n6_ n7_ n8_ n9_ n10_ n11_ n12_ n13_ n14_ n15_ n16_ n17_ n18_
              clear hb hbox hg
              refine hK.out _ _ ⟨(blk_cell BK121.out 0).trans rfl, (blk_cell BK121.out 1).trans rfl, (blk_cell BK122.out 0).trans rfl, (blk_cell BK122.out 1).trans rfl, (blk_cell BK123.out 0).trans rfl, (blk_cell BK123.out 1).trans rfl⟩ (fun hHeld => ?_)
              clear hK K
              refine norm_ (a' := ?_) ?_ ?_
              rotate_left
              · show Act.put _ (some 8) _ = _
                simp only [Act.put, lA, sZ, sC, i64_w, i32_w]
                rfl
              exact norm_ (by first | (simp only [putAll, Act.put, lA, sZ, sC]; done) | (simp only [putAll, Act.put, lA, sZ, sC]; rfl)) (hJ3_4_5 (gb130, gb131, gb132) _ ⟨hHeld, (by (with_reducible repeat first | apply bN | apply bD | apply bA); exact BK121.out), (by (with_reducible repeat first | apply bN | apply bD | apply bA); exact BK122.out), (by (with_reducible repeat first | apply bN | apply bD | apply bA); exact BK123.out), (by (with_reducible repeat first | apply bN | apply bD | apply bA); exact BK130.out), (by (with_reducible repeat first | apply bN | apply bD | apply bA); exact BK131.out), (by (with_reducible repeat first | apply bN | apply bD | apply bA); exact BK132.out), GW130.out, GE130.out, NB121_130.out, NB130_121.out, NB122_130.out, NB130_122.out, NB123_130.out, NB130_123.out, NB131_130.out, NB130_131.out, NB132_130.out, NB130_132.out, GW131.out, GE131.out, NB121_131.out, NB131_121.out, NB122_131.out, NB131_122.out, NB123_131.out, NB131_123.out, NB132_131.out, NB131_132.out, GW132.out, GE132.out, NB121_132.out, NB132_121.out, NB122_132.out, NB132_122.out, NB123_132.out, NB132_123.out, (by repeat (first | (with_reducible first | exact HB.out | apply eA | apply eN | apply eD | refine bS ?_ GE121.out | refine bS ?_ GE122.out | refine bS ?_ GE123.out | refine bS ?_ GE130.out | refine bS ?_ GE132.out | refine bS ?_ GE131.out) | exact HB.out))⟩)
          · skip
            rintro ⟨gb130, gb131⟩ w29 ⟨hS_, h0_, h1_, h2_, h3_, h4_, h5_, h6_, h7_, h8_, h9_, h10_, h11_, h12_, h13_, h14_, h15_, h16_, h17_, h18_, h19_, h20_, h21_, h22_, h23_⟩
            have n0_ : Aside0 (w29.heap[gb121]? = some (.cells #[.int .i64 a0_0, .int .i64 a0_1] 31 (0, 0))) := ⟨h0_⟩
            have n1_ : Aside0 (w29.heap[gb122]? = some (.cells #[.int .i64 a1_0, .int .i64 a1_1] 31 (0, 0))) := ⟨h1_⟩
            have n2_ : Aside0 (w29.heap[gb123]? = some (.cells #[.int .i64 a2_0, .int .i64 a2_1] 31 (0, 0))) := ⟨h2_⟩
            have n3_ : Aside0 (w29.heap[gb130]? = some (.cells #[.int .i64 0, .int .i64 0] 33 (0, 0))) := ⟨h3_⟩
            have n4_ : Aside0 (w29.heap[gb131]? = some (.cells #[.int .i64 0, .int .i64 0] 33 (0, 0))) := ⟨h4_⟩
            have n5_ : Aside0 (w.heap.size ≤ gb130) := ⟨h5_⟩
            have n6_ : Aside0 (w.heap.size ≤ gb130) := ⟨h6_⟩
            have n7_ : Aside0 (gb121 ≠ gb130) := ⟨h7_⟩
            have n8_ : Aside0 (gb130 ≠ gb121) := ⟨h8_⟩
            have n9_ : Aside0 (gb122 ≠ gb130) := ⟨h9_⟩
            have n10_ : Aside0 (gb130 ≠ gb122) := ⟨h10_⟩
            have n11_ : Aside0 (gb123 ≠ gb130) := ⟨h11_⟩
            have n12_ : Aside0 (gb130 ≠ gb123) := ⟨h12_⟩
            have n13_ : Aside0 (gb131 ≠ gb130) := ⟨h13_⟩
            have n14_ : Aside0 (gb130 ≠ gb131) := ⟨h14_⟩
            have n15_ : Aside0 (w.heap.size ≤ gb131) := ⟨h15_⟩
            have n16_ : Aside0 (w.heap.size ≤ gb131) := ⟨h16_⟩
            have n17_ : Aside0 (gb121 ≠ gb131) := ⟨h17_⟩
            have n18_ : Aside0 (gb131 ≠ gb121) := ⟨h18_⟩
            have n19_ : Aside0 (gb122 ≠ gb131) := ⟨h19_⟩
            have n20_ : Aside0 (gb131 ≠ gb122) := ⟨h20_⟩
            have n21_ : Aside0 (gb123 ≠ gb131) := ⟨h21_⟩
            have n22_ : Aside0 (gb131 ≠ gb123) := ⟨h22_⟩
            have n23_ : Aside0 (Below w.heap.size w w29) := ⟨h23_⟩
            clear BK121
            clear BK122
            clear BK123
            clear HB
            clear h0_ h1_ h2_ h3_ h4_ h5_ h6_ h7_ h8_ h9_ h10_ h11_ h12_ h13_ h14_ h15_ h16_ h17_ h18_ h19_ h20_ h21_ h22_ h23_
            have BK121 := n0_
            have BK122 := n1_
            have BK123 := n2_
            have BK130 := n3_
            have BK131 := n4_
            have GW130 := n5_
            have GE130 := n6_
            have NB121_130 := n7_
            have NB130_121 := n8_
            have NB122_130 := n9_
            have NB130_122 := n10_
            have NB123_130 := n11_
            have NB130_123 := n12_
            have NB131_130 := n13_
            have NB130_131 := n14_
            have GW131 := n15_
            have GE131 := n16_
            have NB121_131 := n17_
            have NB131_121 := n18_
            have NB122_131 := n19_
            have NB131_122 := n20_
            have NB123_131 := n21_
            have NB131_123 := n22_
            have HB := n23_
            clear n0_ n1_ n2_ n3_ n4_ n5_ n6_ n7_ n8_ n9_ n10_ n11_ n12_ n13_ n14_ n15_ n16_ n17_ n18_ n19_ n20_ n21_ n22_ n23_
            have hHeld : w29.cell? ⟨gb121, 0, none⟩ = some (.int .i64 a0_0) ∧ w29.cell? ⟨gb121, 1, none⟩ = some (.int .i64 a0_1) ∧ w29.cell? ⟨gb122, 0, none⟩ = some (.int .i64 a1_0) ∧ w29.cell? ⟨gb122, 1, none⟩ = some (.int .i64 a1_1) ∧ w29.cell? ⟨gb123, 0, none⟩ = some (.int .i64 a2_0) ∧ w29.cell? ⟨gb123, 1, none⟩ = some (.int .i64 a2_1) := hS_
            refine norm_ (a' := ?_) ?_ ?_
            rotate_left
            · simp only [putAll, Act.put, lA, sZ, sC]
              rfl
            refine one_ (i := 5) (N := some 9) #[tt, tt, tt, tt, tt, tt, ff, ff, ff] rfl rfl (one_of HT_.out (by kernel_rfl)) (by decide) (fun K hK => ?_)
            refine box_step ?hg (N := 9) ?hd (cs := #[.int .i64 0, .int .i64 0]) (t := 33) ?hr ?_; (case hd => rfl); (case hg => rfl); (case hr => first | (go_simp; done) | (go_simp; rfl))
            intro gb132 hg w30 hbox hb
            have n0_ := Aside0.mk (blk_below (by (with_reducible repeat first | apply bN | apply bD | apply bA); exact BK121.out) hb)
            have n1_ := Aside0.mk (blk_below (by (with_reducible repeat first | apply bN | apply bD | apply bA); exact BK122.out) hb)
            have n2_ := Aside0.mk (blk_below (by (with_reducible repeat first | apply bN | apply bD | apply bA); exact BK123.out) hb)
            have n3_ := Aside0.mk (blk_below (by (with_reducible repeat first | apply bN | apply bD | apply bA); exact BK130.out) hb)
            have n4_ := Aside0.mk (blk_below (by (with_reducible repeat first | apply bN | apply bD | apply bA); exact BK131.out) hb)
            have n5_ := Aside0.mk (below_step (by repeat (first | (with_reducible first | exact HB.out | apply eA | apply eN | apply eD | refine bS ?_ GE121.out | refine bS ?_ GE122.out | refine bS ?_ GE123.out | refine bS ?_ GE130.out | refine bS ?_ GE131.out) | exact HB.out)) hb)
            have n6_ := Aside0.mk (hbox)
            have n7_ := Aside0.mk ((by rw [hg]; exact (below_size (by repeat (first | (with_reducible first | exact HB.out | apply eA | apply eN | apply eD | refine bS ?_ GE121.out | refine bS ?_ GE122.out | refine bS ?_ GE123.out | refine bS ?_ GE130.out | refine bS ?_ GE131.out) | exact HB.out))) : w.heap.size ≤ gb132))
            have n8_ := Aside0.mk ((by rw [hg]; exact (below_size (by repeat (first | (with_reducible first | exact HB.out | apply eA | apply eN | apply eD | refine bS ?_ GE121.out | refine bS ?_ GE122.out | refine bS ?_ GE123.out | refine bS ?_ GE130.out | refine bS ?_ GE131.out) | exact HB.out))) : w.heap.size ≤ gb132))
            have n9_ := Aside0.mk ((by rw [hg]; exact Nat.ne_of_lt (blk_lt (g := gb121) (by (with_reducible repeat first | apply bN | apply bD | apply bA); exact BK121.out)) : gb121 ≠ gb132))
            have n10_ := Aside0.mk ((by rw [hg]; exact Nat.ne_of_gt (blk_lt (g := gb121) (by (with_reducible repeat first | apply bN | apply bD | apply bA); exact BK121.out)) : gb132 ≠ gb121))
            have n11_ := Aside0.mk ((by rw [hg]; exact Nat.ne_of_lt (blk_lt (g := gb122) (by (with_reducible repeat first | apply bN | apply bD | apply bA); exact BK122.out)) : gb122 ≠ gb132))
            have n12_ := Aside0.mk ((by rw [hg]; exact Nat.ne_of_gt (blk_lt (g := gb122) (by (with_reducible repeat first | apply bN | apply bD | apply bA); exact BK122.out)) : gb132 ≠ gb122))
            have n13_ := Aside0.mk ((by rw [hg]; exact Nat.ne_of_lt (blk_lt (g := gb123) (by (with_reducible repeat first | apply bN | apply bD | apply bA); exact BK123.out)) : gb123 ≠ gb132))
            have n14_ := Aside0.mk ((by rw [hg]; exact Nat.ne_of_gt (blk_lt (g := gb123) (by (with_reducible repeat first | apply bN | apply bD | apply bA); exact BK123.out)) : gb132 ≠ gb123))
            have n15_ := Aside0.mk ((by rw [hg]; exact Nat.ne_of_lt (blk_lt (g := gb130) (by (with_reducible repeat first | apply bN | apply bD | apply bA); exact BK130.out)) : gb130 ≠ gb132))
            have n16_ := Aside0.mk ((by rw [hg]; exact Nat.ne_of_gt (blk_lt (g := gb130) (by (with_reducible repeat first | apply bN | apply bD | apply bA); exact BK130.out)) : gb132 ≠ gb130))
            have n17_ := Aside0.mk ((by rw [hg]; exact Nat.ne_of_lt (blk_lt (g := gb131) (by (with_reducible repeat first | apply bN | apply bD | apply bA); exact BK131.out)) : gb131 ≠ gb132))
            have n18_ := Aside0.mk ((by rw [hg]; exact Nat.ne_of_gt (blk_lt (g := gb131) (by (with_reducible repeat first | apply bN | apply bD | apply bA); exact BK131.out)) : gb132 ≠ gb131))
            clear BK121
            clear BK122
            clear BK123
            clear BK130
            clear BK131
            clear HB
            have BK121 := n0_
            have BK122 := n1_
            have BK123 := n2_
            have BK130 := n3_
            have BK131 := n4_
            have HB := n5_
            have BK132 := n6_
            have GW132 := n7_
            have GE132 := n8_
            have NB121_132 := n9_
            have NB132_121 := n10_
            have NB122_132 := n11_
            have NB132_122 := n12_
            have NB123_132 := n13_
            have NB132_123 := n14_
            have NB130_132 := n15_
            have NB132_130 := n16_
            have NB131_132 := n17_
            have NB132_131 := n18_
            clear n0_ n1_ n2_ n3_ n4_ n5_ n6_ n7_ n8_ n9_ n10_ n11_ n12_ n13_ n14_ n15_ n16_ n17_ n18_
            clear hb hbox hg
            refine hK.out _ _ ⟨(blk_cell BK121.out 0).trans rfl, (blk_cell BK121.out 1).trans rfl, (blk_cell BK122.out 0).trans rfl, (blk_cell BK122.out 1).trans rfl, (blk_cell BK123.out 0).trans rfl, (blk_cell BK123.out 1).trans rfl⟩ (fun hHeld => ?_)
            clear hK K
            refine norm_ (a' := ?_) ?_ ?_
            rotate_left
            · show Act.put _ (some 9) _ = _
              simp only [Act.put, lA, sZ, sC, i64_w, i32_w]
              rfl
            exact norm_ (by first | (simp only [putAll, Act.put, lA, sZ, sC]; done) | (simp only [putAll, Act.put, lA, sZ, sC]; rfl)) (hJ3_4_5 (gb130, gb131, gb132) _ ⟨hHeld, (by (with_reducible repeat first | apply bN | apply bD | apply bA); exact BK121.out), (by (with_reducible repeat first | apply bN | apply bD | apply bA); exact BK122.out), (by (with_reducible repeat first | apply bN | apply bD | apply bA); exact BK123.out), (by (with_reducible repeat first | apply bN | apply bD | apply bA); exact BK130.out), (by (with_reducible repeat first | apply bN | apply bD | apply bA); exact BK131.out), (by (with_reducible repeat first | apply bN | apply bD | apply bA); exact BK132.out), GW130.out, GE130.out, NB121_130.out, NB130_121.out, NB122_130.out, NB130_122.out, NB123_130.out, NB130_123.out, NB131_130.out, NB130_131.out, NB132_130.out, NB130_132.out, GW131.out, GE131.out, NB121_131.out, NB131_121.out, NB122_131.out, NB131_122.out, NB123_131.out, NB131_123.out, NB132_131.out, NB131_132.out, GW132.out, GE132.out, NB121_132.out, NB132_121.out, NB122_132.out, NB132_122.out, NB123_132.out, NB132_123.out, (by repeat (first | (with_reducible first | exact HB.out | apply eA | apply eN | apply eD | refine bS ?_ GE121.out | refine bS ?_ GE122.out | refine bS ?_ GE123.out | refine bS ?_ GE130.out | refine bS ?_ GE131.out | refine bS ?_ GE132.out) | exact HB.out))⟩)
        rintro ⟨gb130, gb131, gb132⟩ w30 ⟨hS_, h0_, h1_, h2_, h3_, h4_, h5_, h6_, h7_, h8_, h9_, h10_, h11_, h12_, h13_, h14_, h15_, h16_, h17_, h18_, h19_, h20_, h21_, h22_, h23_, h24_, h25_, h26_, h27_, h28_, h29_, h30_, h31_, h32_, h33_, h34_, h35_, h36_⟩
        have n0_ : Aside0 (w30.heap[gb121]? = some (.cells #[.int .i64 a0_0, .int .i64 a0_1] 31 (0, 0))) := ⟨h0_⟩
        have n1_ : Aside0 (w30.heap[gb122]? = some (.cells #[.int .i64 a1_0, .int .i64 a1_1] 31 (0, 0))) := ⟨h1_⟩
        have n2_ : Aside0 (w30.heap[gb123]? = some (.cells #[.int .i64 a2_0, .int .i64 a2_1] 31 (0, 0))) := ⟨h2_⟩
        have n3_ : Aside0 (w30.heap[gb130]? = some (.cells #[.int .i64 0, .int .i64 0] 33 (0, 0))) := ⟨h3_⟩
        have n4_ : Aside0 (w30.heap[gb131]? = some (.cells #[.int .i64 0, .int .i64 0] 33 (0, 0))) := ⟨h4_⟩
        have n5_ : Aside0 (w30.heap[gb132]? = some (.cells #[.int .i64 0, .int .i64 0] 33 (0, 0))) := ⟨h5_⟩
        have n6_ : Aside0 (w.heap.size ≤ gb130) := ⟨h6_⟩
        have n7_ : Aside0 (w.heap.size ≤ gb130) := ⟨h7_⟩
        have n8_ : Aside0 (gb121 ≠ gb130) := ⟨h8_⟩
        have n9_ : Aside0 (gb130 ≠ gb121) := ⟨h9_⟩
        have n10_ : Aside0 (gb122 ≠ gb130) := ⟨h10_⟩
        have n11_ : Aside0 (gb130 ≠ gb122) := ⟨h11_⟩
        have n12_ : Aside0 (gb123 ≠ gb130) := ⟨h12_⟩
        have n13_ : Aside0 (gb130 ≠ gb123) := ⟨h13_⟩
        have n14_ : Aside0 (gb131 ≠ gb130) := ⟨h14_⟩
        have n15_ : Aside0 (gb130 ≠ gb131) := ⟨h15_⟩
        have n16_ : Aside0 (gb132 ≠ gb130) := ⟨h16_⟩
        have n17_ : Aside0 (gb130 ≠ gb132) := ⟨h17_⟩
        have n18_ : Aside0 (w.heap.size ≤ gb131) := ⟨h18_⟩
        have n19_ : Aside0 (w.heap.size ≤ gb131) := ⟨h19_⟩
        have n20_ : Aside0 (gb121 ≠ gb131) := ⟨h20_⟩
        have n21_ : Aside0 (gb131 ≠ gb121) := ⟨h21_⟩
        have n22_ : Aside0 (gb122 ≠ gb131) := ⟨h22_⟩
        have n23_ : Aside0 (gb131 ≠ gb122) := ⟨h23_⟩
        have n24_ : Aside0 (gb123 ≠ gb131) := ⟨h24_⟩
        have n25_ : Aside0 (gb131 ≠ gb123) := ⟨h25_⟩
        have n26_ : Aside0 (gb132 ≠ gb131) := ⟨h26_⟩
        have n27_ : Aside0 (gb131 ≠ gb132) := ⟨h27_⟩
        have n28_ : Aside0 (w.heap.size ≤ gb132) := ⟨h28_⟩
        have n29_ : Aside0 (w.heap.size ≤ gb132) := ⟨h29_⟩
        have n30_ : Aside0 (gb121 ≠ gb132) := ⟨h30_⟩
        have n31_ : Aside0 (gb132 ≠ gb121) := ⟨h31_⟩
        have n32_ : Aside0 (gb122 ≠ gb132) := ⟨h32_⟩
        have n33_ : Aside0 (gb132 ≠ gb122) := ⟨h33_⟩
        have n34_ : Aside0 (gb123 ≠ gb132) := ⟨h34_⟩
        have n35_ : Aside0 (gb132 ≠ gb123) := ⟨h35_⟩
        have n36_ : Aside0 (Below w.heap.size w w30) := ⟨h36_⟩
        clear BK121
        clear BK122
        clear BK123
        clear HB
        clear h0_ h1_ h2_ h3_ h4_ h5_ h6_ h7_ h8_ h9_ h10_ h11_ h12_ h13_ h14_ h15_ h16_ h17_ h18_ h19_ h20_ h21_ h22_ h23_ h24_ h25_ h26_ h27_ h28_ h29_ h30_ h31_ h32_ h33_ h34_ h35_ h36_
        have BK121 := n0_
        have BK122 := n1_
        have BK123 := n2_
        have BK130 := n3_
        have BK131 := n4_
        have BK132 := n5_
        have GW130 := n6_
        have GE130 := n7_
        have NB121_130 := n8_
        have NB130_121 := n9_
        have NB122_130 := n10_
        have NB130_122 := n11_
        have NB123_130 := n12_
        have NB130_123 := n13_
        have NB131_130 := n14_
        have NB130_131 := n15_
        have NB132_130 := n16_
        have NB130_132 := n17_
        have GW131 := n18_
        have GE131 := n19_
        have NB121_131 := n20_
        have NB131_121 := n21_
        have NB122_131 := n22_
        have NB131_122 := n23_
        have NB123_131 := n24_
        have NB131_123 := n25_
        have NB132_131 := n26_
        have NB131_132 := n27_
        have GW132 := n28_
        have GE132 := n29_
        have NB121_132 := n30_
        have NB132_121 := n31_
        have NB122_132 := n32_
        have NB132_122 := n33_
        have NB123_132 := n34_
        have NB132_123 := n35_
        have HB := n36_
        clear n0_ n1_ n2_ n3_ n4_ n5_ n6_ n7_ n8_ n9_ n10_ n11_ n12_ n13_ n14_ n15_ n16_ n17_ n18_ n19_ n20_ n21_ n22_ n23_ n24_ n25_ n26_ n27_ n28_ n29_ n30_ n31_ n32_ n33_ n34_ n35_ n36_
        have hHeld : w30.cell? ⟨gb121, 0, none⟩ = some (.int .i64 a0_0) ∧ w30.cell? ⟨gb121, 1, none⟩ = some (.int .i64 a0_1) ∧ w30.cell? ⟨gb122, 0, none⟩ = some (.int .i64 a1_0) ∧ w30.cell? ⟨gb122, 1, none⟩ = some (.int .i64 a1_1) ∧ w30.cell? ⟨gb123, 0, none⟩ = some (.int .i64 a2_0) ∧ w30.cell? ⟨gb123, 1, none⟩ = some (.int .i64 a2_1) := hS_
        refine norm_ (a' := ?_) ?_ ?_
        rotate_left
        · simp only [putAll, Act.put, lA, sZ, sC]
          rfl
        refine one_ (i := 6) (N := none) #[tt, tt, tt, tt, tt, tt, tt, ff, ff] rfl rfl (one_of HT_.out (by kernel_rfl)) (by decide) (fun K hK => ?_)
        have hs31 : w30.cell? ⟨gb130, 0, none⟩ = some (.int .i64 0) := (blk_cell BK130.out 0).trans rfl
        have hfs31 := blk_frozen BK130.out 0
        have hns31_0 := NB121_130.out
        have hns31_1 := NB122_130.out
        have hns31_2 := NB123_130.out
        have hns31_4 := NB131_130.out
        have hns31_5 := NB132_130.out
        have hms31_0 := NB130_121.out
        have hms31_1 := NB130_122.out
        have hms31_2 := NB130_123.out
        have hms31_4 := NB130_131.out
        have hms31_5 := NB130_132.out
        have hs32 : w30.cell? ⟨gb130, 1, none⟩ = some (.int .i64 0) := (blk_cell BK130.out 1).trans rfl
        have hfs32 := blk_frozen BK130.out 1
        have hns32_0 := NB121_130.out
        have hns32_1 := NB122_130.out
        have hns32_2 := NB123_130.out
        have hns32_4 := NB131_130.out
        have hns32_5 := NB132_130.out
        have hms32_0 := NB130_121.out
        have hms32_1 := NB130_122.out
        have hms32_2 := NB130_123.out
        have hms32_4 := NB130_131.out
        have hms32_5 := NB130_132.out
        refine skip_ (w1 := ?_) (by rfl) rfl ?_ ?_
        rotate_left
        · go_simp
          rfl
        refine hK.out _ _ ⟨((cell_far (p := ⟨gb130, _, none⟩) NB121_130.out _).trans (((cell_far (p := ⟨gb130, _, none⟩) NB121_130.out _).trans (hHeld.1)))), ((cell_far (p := ⟨gb130, _, none⟩) NB121_130.out _).trans (((cell_far (p := ⟨gb130, _, none⟩) NB121_130.out _).trans (hHeld.2.1)))), ((cell_far (p := ⟨gb130, _, none⟩) NB122_130.out _).trans (((cell_far (p := ⟨gb130, _, none⟩) NB122_130.out _).trans (hHeld.2.2.1)))), ((cell_far (p := ⟨gb130, _, none⟩) NB122_130.out _).trans (((cell_far (p := ⟨gb130, _, none⟩) NB122_130.out _).trans (hHeld.2.2.2.1)))), ((cell_far (p := ⟨gb130, _, none⟩) NB123_130.out _).trans (((cell_far (p := ⟨gb130, _, none⟩) NB123_130.out _).trans (hHeld.2.2.2.2.1)))), ((cell_far (p := ⟨gb130, _, none⟩) NB123_130.out _).trans (((cell_far (p := ⟨gb130, _, none⟩) NB123_130.out _).trans (hHeld.2.2.2.2.2))))⟩ (fun hHeld => ?_)
        clear hK K
        refine one_ (i := 7) (N := none) #[tt, tt, tt, tt, tt, tt, tt, tt, ff] rfl rfl (one_of HT_.out (by kernel_rfl)) (by decide) (fun K hK => ?_)
        have hs33 : w30.cell? ⟨gb131, 0, none⟩ = some (.int .i64 0) := (blk_cell BK131.out 0).trans rfl
        have hfs33 := blk_frozen BK131.out 0
        have hns33_0 := NB121_131.out
        have hns33_1 := NB122_131.out
        have hns33_2 := NB123_131.out
        have hns33_3 := NB130_131.out
        have hns33_5 := NB132_131.out
        have hms33_0 := NB131_121.out
        have hms33_1 := NB131_122.out
        have hms33_2 := NB131_123.out
        have hms33_3 := NB131_130.out
        have hms33_5 := NB131_132.out
        have hs34 : w30.cell? ⟨gb131, 1, none⟩ = some (.int .i64 0) := (blk_cell BK131.out 1).trans rfl
        have hfs34 := blk_frozen BK131.out 1
        have hns34_0 := NB121_131.out
        have hns34_1 := NB122_131.out
        have hns34_2 := NB123_131.out
        have hns34_3 := NB130_131.out
        have hns34_5 := NB132_131.out
        have hms34_0 := NB131_121.out
        have hms34_1 := NB131_122.out
        have hms34_2 := NB131_123.out
        have hms34_3 := NB131_130.out
        have hms34_5 := NB131_132.out
        refine skip_ (w1 := ?_) (by rfl) rfl ?_ ?_
        rotate_left
        · go_simp
          rfl
        refine hK.out _ _ ⟨((cell_far (p := ⟨gb131, _, none⟩) NB121_131.out _).trans (((cell_far (p := ⟨gb131, _, none⟩) NB121_131.out _).trans (hHeld.1)))), ((cell_far (p := ⟨gb131, _, none⟩) NB121_131.out _).trans (((cell_far (p := ⟨gb131, _, none⟩) NB121_131.out _).trans (hHeld.2.1)))), ((cell_far (p := ⟨gb131, _, none⟩) NB122_131.out _).trans (((cell_far (p := ⟨gb131, _, none⟩) NB122_131.out _).trans (hHeld.2.2.1)))), ((cell_far (p := ⟨gb131, _, none⟩) NB122_131.out _).trans (((cell_far (p := ⟨gb131, _, none⟩) NB122_131.out _).trans (hHeld.2.2.2.1)))), ((cell_far (p := ⟨gb131, _, none⟩) NB123_131.out _).trans (((cell_far (p := ⟨gb131, _, none⟩) NB123_131.out _).trans (hHeld.2.2.2.2.1)))), ((cell_far (p := ⟨gb131, _, none⟩) NB123_131.out _).trans (((cell_far (p := ⟨gb131, _, none⟩) NB123_131.out _).trans (hHeld.2.2.2.2.2))))⟩ (fun hHeld => ?_)
        clear hK K
        refine one_ (i := 8) (N := none) #[tt, tt, tt, tt, tt, tt, tt, tt, tt] rfl rfl (one_of HT_.out (by kernel_rfl)) (by decide) (fun K hK => ?_)
        have hs35 : w30.cell? ⟨gb132, 0, none⟩ = some (.int .i64 0) := (blk_cell BK132.out 0).trans rfl
        have hfs35 := blk_frozen BK132.out 0
        have hns35_0 := NB121_132.out
        have hns35_1 := NB122_132.out
        have hns35_2 := NB123_132.out
        have hns35_3 := NB130_132.out
        have hns35_4 := NB131_132.out
        have hms35_0 := NB132_121.out
        have hms35_1 := NB132_122.out
        have hms35_2 := NB132_123.out
        have hms35_3 := NB132_130.out
        have hms35_4 := NB132_131.out
        have hs36 : w30.cell? ⟨gb132, 1, none⟩ = some (.int .i64 0) := (blk_cell BK132.out 1).trans rfl
        have hfs36 := blk_frozen BK132.out 1
        have hns36_0 := NB121_132.out
        have hns36_1 := NB122_132.out
        have hns36_2 := NB123_132.out
        have hns36_3 := NB130_132.out
        have hns36_4 := NB131_132.out
        have hms36_0 := NB132_121.out
        have hms36_1 := NB132_122.out
        have hms36_2 := NB132_123.out
        have hms36_3 := NB132_130.out
        have hms36_4 := NB132_131.out
        refine skip_ (w1 := ?_) (by rfl) rfl ?_ ?_
        rotate_left
        · go_simp
          rfl
        refine hK.out _ _ ⟨((cell_far (p := ⟨gb132, _, none⟩) NB121_132.out _).trans (((cell_far (p := ⟨gb132, _, none⟩) NB121_132.out _).trans (hHeld.1)))), ((cell_far (p := ⟨gb132, _, none⟩) NB121_132.out _).trans (((cell_far (p := ⟨gb132, _, none⟩) NB121_132.out _).trans (hHeld.2.1)))), ((cell_far (p := ⟨gb132, _, none⟩) NB122_132.out _).trans (((cell_far (p := ⟨gb132, _, none⟩) NB122_132.out _).trans (hHeld.2.2.1)))), ((cell_far (p := ⟨gb132, _, none⟩) NB122_132.out _).trans (((cell_far (p := ⟨gb132, _, none⟩) NB122_132.out _).trans (hHeld.2.2.2.1)))), ((cell_far (p := ⟨gb132, _, none⟩) NB123_132.out _).trans (((cell_far (p := ⟨gb132, _, none⟩) NB123_132.out _).trans (hHeld.2.2.2.2.1)))), ((cell_far (p := ⟨gb132, _, none⟩) NB123_132.out _).trans (((cell_far (p := ⟨gb132, _, none⟩) NB123_132.out _).trans (hHeld.2.2.2.2.2))))⟩ (fun hHeld => ?_)
        clear hK K
        refine done_ (done_of HT_.out (by kernel_rfl)) ?_
        go_upto_region 4 with (fail)
        go_cut [59] (fun v59 wc => ∃ (kq : Nat) (x59_24 : Bool), v59 = .bool x59_24 ∧ Aside0 (sA.j1 kq x59_24 a0_0 a0_1 a1_0 a1_1 a2_0 a2_1 = some r) ∧ Aside0 (kq ≤ kj3) ∧ Aside0 (wc.heap[gb121]? = some (.cells #[.int .i64 a0_0, .int .i64 a0_1] 31 (0, 0))) ∧ Aside0 (wc.heap[gb122]? = some (.cells #[.int .i64 a1_0, .int .i64 a1_1] 31 (0, 0))) ∧ Aside0 (wc.heap[gb123]? = some (.cells #[.int .i64 a2_0, .int .i64 a2_1] 31 (0, 0))) ∧ Aside0 (wc.heap[gb130]? = some (.cells #[.int .i64 a0_0, .int .i64 a0_1] 33 (0, 0))) ∧ Aside0 (wc.heap[gb131]? = some (.cells #[.int .i64 a1_0, .int .i64 a1_1] 33 (0, 0))) ∧ Aside0 (wc.heap[gb132]? = some (.cells #[.int .i64 a2_0, .int .i64 a2_1] 33 (0, 0))) ∧ Aside0 (Below w.heap.size w wc))
        case first =>
          have H := HC25.out
          clear HC25
          replace H := Option.bind_eq_some_iff.mp H
          obtain ⟨⟨t133, t134⟩, A370, H⟩ := H
          replace H : ((span_Span_And.f a1_0 a1_1 a0_0 a0_1).bind fun bt135 => (if (!(t133 == bt135.1) || (!(t134 == bt135.2))) = true then (sA.j1 kj3 true a0_0 a0_1 a1_0 a1_1 a2_0 a2_1) else ((span_Span_And.f a0_0 a0_1 a1_0 a1_1).bind fun bt137 => ((span_Span_Len.f bt137.1 bt137.2).bind fun t139 => ((span_Span_Len.f a0_0 a0_1).bind fun t140 => ((span_Span_Len.f a1_0 a1_1).bind fun t141 => (if t139 > (mn t140 t141) then (sA.j1 kj3 true a0_0 a0_1 a1_0 a1_1 a2_0 a2_1) else ((span_Span_And.f a0_0 a0_1 a0_0 a0_1).bind fun bt142 => ((span_Span_Len.f bt142.1 bt142.2).bind fun t144 => ((span_Span_Len.f a0_0 a0_1).bind fun t145 => (sA.j1 kj3 (t144 != t145) a0_0 a0_1 a1_0 a1_1 a2_0 a2_1))))))))))) = some r := H
          have A37 := Aside0.mk A370
          clear A370
          replace H := Option.bind_eq_some_iff.mp H
          obtain ⟨⟨t135, t136⟩, A380, H⟩ := H
          replace H : (if (!(t133 == t135) || (!(t134 == t136))) = true then (sA.j1 kj3 true a0_0 a0_1 a1_0 a1_1 a2_0 a2_1) else ((span_Span_And.f a0_0 a0_1 a1_0 a1_1).bind fun bt137 => ((span_Span_Len.f bt137.1 bt137.2).bind fun t139 => ((span_Span_Len.f a0_0 a0_1).bind fun t140 => ((span_Span_Len.f a1_0 a1_1).bind fun t141 => (if t139 > (mn t140 t141) then (sA.j1 kj3 true a0_0 a0_1 a1_0 a1_1 a2_0 a2_1) else ((span_Span_And.f a0_0 a0_1 a0_0 a0_1).bind fun bt142 => ((span_Span_Len.f bt142.1 bt142.2).bind fun t144 => ((span_Span_Len.f a0_0 a0_1).bind fun t145 => (sA.j1 kj3 (t144 != t145) a0_0 a0_1 a1_0 a1_1 a2_0 a2_1)))))))))) = some r := H
          have A38 := Aside0.mk A380
          clear A380
          by_cases c39 : (!(t133 == t135) || (!(t134 == t136))) = true
          · rw [if_pos c39] at H
            have c39b0 : (!(t133 == t135) || (!(t134 == t136))) = true := c39
            clear c39
            (first | rw [c39b0] | (simp only [i64_w, i32_w]; rw [c39b0]) | skip)
            have H' := Aside0.mk H
            clear H
            try go_wp2
            have n0_ : Aside0 (((((((w30.setCell ⟨gb130, 0, none⟩ (.int .i64 a0_0)).setCell ⟨gb130, 1, none⟩ (.int .i64 a0_1)).setCell ⟨gb131, 0, none⟩ (.int .i64 a1_0)).setCell ⟨gb131, 1, none⟩ (.int .i64 a1_1)).setCell ⟨gb132, 0, none⟩ (.int .i64 a2_0)).setCell ⟨gb132, 1, none⟩ (.int .i64 a2_1)).heap[gb121]? = some (.cells #[.int .i64 a0_0, .int .i64 a0_1] 31 (0, 0))) := ⟨by (with_reducible repeat first | apply bN | apply bD | apply bA); refine blk_far ?_ NB121_132.out _; (with_reducible repeat first | apply bN | apply bD | apply bA); refine blk_far ?_ NB121_132.out _; (with_reducible repeat first | apply bN | apply bD | apply bA); refine blk_far ?_ NB121_131.out _; (with_reducible repeat first | apply bN | apply bD | apply bA); refine blk_far ?_ NB121_131.out _; (with_reducible repeat first | apply bN | apply bD | apply bA); refine blk_far ?_ NB121_130.out _; (with_reducible repeat first | apply bN | apply bD | apply bA); refine blk_far ?_ NB121_130.out _; (with_reducible repeat first | apply bN | apply bD | apply bA); exact BK121.out⟩
            have n1_ : Aside0 (((((((w30.setCell ⟨gb130, 0, none⟩ (.int .i64 a0_0)).setCell ⟨gb130, 1, none⟩ (.int .i64 a0_1)).setCell ⟨gb131, 0, none⟩ (.int .i64 a1_0)).setCell ⟨gb131, 1, none⟩ (.int .i64 a1_1)).setCell ⟨gb132, 0, none⟩ (.int .i64 a2_0)).setCell ⟨gb132, 1, none⟩ (.int .i64 a2_1)).heap[gb122]? = some (.cells #[.int .i64 a1_0, .int .i64 a1_1] 31 (0, 0))) := ⟨by (with_reducible repeat first | apply bN | apply bD | apply bA); refine blk_far ?_ NB122_132.out _; (with_reducible repeat first | apply bN | apply bD | apply bA); refine blk_far ?_ NB122_132.out _; (with_reducible repeat first | apply bN | apply bD | apply bA); refine blk_far ?_ NB122_131.out _; (with_reducible repeat first | apply bN | apply bD | apply bA); refine blk_far ?_ NB122_131.out _; (with_reducible repeat first | apply bN | apply bD | apply bA); refine blk_far ?_ NB122_130.out _; (with_reducible repeat first | apply bN | apply bD | apply bA); refine blk_far ?_ NB122_130.out _; (with_reducible repeat first | apply bN | apply bD | apply bA); exact BK122.out⟩
            have n2_ : Aside0 (((((((w30.setCell ⟨gb130, 0, none⟩ (.int .i64 a0_0)).setCell ⟨gb130, 1, none⟩ (.int .i64 a0_1)).setCell ⟨gb131, 0, none⟩ (.int .i64 a1_0)).setCell ⟨gb131, 1, none⟩ (.int .i64 a1_1)).setCell ⟨gb132, 0, none⟩ (.int .i64 a2_0)).setCell ⟨gb132, 1, none⟩ (.int .i64 a2_1)).heap[gb123]? = some (.cells #[.int .i64 a2_0, .int .i64 a2_1] 31 (0, 0))) := ⟨by (with_reducible repeat first | apply bN | apply bD | apply bA); refine blk_far ?_ NB123_132.out _; (with_reducible repeat first | apply bN | apply bD | apply bA); refine blk_far ?_ NB123_132.out _; (with_reducible repeat first | apply bN | apply bD | apply bA); refine blk_far ?_ NB123_131.out _; (with_reducible repeat first | apply bN | apply bD | apply bA); refine blk_far ?_ NB123_131.out _; (with_reducible repeat first | apply bN | apply bD | apply bA); refine blk_far ?_ NB123_130.out _; (with_reducible repeat first | apply bN | apply bD | apply bA); refine blk_far ?_ NB123_130.out _; (with_reducible repeat first | apply bN | apply bD | apply bA); exact BK123.out⟩
            have n3_ : Aside0 (((((((w30.setCell ⟨gb130, 0, none⟩ (.int .i64 a0_0)).setCell ⟨gb130, 1, none⟩ (.int .i64 a0_1)).setCell ⟨gb131, 0, none⟩ (.int .i64 a1_0)).setCell ⟨gb131, 1, none⟩ (.int .i64 a1_1)).setCell ⟨gb132, 0, none⟩ (.int .i64 a2_0)).setCell ⟨gb132, 1, none⟩ (.int .i64 a2_1)).heap[gb130]? = some (.cells #[.int .i64 a0_0, .int .i64 a0_1] 33 (0, 0))) := ⟨by (with_reducible repeat first | apply bN | apply bD | apply bA); refine blk_far ?_ NB130_132.out _; (with_reducible repeat first | apply bN | apply bD | apply bA); refine blk_far ?_ NB130_132.out _; (with_reducible repeat first | apply bN | apply bD | apply bA); refine blk_far ?_ NB130_131.out _; (with_reducible repeat first | apply bN | apply bD | apply bA); refine blk_far ?_ NB130_131.out _; (with_reducible repeat first | apply bN | apply bD | apply bA); refine blk_put (cs := #[.int .i64 a0_0, .int .i64 0]) ?_ 1 _ rfl; (with_reducible repeat first | apply bN | apply bD | apply bA); refine blk_put (cs := #[.int .i64 0, .int .i64 0]) ?_ 0 _ rfl; (with_reducible repeat first | apply bN | apply bD | apply bA); exact BK130.out⟩
            have n4_ : Aside0 (((((((w30.setCell ⟨gb130, 0, none⟩ (.int .i64 a0_0)).setCell ⟨gb130, 1, none⟩ (.int .i64 a0_1)).setCell ⟨gb131, 0, none⟩ (.int .i64 a1_0)).setCell ⟨gb131, 1, none⟩ (.int .i64 a1_1)).setCell ⟨gb132, 0, none⟩ (.int .i64 a2_0)).setCell ⟨gb132, 1, none⟩ (.int .i64 a2_1)).heap[gb131]? = some (.cells #[.int .i64 a1_0, .int .i64 a1_1] 33 (0, 0))) := ⟨by (with_reducible repeat first | apply bN | apply bD | apply bA); refine blk_far ?_ NB131_132.out _; (with_reducible repeat first | apply bN | apply bD | apply bA); refine blk_far ?_ NB131_132.out _; (with_reducible repeat first | apply bN | apply bD | apply bA); refine blk_put (cs := #[.int .i64 a1_0, .int .i64 0]) ?_ 1 _ rfl; (with_reducible repeat first | apply bN | apply bD | apply bA); refine blk_put (cs := #[.int .i64 0, .int .i64 0]) ?_ 0 _ rfl; (with_reducible repeat first | apply bN | apply bD | apply bA); refine blk_far ?_ NB131_130.out _; (with_reducible repeat first | apply bN | apply bD | apply bA); refine blk_far ?_ NB131_130.out _; (with_reducible repeat first | apply bN | apply bD | apply bA); exact BK131.out⟩
            have n5_ : Aside0 (((((((w30.setCell ⟨gb130, 0, none⟩ (.int .i64 a0_0)).setCell ⟨gb130, 1, none⟩ (.int .i64 a0_1)).setCell ⟨gb131, 0, none⟩ (.int .i64 a1_0)).setCell ⟨gb131, 1, none⟩ (.int .i64 a1_1)).setCell ⟨gb132, 0, none⟩ (.int .i64 a2_0)).setCell ⟨gb132, 1, none⟩ (.int .i64 a2_1)).heap[gb132]? = some (.cells #[.int .i64 a2_0, .int .i64 a2_1] 33 (0, 0))) := ⟨by (with_reducible repeat first | apply bN | apply bD | apply bA); refine blk_put (cs := #[.int .i64 a2_0, .int .i64 0]) ?_ 1 _ rfl; (with_reducible repeat first | apply bN | apply bD | apply bA); refine blk_put (cs := #[.int .i64 0, .int .i64 0]) ?_ 0 _ rfl; (with_reducible repeat first | apply bN | apply bD | apply bA); refine blk_far ?_ NB132_131.out _; (with_reducible repeat first | apply bN | apply bD | apply bA); refine blk_far ?_ NB132_131.out _; (with_reducible repeat first | apply bN | apply bD | apply bA); refine blk_far ?_ NB132_130.out _; (with_reducible repeat first | apply bN | apply bD | apply bA); refine blk_far ?_ NB132_130.out _; (with_reducible repeat first | apply bN | apply bD | apply bA); exact BK132.out⟩
            have n6_ : Aside0 (Below w.heap.size w ((((((w30.setCell ⟨gb130, 0, none⟩ (.int .i64 a0_0)).setCell ⟨gb130, 1, none⟩ (.int .i64 a0_1)).setCell ⟨gb131, 0, none⟩ (.int .i64 a1_0)).setCell ⟨gb131, 1, none⟩ (.int .i64 a1_1)).setCell ⟨gb132, 0, none⟩ (.int .i64 a2_0)).setCell ⟨gb132, 1, none⟩ (.int .i64 a2_1))) := ⟨by repeat (first | (with_reducible first | exact HB.out | apply eA | apply eN | apply eD | refine bS ?_ GE121.out | refine bS ?_ GE122.out | refine bS ?_ GE123.out | refine bS ?_ GE130.out | refine bS ?_ GE131.out | refine bS ?_ GE132.out) | exact HB.out)⟩
            (try clear BK121)
            (try clear BK122)
            (try clear BK123)
            (try clear BK130)
            (try clear BK131)
            (try clear BK132)
            (try clear HB)
            generalize ((((((w30.setCell ⟨gb130, 0, none⟩ (.int .i64 a0_0)).setCell ⟨gb130, 1, none⟩ (.int .i64 a0_1)).setCell ⟨gb131, 0, none⟩ (.int .i64 a1_0)).setCell ⟨gb131, 1, none⟩ (.int .i64 a1_1)).setCell ⟨gb132, 0, none⟩ (.int .i64 a2_0)).setCell ⟨gb132, 1, none⟩ (.int .i64 a2_1)) = w40 at n0_ n1_ n2_ n3_ n4_ n5_ n6_ ⊢
            have BK121 := n0_
            have BK122 := n1_
            have BK123 := n2_
            have BK130 := n3_
            have BK131 := n4_
            have BK132 := n5_
            have HB := n6_
            clear n0_ n1_ n2_ n3_ n4_ n5_ n6_
            have n0_ := Aside0.mk (blk_drew BK121.out)
            have n1_ := Aside0.mk (blk_drew BK122.out)
            have n2_ := Aside0.mk (blk_drew BK123.out)
            have n3_ := Aside0.mk (blk_drew BK130.out)
            have n4_ := Aside0.mk (blk_drew BK131.out)
            have n5_ := Aside0.mk (blk_drew BK132.out)
            have n6_ := Aside0.mk (below_drew1 HB.out)
            clear BK121
            clear BK122
            clear BK123
            clear BK130
            clear BK131
            clear BK132
            clear HB
            have BK121 := n0_
            have BK122 := n1_
            have BK123 := n2_
            have BK130 := n3_
            have BK131 := n4_
            have BK132 := n5_
            have HB := n6_
            clear n0_ n1_ n2_ n3_ n4_ n5_ n6_
            refine start_ (n := 28) (S := fun w' => w'.cell? ⟨gb130, 0, none⟩ = some (.int .i64 a0_0) ∧ w'.cell? ⟨gb130, 1, none⟩ = some (.int .i64 a0_1) ∧ w'.cell? ⟨gb131, 0, none⟩ = some (.int .i64 a1_0) ∧ w'.cell? ⟨gb131, 1, none⟩ = some (.int .i64 a1_1)) (ds := []) #[ff, ff, ff, ff, ff, ff, ff, ff, ff, ff, ff, ff, ff, ff, ff, ff, ff, ff, ff, ff, ff, ff, ff, ff, ff, ff, ff, ff] (by kernel_rfl) rfl rfl ⟨(blk_cell BK130.out 0).trans rfl, (blk_cell BK130.out 1).trans rfl, (blk_cell BK131.out 0).trans rfl, (blk_cell BK131.out 1).trans rfl⟩ (fun hHeld => ?_); refine with_tabW sA.tab4 sA.bits4 (fun HT_ HW_ => ?_)
            generalize w40.drew = w41 at BK121 BK122 BK123 BK130 BK131 BK132 HB hHeld ⊢
            refine take_ (i := 0) (N := some 32) (v := ?_) (a' := ?_) #[tt, ff, ff, ff, ff, ff, ff, ff, ff, ff, ff, ff, ff, ff, ff, ff, ff, ff, ff, ff, ff, ff, ff, ff, ff, ff, ff, ff] rfl rfl (take_ofW HT_.out HW_.out (by kernel_rfl)) (fun _ _ _ h => h) (Or.inl ⟨by rfl, ?_⟩) hHeld ?_ ?_
            rotate_left
            · rintro w' ⟨s0, s1, s2, s3⟩
              go_simp
              with_reducible rfl
            rotate_left
            · simp only [Act.put, lA, sZ, sC, i64_w, i32_w]
              rfl
            refine take_ (i := 1) (N := some 33) (v := ?_) (a' := ?_) #[tt, tt, ff, ff, ff, ff, ff, ff, ff, ff, ff, ff, ff, ff, ff, ff, ff, ff, ff, ff, ff, ff, ff, ff, ff, ff, ff, ff] rfl rfl (take_ofW HT_.out HW_.out (by kernel_rfl)) (fun _ _ _ h => h) (Or.inl ⟨by rfl, ?_⟩) hHeld ?_ ?_
            rotate_left
            · rintro w' ⟨s0, s1, s2, s3⟩
              go_simp
              with_reducible rfl
            rotate_left
            · simp only [Act.put, lA, sZ, sC, i64_w, i32_w]
              rfl
            refine take_ (i := 3) (N := some 35) (v := ?_) (a' := ?_) #[tt, tt, ff, tt, ff, ff, ff, ff, ff, ff, ff, ff, ff, ff, ff, ff, ff, ff, ff, ff, ff, ff, ff, ff, ff, ff, ff, ff] rfl rfl (take_ofW HT_.out HW_.out (by kernel_rfl)) (fun _ _ _ h => h) (Or.inl ⟨by rfl, ?_⟩) hHeld ?_ ?_
            rotate_left
            · rintro w' ⟨s0, s1, s2, s3⟩
              go_simp
              with_reducible rfl
            rotate_left
            · simp only [Act.put, lA, sZ, sC, i64_w, i32_w]
              rfl
            refine take_ (i := 4) (N := some 36) (v := ?_) (a' := ?_) #[tt, tt, ff, tt, tt, ff, ff, ff, ff, ff, ff, ff, ff, ff, ff, ff, ff, ff, ff, ff, ff, ff, ff, ff, ff, ff, ff, ff] rfl rfl (take_ofW HT_.out HW_.out (by kernel_rfl)) (fun _ _ _ h => h) (Or.inl ⟨by rfl, ?_⟩) hHeld ?_ ?_
            rotate_left
            · rintro w' ⟨s0, s1, s2, s3⟩
              go_simp
              with_reducible rfl
            rotate_left
            · simp only [Act.put, lA, sZ, sC, i64_w, i32_w]
              rfl
            refine one_ (i := 2) (N := some 34) #[tt, tt, tt, tt, tt, ff, ff, ff, ff, ff, ff, ff, ff, ff, ff, ff, ff, ff, ff, ff, ff, ff, ff, ff, ff, ff, ff, ff] rfl rfl (one_of HT_.out (by kernel_rfl)) (by decide) (fun K hK => ?_)
            refine goes_ Try.func15 (by kernel_rfl) rfl #[.agg #[.int .i64 a0_0, .int .i64 a0_1], .agg #[.int .i64 a1_0, .int .i64 a1_1]] (by rfl) rfl rfl (by (try simp only [List.map_toArray, List.map_cons, List.map_nil]); first | done | rfl | (simp only [List.length_drop, List.length_take]; rfl)) ?_
            with_reducible refine (span_Span_And.calls a0_0 a0_1 a1_0 a1_1 t133 t134 _ A37.out).mono ?_
            rintro e w42 ⟨rfl, hb⟩
            refine ⟨_, rfl, ?_⟩
            have n0_ := Aside0.mk (blk_below (by (with_reducible repeat first | apply bN | apply bD | apply bA); exact BK121.out) hb)
            have n1_ := Aside0.mk (blk_below (by (with_reducible repeat first | apply bN | apply bD | apply bA); exact BK122.out) hb)
            have n2_ := Aside0.mk (blk_below (by (with_reducible repeat first | apply bN | apply bD | apply bA); exact BK123.out) hb)
            have n3_ := Aside0.mk (blk_below (by (with_reducible repeat first | apply bN | apply bD | apply bA); exact BK130.out) hb)
            have n4_ := Aside0.mk (blk_below (by (with_reducible repeat first | apply bN | apply bD | apply bA); exact BK131.out) hb)
            have n5_ := Aside0.mk (blk_below (by (with_reducible repeat first | apply bN | apply bD | apply bA); exact BK132.out) hb)
            have n6_ := Aside0.mk (below_step (by repeat (first | (with_reducible first | exact HB.out | apply eA | apply eN | apply eD | refine bS ?_ GE121.out | refine bS ?_ GE122.out | refine bS ?_ GE123.out | refine bS ?_ GE130.out | refine bS ?_ GE131.out | refine bS ?_ GE132.out) | exact HB.out)) hb)
            clear BK121
            clear BK122
            clear BK123
            clear BK130
            clear BK131
            clear BK132
            clear HB
            have BK121 := n0_
            have BK122 := n1_
            have BK123 := n2_
            have BK130 := n3_
            have BK131 := n4_
            have BK132 := n5_
            have HB := n6_
            clear n0_ n1_ n2_ n3_ n4_ n5_ n6_
            (try clear hb)
            (try clear hb2)
            (try clear hk)
            (try clear hi)
            refine hK.out _ _ ⟨(blk_cell BK130.out 0).trans rfl, (blk_cell BK130.out 1).trans rfl, (blk_cell BK131.out 0).trans rfl, (blk_cell BK131.out 1).trans rfl⟩ (fun hHeld => ?_)
            clear hK K
            refine norm_ (a' := ?_) ?_ ?_
            rotate_left
            · show Act.put _ (some 34) _ = _
              simp only [Act.put, lA, sZ, sC, i64_w, i32_w]
              rfl
            refine one_ (i := 5) (N := some 37) #[tt, tt, tt, tt, tt, tt, ff, ff, ff, ff, ff, ff, ff, ff, ff, ff, ff, ff, ff, ff, ff, ff, ff, ff, ff, ff, ff, ff] rfl rfl (one_of HT_.out (by kernel_rfl)) (by decide) (fun K hK => ?_)
            refine goes_ Try.func15 (by kernel_rfl) rfl #[.agg #[.int .i64 a1_0, .int .i64 a1_1], .agg #[.int .i64 a0_0, .int .i64 a0_1]] (by rfl) rfl rfl (by (try simp only [List.map_toArray, List.map_cons, List.map_nil]); first | done | rfl | (simp only [List.length_drop, List.length_take]; rfl)) ?_
            with_reducible refine (span_Span_And.calls a1_0 a1_1 a0_0 a0_1 t135 t136 _ A38.out).mono ?_
            rintro e w43 ⟨rfl, hb⟩
            refine ⟨_, rfl, ?_⟩
            have n0_ := Aside0.mk (blk_below (by (with_reducible repeat first | apply bN | apply bD | apply bA); exact BK121.out) hb)
            have n1_ := Aside0.mk (blk_below (by (with_reducible repeat first | apply bN | apply bD | apply bA); exact BK122.out) hb)
            have n2_ := Aside0.mk (blk_below (by (with_reducible repeat first | apply bN | apply bD | apply bA); exact BK123.out) hb)
            have n3_ := Aside0.mk (blk_below (by (with_reducible repeat first | apply bN | apply bD | apply bA); exact BK130.out) hb)
            have n4_ := Aside0.mk (blk_below (by (with_reducible repeat first | apply bN | apply bD | apply bA); exact BK131.out) hb)
            have n5_ := Aside0.mk (blk_below (by (with_reducible repeat first | apply bN | apply bD | apply bA); exact BK132.out) hb)
            have n6_ := Aside0.mk (below_step (by repeat (first | (with_reducible first | exact HB.out | apply eA | apply eN | apply eD | refine bS ?_ GE121.out | refine bS ?_ GE122.out | refine bS ?_ GE123.out | refine bS ?_ GE130.out | refine bS ?_ GE131.out | refine bS ?_ GE132.out) | exact HB.out)) hb)
            clear BK121
            clear BK122
            clear BK123
            clear BK130
            clear BK131
            clear BK132
            clear HB
            have BK121 := n0_
            have BK122 := n1_
            have BK123 := n2_
            have BK130 := n3_
            have BK131 := n4_
            have BK132 := n5_
            have HB := n6_
            clear n0_ n1_ n2_ n3_ n4_ n5_ n6_
            (try clear hb)
            (try clear hb2)
            (try clear hk)
            (try clear hi)
            refine hK.out _ _ ⟨(blk_cell BK130.out 0).trans rfl, (blk_cell BK130.out 1).trans rfl, (blk_cell BK131.out 0).trans rfl, (blk_cell BK131.out 1).trans rfl⟩ (fun hHeld => ?_)
            clear hK K
            refine norm_ (a' := ?_) ?_ ?_
            rotate_left
            · show Act.put _ (some 37) _ = _
              simp only [Act.put, lA, sZ, sC, i64_w, i32_w]
              rfl
            refine pure_ (i := 6) (N := some 38) (v := ?_) (a' := ?_) #[tt, tt, tt, tt, tt, tt, tt, ff, ff, ff, ff, ff, ff, ff, ff, ff, ff, ff, ff, ff, ff, ff, ff, ff, ff, ff, ff, ff] rfl rfl (any_of HT_.out (by kernel_rfl)) (fun _ _ _ h => h) (Or.inl ⟨by rfl, ?_⟩) ?_ ?_
            rotate_left
            · intro w'
              go_simp
              with_reducible rfl
            rotate_left
            · simp only [Act.put, lA, sZ, sC, i64_w, i32_w]
              rfl
            refine pure_ (i := 7) (N := some 39) (v := ?_) (a' := ?_) #[tt, tt, tt, tt, tt, tt, tt, tt, ff, ff, ff, ff, ff, ff, ff, ff, ff, ff, ff, ff, ff, ff, ff, ff, ff, ff, ff, ff] rfl rfl (any_of HT_.out (by kernel_rfl)) (fun _ _ _ h => h) (Or.inl ⟨by rfl, ?_⟩) ?_ ?_
            rotate_left
            · intro w'
              go_simp
              with_reducible rfl
            rotate_left
            · simp only [Act.put, lA, sZ, sC, i64_w, i32_w]
              rfl
            refine pure_ (i := 8) (N := some 40) (v := undef) (a' := ?_) #[tt, tt, tt, tt, tt, tt, tt, tt, tt, ff, ff, ff, ff, ff, ff, ff, ff, ff, ff, ff, ff, ff, ff, ff, ff, ff, ff, ff] rfl rfl (any_of HT_.out (by kernel_rfl)) (fun _ _ _ h => h) (Or.inr ⟨by rfl, rfl⟩) ?_ ?_
            rotate_left
            · simp only [Act.put, lA, sZ, sC, i64_w, i32_w]
              rfl
            refine pure_ (i := 9) (N := some 41) (v := undef) (a' := ?_) #[tt, tt, tt, tt, tt, tt, tt, tt, tt, tt, ff, ff, ff, ff, ff, ff, ff, ff, ff, ff, ff, ff, ff, ff, ff, ff, ff, ff] rfl rfl (any_of HT_.out (by kernel_rfl)) (fun _ _ _ h => h) (Or.inr ⟨by rfl, rfl⟩) ?_ ?_
            rotate_left
            · simp only [Act.put, lA, sZ, sC, i64_w, i32_w]
              rfl
            refine pure_ (i := 10) (N := some 42) (v := undef) (a' := ?_) #[tt, tt, tt, tt, tt, tt, tt, tt, tt, tt, tt, ff, ff, ff, ff, ff, ff, ff, ff, ff, ff, ff, ff, ff, ff, ff, ff, ff] rfl rfl (any_of HT_.out (by kernel_rfl)) (fun _ _ _ h => h) (Or.inr ⟨by rfl, rfl⟩) ?_ ?_
            rotate_left
            · simp only [Act.put, lA, sZ, sC, i64_w, i32_w]
              rfl
            refine pure_ (i := 11) (N := some 43) (v := undef) (a' := ?_) #[tt, tt, tt, tt, tt, tt, tt, tt, tt, tt, tt, tt, ff, ff, ff, ff, ff, ff, ff, ff, ff, ff, ff, ff, ff, ff, ff, ff] rfl rfl (any_of HT_.out (by kernel_rfl)) (fun _ _ _ h => h) (Or.inr ⟨by rfl, rfl⟩) ?_ ?_
            rotate_left
            · simp only [Act.put, lA, sZ, sC, i64_w, i32_w]
              rfl
            refine pure_ (i := 12) (N := some 44) (v := undef) (a' := ?_) #[tt, tt, tt, tt, tt, tt, tt, tt, tt, tt, tt, tt, tt, ff, ff, ff, ff, ff, ff, ff, ff, ff, ff, ff, ff, ff, ff, ff] rfl rfl (any_of HT_.out (by kernel_rfl)) (fun _ _ _ h => h) (Or.inr ⟨by rfl, rfl⟩) ?_ ?_
            rotate_left
            · simp only [Act.put, lA, sZ, sC, i64_w, i32_w]
              rfl
            refine pure_ (i := 13) (N := some 45) (v := undef) (a' := ?_) #[tt, tt, tt, tt, tt, tt, tt, tt, tt, tt, tt, tt, tt, tt, ff, ff, ff, ff, ff, ff, ff, ff, ff, ff, ff, ff, ff, ff] rfl rfl (any_of HT_.out (by kernel_rfl)) (fun _ _ _ h => h) (Or.inr ⟨by rfl, rfl⟩) ?_ ?_
            rotate_left
            · simp only [Act.put, lA, sZ, sC, i64_w, i32_w]
              rfl
            refine pure_ (i := 14) (N := some 46) (v := undef) (a' := ?_) #[tt, tt, tt, tt, tt, tt, tt, tt, tt, tt, tt, tt, tt, tt, tt, ff, ff, ff, ff, ff, ff, ff, ff, ff, ff, ff, ff, ff] rfl rfl (any_of HT_.out (by kernel_rfl)) (fun _ _ _ h => h) (Or.inr ⟨by rfl, rfl⟩) ?_ ?_
            rotate_left
            · simp only [Act.put, lA, sZ, sC, i64_w, i32_w]
              rfl
            refine pure_ (i := 15) (N := some 47) (v := undef) (a' := ?_) #[tt, tt, tt, tt, tt, tt, tt, tt, tt, tt, tt, tt, tt, tt, tt, tt, ff, ff, ff, ff, ff, ff, ff, ff, ff, ff, ff, ff] rfl rfl (any_of HT_.out (by kernel_rfl)) (fun _ _ _ h => h) (Or.inr ⟨by rfl, rfl⟩) ?_ ?_
            rotate_left
            · simp only [Act.put, lA, sZ, sC, i64_w, i32_w]
              rfl
            refine pure_ (i := 16) (N := some 48) (v := undef) (a' := ?_) #[tt, tt, tt, tt, tt, tt, tt, tt, tt, tt, tt, tt, tt, tt, tt, tt, tt, ff, ff, ff, ff, ff, ff, ff, ff, ff, ff, ff] rfl rfl (any_of HT_.out (by kernel_rfl)) (fun _ _ _ h => h) (Or.inr ⟨by rfl, rfl⟩) ?_ ?_
            rotate_left
            · simp only [Act.put, lA, sZ, sC, i64_w, i32_w]
              rfl
            refine pure_ (i := 17) (N := some 49) (v := undef) (a' := ?_) #[tt, tt, tt, tt, tt, tt, tt, tt, tt, tt, tt, tt, tt, tt, tt, tt, tt, tt, ff, ff, ff, ff, ff, ff, ff, ff, ff, ff] rfl rfl (any_of HT_.out (by kernel_rfl)) (fun _ _ _ h => h) (Or.inr ⟨by rfl, rfl⟩) ?_ ?_
            rotate_left
            · simp only [Act.put, lA, sZ, sC, i64_w, i32_w]
              rfl
            refine pure_ (i := 18) (N := some 50) (v := ?_) (a' := ?_) #[tt, tt, tt, tt, tt, tt, tt, tt, tt, tt, tt, tt, tt, tt, tt, tt, tt, tt, tt, ff, ff, ff, ff, ff, ff, ff, ff, ff] rfl rfl (any_of HT_.out (by kernel_rfl)) (fun _ _ _ h => h) (Or.inl ⟨by rfl, ?_⟩) ?_ ?_
            rotate_left
            · intro w'
              go_simp
              with_reducible rfl
            rotate_left
            · simp only [Act.put, lA, sZ, sC, i64_w, i32_w]
              rfl
            refine pure_ (i := 19) (N := some 51) (v := ?_) (a' := ?_) #[tt, tt, tt, tt, tt, tt, tt, tt, tt, tt, tt, tt, tt, tt, tt, tt, tt, tt, tt, tt, ff, ff, ff, ff, ff, ff, ff, ff] rfl rfl (any_of HT_.out (by kernel_rfl)) (fun _ _ _ h => h) (Or.inl ⟨by rfl, ?_⟩) ?_ ?_
            rotate_left
            · intro w'
              go_simp
              with_reducible rfl
            rotate_left
            · simp only [Act.put, lA, sZ, sC, i64_w, i32_w]
              rfl
            refine pure_ (i := 20) (N := some 52) (v := undef) (a' := ?_) #[tt, tt, tt, tt, tt, tt, tt, tt, tt, tt, tt, tt, tt, tt, tt, tt, tt, tt, tt, tt, tt, ff, ff, ff, ff, ff, ff, ff] rfl rfl (any_of HT_.out (by kernel_rfl)) (fun _ _ _ h => h) (Or.inr ⟨by rfl, rfl⟩) ?_ ?_
            rotate_left
            · simp only [Act.put, lA, sZ, sC, i64_w, i32_w]
              rfl
            refine pure_ (i := 21) (N := some 53) (v := undef) (a' := ?_) #[tt, tt, tt, tt, tt, tt, tt, tt, tt, tt, tt, tt, tt, tt, tt, tt, tt, tt, tt, tt, tt, tt, ff, ff, ff, ff, ff, ff] rfl rfl (any_of HT_.out (by kernel_rfl)) (fun _ _ _ h => h) (Or.inr ⟨by rfl, rfl⟩) ?_ ?_
            rotate_left
            · simp only [Act.put, lA, sZ, sC, i64_w, i32_w]
              rfl
            refine pure_ (i := 22) (N := some 54) (v := undef) (a' := ?_) #[tt, tt, tt, tt, tt, tt, tt, tt, tt, tt, tt, tt, tt, tt, tt, tt, tt, tt, tt, tt, tt, tt, tt, ff, ff, ff, ff, ff] rfl rfl (any_of HT_.out (by kernel_rfl)) (fun _ _ _ h => h) (Or.inr ⟨by rfl, rfl⟩) ?_ ?_
            rotate_left
            · simp only [Act.put, lA, sZ, sC, i64_w, i32_w]
              rfl
            refine pure_ (i := 23) (N := some 55) (v := undef) (a' := ?_) #[tt, tt, tt, tt, tt, tt, tt, tt, tt, tt, tt, tt, tt, tt, tt, tt, tt, tt, tt, tt, tt, tt, tt, tt, ff, ff, ff, ff] rfl rfl (any_of HT_.out (by kernel_rfl)) (fun _ _ _ h => h) (Or.inr ⟨by rfl, rfl⟩) ?_ ?_
            rotate_left
            · simp only [Act.put, lA, sZ, sC, i64_w, i32_w]
              rfl
            refine pure_ (i := 24) (N := some 56) (v := undef) (a' := ?_) #[tt, tt, tt, tt, tt, tt, tt, tt, tt, tt, tt, tt, tt, tt, tt, tt, tt, tt, tt, tt, tt, tt, tt, tt, tt, ff, ff, ff] rfl rfl (any_of HT_.out (by kernel_rfl)) (fun _ _ _ h => h) (Or.inr ⟨by rfl, rfl⟩) ?_ ?_
            rotate_left
            · simp only [Act.put, lA, sZ, sC, i64_w, i32_w]
              rfl
            refine pure_ (i := 25) (N := some 57) (v := undef) (a' := ?_) #[tt, tt, tt, tt, tt, tt, tt, tt, tt, tt, tt, tt, tt, tt, tt, tt, tt, tt, tt, tt, tt, tt, tt, tt, tt, tt, ff, ff] rfl rfl (any_of HT_.out (by kernel_rfl)) (fun _ _ _ h => h) (Or.inr ⟨by rfl, rfl⟩) ?_ ?_
            rotate_left
            · simp only [Act.put, lA, sZ, sC, i64_w, i32_w]
              rfl
            refine pure_ (i := 26) (N := some 58) (v := undef) (a' := ?_) #[tt, tt, tt, tt, tt, tt, tt, tt, tt, tt, tt, tt, tt, tt, tt, tt, tt, tt, tt, tt, tt, tt, tt, tt, tt, tt, tt, ff] rfl rfl (any_of HT_.out (by kernel_rfl)) (fun _ _ _ h => h) (Or.inr ⟨by rfl, rfl⟩) ?_ ?_
            rotate_left
            · simp only [Act.put, lA, sZ, sC, i64_w, i32_w]
              rfl
            refine pure_ (i := 27) (N := some 59) (v := ?_) (a' := ?_) #[tt, tt, tt, tt, tt, tt, tt, tt, tt, tt, tt, tt, tt, tt, tt, tt, tt, tt, tt, tt, tt, tt, tt, tt, tt, tt, tt, tt] rfl rfl (any_of HT_.out (by kernel_rfl)) (fun _ _ _ h => h) (Or.inl ⟨by rfl, ?_⟩) ?_ ?_
            rotate_left
            · intro w'
              go_simp
              with_reducible rfl
            rotate_left
            · simp only [Act.put, lA, sZ, sC, i64_w, i32_w]
              rfl
            refine done_ (done_of HT_.out (by kernel_rfl)) ?_
            try go_wp2
            go_meet
            case rel => exact ⟨_, (true), (by first | rfl | (simp; done) | (simp [*]; done)), H', ⟨by have := HJ3.out; first | omega | exact Nat.le_refl _⟩, ⟨by (with_reducible repeat first | apply bN | apply bD | apply bA); exact BK121.out⟩, ⟨by (with_reducible repeat first | apply bN | apply bD | apply bA); exact BK122.out⟩, ⟨by (with_reducible repeat first | apply bN | apply bD | apply bA); exact BK123.out⟩, ⟨by (with_reducible repeat first | apply bN | apply bD | apply bA); exact BK130.out⟩, ⟨by (with_reducible repeat first | apply bN | apply bD | apply bA); exact BK131.out⟩, ⟨by (with_reducible repeat first | apply bN | apply bD | apply bA); exact BK132.out⟩, ⟨by repeat (first | (with_reducible first | exact HB.out | apply eA | apply eN | apply eD | refine bS ?_ GE121.out | refine bS ?_ GE122.out | refine bS ?_ GE123.out | refine bS ?_ GE130.out | refine bS ?_ GE131.out | refine bS ?_ GE132.out) | exact HB.out)⟩⟩
          · rw [if_neg c39] at H
            have c39b0 : (!(t133 == t135) || (!(t134 == t136))) = false := by simpa using c39
            clear c39
            (first | rw [c39b0] | (simp only [i64_w, i32_w]; rw [c39b0]) | skip)
            replace H := Option.bind_eq_some_iff.mp H
            obtain ⟨⟨t137, t138⟩, A440, H⟩ := H
            replace H : ((span_Span_Len.f t137 t138).bind fun t139 => ((span_Span_Len.f a0_0 a0_1).bind fun t140 => ((span_Span_Len.f a1_0 a1_1).bind fun t141 => (if t139 > (mn t140 t141) then (sA.j1 kj3 true a0_0 a0_1 a1_0 a1_1 a2_0 a2_1) else ((span_Span_And.f a0_0 a0_1 a0_0 a0_1).bind fun bt142 => ((span_Span_Len.f bt142.1 bt142.2).bind fun t144 => ((span_Span_Len.f a0_0 a0_1).bind fun t145 => (sA.j1 kj3 (t144 != t145) a0_0 a0_1 a1_0 a1_1 a2_0 a2_1)))))))) = some r := H
            have A44 := Aside0.mk A440
            clear A440
            replace H := Option.bind_eq_some_iff.mp H
            obtain ⟨t139, A450, H⟩ := H
            replace H : ((span_Span_Len.f a0_0 a0_1).bind fun t140 => ((span_Span_Len.f a1_0 a1_1).bind fun t141 => (if t139 > (mn t140 t141) then (sA.j1 kj3 true a0_0 a0_1 a1_0 a1_1 a2_0 a2_1) else ((span_Span_And.f a0_0 a0_1 a0_0 a0_1).bind fun bt142 => ((span_Span_Len.f bt142.1 bt142.2).bind fun t144 => ((span_Span_Len.f a0_0 a0_1).bind fun t145 => (sA.j1 kj3 (t144 != t145) a0_0 a0_1 a1_0 a1_1 a2_0 a2_1))))))) = some r := H
            have A45 := Aside0.mk A450
            clear A450
            replace H := Option.bind_eq_some_iff.mp H
            obtain ⟨t140, A460, H⟩ := H
            replace H : ((span_Span_Len.f a1_0 a1_1).bind fun t141 => (if t139 > (mn t140 t141) then (sA.j1 kj3 true a0_0 a0_1 a1_0 a1_1 a2_0 a2_1) else ((span_Span_And.f a0_0 a0_1 a0_0 a0_1).bind fun bt142 => ((span_Span_Len.f bt142.1 bt142.2).bind fun t144 => ((span_Span_Len.f a0_0 a0_1).bind fun t145 => (sA.j1 kj3 (t144 != t145) a0_0 a0_1 a1_0 a1_1 a2_0 a2_1)))))) = some r := H
            have A46 := Aside0.mk A460
            clear A460
            replace H := Option.bind_eq_some_iff.mp H
            obtain ⟨t141, A470, H⟩ := H
            replace H : (if t139 > (mn t140 t141) then (sA.j1 kj3 true a0_0 a0_1 a1_0 a1_1 a2_0 a2_1) else ((span_Span_And.f a0_0 a0_1 a0_0 a0_1).bind fun bt142 => ((span_Span_Len.f bt142.1 bt142.2).bind fun t144 => ((span_Span_Len.f a0_0 a0_1).bind fun t145 => (sA.j1 kj3 (t144 != t145) a0_0 a0_1 a1_0 a1_1 a2_0 a2_1))))) = some r := H
            have A47 := Aside0.mk A470
            clear A470
            obtain ⟨ji48, hji48⟩ : ∃ j_ : Int, (mn t140 t141) = j_ := ⟨_, rfl⟩
            replace H : (if t139 > (ji48) then (sA.j1 kj3 true a0_0 a0_1 a1_0 a1_1 a2_0 a2_1) else ((span_Span_And.f a0_0 a0_1 a0_0 a0_1).bind fun bt142 => ((span_Span_Len.f bt142.1 bt142.2).bind fun t144 => ((span_Span_Len.f a0_0 a0_1).bind fun t145 => (sA.j1 kj3 (t144 != t145) a0_0 a0_1 a1_0 a1_1 a2_0 a2_1))))) = some r := by first | (rw [hji48] at H; exact H) | (simp only [hji48] at H ⊢; exact H)
            (try rw [hji48] at A37)
            (try rw [hji48] at A38)
            (try rw [hji48] at A44)
            (try rw [hji48] at A45)
            (try rw [hji48] at A46)
            (try rw [hji48] at A47)
            have hji48_ : (if t141 < t140 then t141 else t140) = ji48 := hji48
            by_cases c49 : t139 > (ji48)
            · rw [if_pos c49] at H
              have c49b0 : decide ((ji48) < t139) = true := decide_eq_true c49
              clear c49
              have H' := Aside0.mk H
              clear H
              try go_wp2
              have n0_ : Aside0 (((((((w30.setCell ⟨gb130, 0, none⟩ (.int .i64 a0_0)).setCell ⟨gb130, 1, none⟩ (.int .i64 a0_1)).setCell ⟨gb131, 0, none⟩ (.int .i64 a1_0)).setCell ⟨gb131, 1, none⟩ (.int .i64 a1_1)).setCell ⟨gb132, 0, none⟩ (.int .i64 a2_0)).setCell ⟨gb132, 1, none⟩ (.int .i64 a2_1)).heap[gb121]? = some (.cells #[.int .i64 a0_0, .int .i64 a0_1] 31 (0, 0))) := ⟨by (with_reducible repeat first | apply bN | apply bD | apply bA); refine blk_far ?_ NB121_132.out _; (with_reducible repeat first | apply bN | apply bD | apply bA); refine blk_far ?_ NB121_132.out _; (with_reducible repeat first | apply bN | apply bD | apply bA); refine blk_far ?_ NB121_131.out _; (with_reducible repeat first | apply bN | apply bD | apply bA); refine blk_far ?_ NB121_131.out _; (with_reducible repeat first | apply bN | apply bD | apply bA); refine blk_far ?_ NB121_130.out _; (with_reducible repeat first | apply bN | apply bD | apply bA); refine blk_far ?_ NB121_130.out _; (with_reducible repeat first | apply bN | apply bD | apply bA); exact BK121.out⟩
              have n1_ : Aside0 (((((((w30.setCell ⟨gb130, 0, none⟩ (.int .i64 a0_0)).setCell ⟨gb130, 1, none⟩ (.int .i64 a0_1)).setCell ⟨gb131, 0, none⟩ (.int .i64 a1_0)).setCell ⟨gb131, 1, none⟩ (.int .i64 a1_1)).setCell ⟨gb132, 0, none⟩ (.int .i64 a2_0)).setCell ⟨gb132, 1, none⟩ (.int .i64 a2_1)).heap[gb122]? = some (.cells #[.int .i64 a1_0, .int .i64 a1_1] 31 (0, 0))) := ⟨by (with_reducible repeat first | apply bN | apply bD | apply bA); refine blk_far ?_ NB122_132.out _; (with_reducible repeat first | apply bN | apply bD | apply bA); refine blk_far ?_ NB122_132.out _; (with_reducible repeat first | apply bN | apply bD | apply bA); refine blk_far ?_ NB122_131.out _; (with_reducible repeat first | apply bN | apply bD | apply bA); refine blk_far ?_ NB122_131.out _; (with_reducible repeat first | apply bN | apply bD | apply bA); refine blk_far ?_ NB122_130.out _; (with_reducible repeat first | apply bN | apply bD | apply bA); refine blk_far ?_ NB122_130.out _; (with_reducible repeat first | apply bN | apply bD | apply bA); exact BK122.out⟩
              have n2_ : Aside0 (((((((w30.setCell ⟨gb130, 0, none⟩ (.int .i64 a0_0)).setCell ⟨gb130, 1, none⟩ (.int .i64 a0_1)).setCell ⟨gb131, 0, none⟩ (.int .i64 a1_0)).setCell ⟨gb131, 1, none⟩ (.int .i64 a1_1)).setCell ⟨gb132, 0, none⟩ (.int .i64 a2_0)).setCell ⟨gb132, 1, none⟩ (.int .i64 a2_1)).heap[gb123]? = some (.cells #[.int .i64 a2_0, .int .i64 a2_1] 31 (0, 0))) := ⟨by (with_reducible repeat first | apply bN | apply bD | apply bA); refine blk_far ?_ NB123_132.out _; (with_reducible repeat first | apply bN | apply bD | apply bA); refine blk_far ?_ NB123_132.out _; (with_reducible repeat first | apply bN | apply bD | apply bA); refine blk_far ?_ NB123_131.out _; (with_reducible repeat first | apply bN | apply bD | apply bA); refine blk_far ?_ NB123_131.out _; (with_reducible repeat first | apply bN | apply bD | apply bA); refine blk_far ?_ NB123_130.out _; (with_reducible repeat first | apply bN | apply bD | apply bA); refine blk_far ?_ NB123_130.out _; (with_reducible repeat first | apply bN | apply bD | apply bA); exact BK123.out⟩
              have n3_ : Aside0 (((((((w30.setCell ⟨gb130, 0, none⟩ (.int .i64 a0_0)).setCell ⟨gb130, 1, none⟩ (.int .i64 a0_1)).setCell ⟨gb131, 0, none⟩ (.int .i64 a1_0)).setCell ⟨gb131, 1, none⟩ (.int .i64 a1_1)).setCell ⟨gb132, 0, none⟩ (.int .i64 a2_0)).setCell ⟨gb132, 1, none⟩ (.int .i64 a2_1)).heap[gb130]? = some (.cells #[.int .i64 a0_0, .int .i64 a0_1] 33 (0, 0))) := ⟨by (with_reducible repeat first | apply bN | apply bD | apply bA); refine blk_far ?_ NB130_132.out _; (with_reducible repeat first | apply bN | apply bD | apply bA); refine blk_far ?_ NB130_132.out _; (with_reducible repeat first | apply bN | apply bD | apply bA); refine blk_far ?_ NB130_131.out _; (with_reducible repeat first | apply bN | apply bD | apply bA); refine blk_far ?_ NB130_131.out _; (with_reducible repeat first | apply bN | apply bD | apply bA); refine blk_put (cs := #[.int .i64 a0_0, .int .i64 0]) ?_ 1 _ rfl; (with_reducible repeat first | apply bN | apply bD | apply bA); refine blk_put (cs := #[.int .i64 0, .int .i64 0]) ?_ 0 _ rfl; (with_reducible repeat first | apply bN | apply bD | apply bA); exact BK130.out⟩
              have n4_ : Aside0 (((((((w30.setCell ⟨gb130, 0, none⟩ (.int .i64 a0_0)).setCell ⟨gb130, 1, none⟩ (.int .i64 a0_1)).setCell ⟨gb131, 0, none⟩ (.int .i64 a1_0)).setCell ⟨gb131, 1, none⟩ (.int .i64 a1_1)).setCell ⟨gb132, 0, none⟩ (.int .i64 a2_0)).setCell ⟨gb132, 1, none⟩ (.int .i64 a2_1)).heap[gb131]? = some (.cells #[.int .i64 a1_0, .int .i64 a1_1] 33 (0, 0))) := ⟨by (with_reducible repeat first | apply bN | apply bD | apply bA); refine blk_far ?_ NB131_132.out _; (with_reducible repeat first | apply bN | apply bD | apply bA); refine blk_far ?_ NB131_132.out _; (with_reducible repeat first | apply bN | apply bD | apply bA); refine blk_put (cs := #[.int .i64 a1_0, .int .i64 0]) ?_ 1 _ rfl; (with_reducible repeat first | apply bN | apply bD | apply bA); refine blk_put (cs := #[.int .i64 0, .int .i64 0]) ?_ 0 _ rfl; (with_reducible repeat first | apply bN | apply bD | apply bA); refine blk_far ?_ NB131_130.out _; (with_reducible repeat first | apply bN | apply bD | apply bA); refine blk_far ?_ NB131_130.out _; (with_reducible repeat first | apply bN | apply bD | apply bA); exact BK131.out⟩
              have n5_ : Aside0 (((((((w30.setCell ⟨gb130, 0, none⟩ (.int .i64 a0_0)).setCell ⟨gb130, 1, none⟩ (.int .i64 a0_1)).setCell ⟨gb131, 0, none⟩ (.int .i64 a1_0)).setCell ⟨gb131, 1, none⟩ (.int .i64 a1_1)).setCell ⟨gb132, 0, none⟩ (.int .i64 a2_0)).setCell ⟨gb132, 1, none⟩ (.int .i64 a2_1)).heap[gb132]? = some (.cells #[.int .i64 a2_0, .int .i64 a2_1] 33 (0, 0))) := ⟨by (with_reducible repeat first | apply bN | apply bD | apply bA); refine blk_put (cs := #[.int .i64 a2_0, .int .i64 0]) ?_ 1 _ rfl; (with_reducible repeat first | apply bN | apply bD | apply bA); refine blk_put (cs := #[.int .i64 0, .int .i64 0]) ?_ 0 _ rfl; (with_reducible repeat first | apply bN | apply bD | apply bA); refine blk_far ?_ NB132_131.out _; (with_reducible repeat first | apply bN | apply bD | apply bA); refine blk_far ?_ NB132_131.out _; (with_reducible repeat first | apply bN | apply bD | apply bA); refine blk_far ?_ NB132_130.out _; (with_reducible repeat first | apply bN | apply bD | apply bA); refine blk_far ?_ NB132_130.out _; (with_reducible repeat first | apply bN | apply bD | apply bA); exact BK132.out⟩
              have n6_ : Aside0 (Below w.heap.size w ((((((w30.setCell ⟨gb130, 0, none⟩ (.int .i64 a0_0)).setCell ⟨gb130, 1, none⟩ (.int .i64 a0_1)).setCell ⟨gb131, 0, none⟩ (.int .i64 a1_0)).setCell ⟨gb131, 1, none⟩ (.int .i64 a1_1)).setCell ⟨gb132, 0, none⟩ (.int .i64 a2_0)).setCell ⟨gb132, 1, none⟩ (.int .i64 a2_1))) := ⟨by repeat (first | (with_reducible first | exact HB.out | apply eA | apply eN | apply eD | refine bS ?_ GE121.out | refine bS ?_ GE122.out | refine bS ?_ GE123.out | refine bS ?_ GE130.out | refine bS ?_ GE131.out | refine bS ?_ GE132.out) | exact HB.out)⟩
              (try clear BK121)
              (try clear BK122)
              (try clear BK123)
              (try clear BK130)
              (try clear BK131)
              (try clear BK132)
              (try clear HB)
              generalize ((((((w30.setCell ⟨gb130, 0, none⟩ (.int .i64 a0_0)).setCell ⟨gb130, 1, none⟩ (.int .i64 a0_1)).setCell ⟨gb131, 0, none⟩ (.int .i64 a1_0)).setCell ⟨gb131, 1, none⟩ (.int .i64 a1_1)).setCell ⟨gb132, 0, none⟩ (.int .i64 a2_0)).setCell ⟨gb132, 1, none⟩ (.int .i64 a2_1)) = w50 at n0_ n1_ n2_ n3_ n4_ n5_ n6_ ⊢
              have BK121 := n0_
              have BK122 := n1_
              have BK123 := n2_
              have BK130 := n3_
              have BK131 := n4_
              have BK132 := n5_
              have HB := n6_
              clear n0_ n1_ n2_ n3_ n4_ n5_ n6_
              have n0_ := Aside0.mk (blk_drew BK121.out)
              have n1_ := Aside0.mk (blk_drew BK122.out)
              have n2_ := Aside0.mk (blk_drew BK123.out)
              have n3_ := Aside0.mk (blk_drew BK130.out)
              have n4_ := Aside0.mk (blk_drew BK131.out)
              have n5_ := Aside0.mk (blk_drew BK132.out)
              have n6_ := Aside0.mk (below_drew1 HB.out)
              clear BK121
              clear BK122
              clear BK123
              clear BK130
              clear BK131
              clear BK132
              clear HB
              have BK121 := n0_
              have BK122 := n1_
              have BK123 := n2_
              have BK130 := n3_
              have BK131 := n4_
              have BK132 := n5_
              have HB := n6_
              clear n0_ n1_ n2_ n3_ n4_ n5_ n6_
              refine start_ (n := 28) (S := fun w' => w'.cell? ⟨gb130, 0, none⟩ = some (.int .i64 a0_0) ∧ w'.cell? ⟨gb130, 1, none⟩ = some (.int .i64 a0_1) ∧ w'.cell? ⟨gb131, 0, none⟩ = some (.int .i64 a1_0) ∧ w'.cell? ⟨gb131, 1, none⟩ = some (.int .i64 a1_1)) (ds := []) #[ff, ff, ff, ff, ff, ff, ff, ff, ff, ff, ff, ff, ff, ff, ff, ff, ff, ff, ff, ff, ff, ff, ff, ff, ff, ff, ff, ff] (by kernel_rfl) rfl rfl ⟨(blk_cell BK130.out 0).trans rfl, (blk_cell BK130.out 1).trans rfl, (blk_cell BK131.out 0).trans rfl, (blk_cell BK131.out 1).trans rfl⟩ (fun hHeld => ?_); refine with_tabW sA.tab4 sA.bits4 (fun HT_ HW_ => ?_)
              generalize w50.drew = w51 at BK121 BK122 BK123 BK130 BK131 BK132 HB hHeld ⊢
              refine take_ (i := 0) (N := some 32) (v := ?_) (a' := ?_) #[tt, ff, ff, ff, ff, ff, ff, ff, ff, ff, ff, ff, ff, ff, ff, ff, ff, ff, ff, ff, ff, ff, ff, ff, ff, ff, ff, ff] rfl rfl (take_ofW HT_.out HW_.out (by kernel_rfl)) (fun _ _ _ h => h) (Or.inl ⟨by rfl, ?_⟩) hHeld ?_ ?_
              rotate_left
              · rintro w' ⟨s0, s1, s2, s3⟩
                go_simp
                with_reducible rfl
              rotate_left
              · simp only [Act.put, lA, sZ, sC, i64_w, i32_w]
                rfl
              refine take_ (i := 1) (N := some 33) (v := ?_) (a' := ?_) #[tt, tt, ff, ff, ff, ff, ff, ff, ff, ff, ff, ff, ff, ff, ff, ff, ff, ff, ff, ff, ff, ff, ff, ff, ff, ff, ff, ff] rfl rfl (take_ofW HT_.out HW_.out (by kernel_rfl)) (fun _ _ _ h => h) (Or.inl ⟨by rfl, ?_⟩) hHeld ?_ ?_
              rotate_left
              · rintro w' ⟨s0, s1, s2, s3⟩
                go_simp
                with_reducible rfl
              rotate_left
              · simp only [Act.put, lA, sZ, sC, i64_w, i32_w]
                rfl
              refine take_ (i := 3) (N := some 35) (v := ?_) (a' := ?_) #[tt, tt, ff, tt, ff, ff, ff, ff, ff, ff, ff, ff, ff, ff, ff, ff, ff, ff, ff, ff, ff, ff, ff, ff, ff, ff, ff, ff] rfl rfl (take_ofW HT_.out HW_.out (by kernel_rfl)) (fun _ _ _ h => h) (Or.inl ⟨by rfl, ?_⟩) hHeld ?_ ?_
              rotate_left
              · rintro w' ⟨s0, s1, s2, s3⟩
                go_simp
                with_reducible rfl
              rotate_left
              · simp only [Act.put, lA, sZ, sC, i64_w, i32_w]
                rfl
              refine take_ (i := 4) (N := some 36) (v := ?_) (a' := ?_) #[tt, tt, ff, tt, tt, ff, ff, ff, ff, ff, ff, ff, ff, ff, ff, ff, ff, ff, ff, ff, ff, ff, ff, ff, ff, ff, ff, ff] rfl rfl (take_ofW HT_.out HW_.out (by kernel_rfl)) (fun _ _ _ h => h) (Or.inl ⟨by rfl, ?_⟩) hHeld ?_ ?_
              rotate_left
              · rintro w' ⟨s0, s1, s2, s3⟩
                go_simp
                with_reducible rfl
              rotate_left
              · simp only [Act.put, lA, sZ, sC, i64_w, i32_w]
                rfl
              refine one_ (i := 2) (N := some 34) #[tt, tt, tt, tt, tt, ff, ff, ff, ff, ff, ff, ff, ff, ff, ff, ff, ff, ff, ff, ff, ff, ff, ff, ff, ff, ff, ff, ff] rfl rfl (one_of HT_.out (by kernel_rfl)) (by decide) (fun K hK => ?_)
              refine goes_ Try.func15 (by kernel_rfl) rfl #[.agg #[.int .i64 a0_0, .int .i64 a0_1], .agg #[.int .i64 a1_0, .int .i64 a1_1]] (by rfl) rfl rfl (by (try simp only [List.map_toArray, List.map_cons, List.map_nil]); first | done | rfl | (simp only [List.length_drop, List.length_take]; rfl)) ?_
              with_reducible refine (span_Span_And.calls a0_0 a0_1 a1_0 a1_1 t133 t134 _ A37.out).mono ?_
              rintro e w52 ⟨rfl, hb⟩
              refine ⟨_, rfl, ?_⟩
              have n0_ := Aside0.mk (blk_below (by (with_reducible repeat first | apply bN | apply bD | apply bA); exact BK121.out) hb)
              have n1_ := Aside0.mk (blk_below (by (with_reducible repeat first | apply bN | apply bD | apply bA); exact BK122.out) hb)
              have n2_ := Aside0.mk (blk_below (by (with_reducible repeat first | apply bN | apply bD | apply bA); exact BK123.out) hb)
              have n3_ := Aside0.mk (blk_below (by (with_reducible repeat first | apply bN | apply bD | apply bA); exact BK130.out) hb)
              have n4_ := Aside0.mk (blk_below (by (with_reducible repeat first | apply bN | apply bD | apply bA); exact BK131.out) hb)
              have n5_ := Aside0.mk (blk_below (by (with_reducible repeat first | apply bN | apply bD | apply bA); exact BK132.out) hb)
              have n6_ := Aside0.mk (below_step (by repeat (first | (with_reducible first | exact HB.out | apply eA | apply eN | apply eD | refine bS ?_ GE121.out | refine bS ?_ GE122.out | refine bS ?_ GE123.out | refine bS ?_ GE130.out | refine bS ?_ GE131.out | refine bS ?_ GE132.out) | exact HB.out)) hb)
              clear BK121
              clear BK122
              clear BK123
              clear BK130
              clear BK131
              clear BK132
              clear HB
              have BK121 := n0_
              have BK122 := n1_
              have BK123 := n2_
              have BK130 := n3_
              have BK131 := n4_
              have BK132 := n5_
              have HB := n6_
              clear n0_ n1_ n2_ n3_ n4_ n5_ n6_
              (try clear hb)
              (try clear hb2)
              (try clear hk)
              (try clear hi)
              refine hK.out _ _ ⟨(blk_cell BK130.out 0).trans rfl, (blk_cell BK130.out 1).trans rfl, (blk_cell BK131.out 0).trans rfl, (blk_cell BK131.out 1).trans rfl⟩ (fun hHeld => ?_)
              clear hK K
              refine norm_ (a' := ?_) ?_ ?_
              rotate_left
              · show Act.put _ (some 34) _ = _
                simp only [Act.put, lA, sZ, sC, i64_w, i32_w]
                rfl
              refine one_ (i := 5) (N := some 37) #[tt, tt, tt, tt, tt, tt, ff, ff, ff, ff, ff, ff, ff, ff, ff, ff, ff, ff, ff, ff, ff, ff, ff, ff, ff, ff, ff, ff] rfl rfl (one_of HT_.out (by kernel_rfl)) (by decide) (fun K hK => ?_)
              refine goes_ Try.func15 (by kernel_rfl) rfl #[.agg #[.int .i64 a1_0, .int .i64 a1_1], .agg #[.int .i64 a0_0, .int .i64 a0_1]] (by rfl) rfl rfl (by (try simp only [List.map_toArray, List.map_cons, List.map_nil]); first | done | rfl | (simp only [List.length_drop, List.length_take]; rfl)) ?_
              with_reducible refine (span_Span_And.calls a1_0 a1_1 a0_0 a0_1 t135 t136 _ A38.out).mono ?_
              rintro e w53 ⟨rfl, hb⟩
              refine ⟨_, rfl, ?_⟩
              have n0_ := Aside0.mk (blk_below (by (with_reducible repeat first | apply bN | apply bD | apply bA); exact BK121.out) hb)
              have n1_ := Aside0.mk (blk_below (by (with_reducible repeat first | apply bN | apply bD | apply bA); exact BK122.out) hb)
              have n2_ := Aside0.mk (blk_below (by (with_reducible repeat first | apply bN | apply bD | apply bA); exact BK123.out) hb)
              have n3_ := Aside0.mk (blk_below (by (with_reducible repeat first | apply bN | apply bD | apply bA); exact BK130.out) hb)
              have n4_ := Aside0.mk (blk_below (by (with_reducible repeat first | apply bN | apply bD | apply bA); exact BK131.out) hb)
              have n5_ := Aside0.mk (blk_below (by (with_reducible repeat first | apply bN | apply bD | apply bA); exact BK132.out) hb)
              have n6_ := Aside0.mk (below_step (by repeat (first | (with_reducible first | exact HB.out | apply eA | apply eN | apply eD | refine bS ?_ GE121.out | refine bS ?_ GE122.out | refine bS ?_ GE123.out | refine bS ?_ GE130.out | refine bS ?_ GE131.out | refine bS ?_ GE132.out) | exact HB.out)) hb)
              clear BK121
              clear BK122
              clear BK123
              clear BK130
              clear BK131
              clear BK132
              clear HB
              have BK121 := n0_
              have BK122 := n1_
              have BK123 := n2_
              have BK130 := n3_
              have BK131 := n4_
              have BK132 := n5_
              have HB := n6_
              clear n0_ n1_ n2_ n3_ n4_ n5_ n6_
              (try clear hb)
              (try clear hb2)
              (try clear hk)
              (try clear hi)
              refine hK.out _ _ ⟨(blk_cell BK130.out 0).trans rfl, (blk_cell BK130.out 1).trans rfl, (blk_cell BK131.out 0).trans rfl, (blk_cell BK131.out 1).trans rfl⟩ (fun hHeld => ?_)
              clear hK K
              refine norm_ (a' := ?_) ?_ ?_
              rotate_left
              · show Act.put _ (some 37) _ = _
                simp only [Act.put, lA, sZ, sC, i64_w, i32_w]
                rfl
              refine pure_ (i := 6) (N := some 38) (v := ?_) (a' := ?_) #[tt, tt, tt, tt, tt, tt, tt, ff, ff, ff, ff, ff, ff, ff, ff, ff, ff, ff, ff, ff, ff, ff, ff, ff, ff, ff, ff, ff] rfl rfl (any_of HT_.out (by kernel_rfl)) (fun _ _ _ h => h) (Or.inl ⟨by rfl, ?_⟩) ?_ ?_
              rotate_left
              · intro w'
                go_simp
                with_reducible rfl
              rotate_left
              · simp only [Act.put, lA, sZ, sC, i64_w, i32_w]
                rfl
              refine pure_ (i := 7) (N := some 39) (v := ?_) (a' := ?_) #[tt, tt, tt, tt, tt, tt, tt, tt, ff, ff, ff, ff, ff, ff, ff, ff, ff, ff, ff, ff, ff, ff, ff, ff, ff, ff, ff, ff] rfl rfl (any_of HT_.out (by kernel_rfl)) (fun _ _ _ h => h) (Or.inl ⟨by rfl, ?_⟩) ?_ ?_
              rotate_left
              · intro w'
                go_simp
                with_reducible rfl
              rotate_left
              · simp only [Act.put, lA, sZ, sC, i64_w, i32_w]
                rfl
              refine take_ (i := 8) (N := some 40) (v := ?_) (a' := ?_) #[tt, tt, tt, tt, tt, tt, tt, tt, tt, ff, ff, ff, ff, ff, ff, ff, ff, ff, ff, ff, ff, ff, ff, ff, ff, ff, ff, ff] rfl rfl (take_ofW HT_.out HW_.out (by kernel_rfl)) (fun _ _ _ h => h) (Or.inl ⟨by rfl, ?_⟩) hHeld ?_ ?_
              rotate_left
              · rintro w' ⟨s0, s1, s2, s3⟩
                go_simp
                with_reducible rfl
              rotate_left
              · simp only [Act.put, lA, sZ, sC, i64_w, i32_w]
                rfl
              refine take_ (i := 9) (N := some 41) (v := ?_) (a' := ?_) #[tt, tt, tt, tt, tt, tt, tt, tt, tt, tt, ff, ff, ff, ff, ff, ff, ff, ff, ff, ff, ff, ff, ff, ff, ff, ff, ff, ff] rfl rfl (take_ofW HT_.out HW_.out (by kernel_rfl)) (fun _ _ _ h => h) (Or.inl ⟨by rfl, ?_⟩) hHeld ?_ ?_
              rotate_left
              · rintro w' ⟨s0, s1, s2, s3⟩
                go_simp
                with_reducible rfl
              rotate_left
              · simp only [Act.put, lA, sZ, sC, i64_w, i32_w]
                rfl
              refine take_ (i := 12) (N := some 44) (v := ?_) (a' := ?_) #[tt, tt, tt, tt, tt, tt, tt, tt, tt, tt, ff, ff, tt, ff, ff, ff, ff, ff, ff, ff, ff, ff, ff, ff, ff, ff, ff, ff] rfl rfl (take_ofW HT_.out HW_.out (by kernel_rfl)) (fun _ _ _ h => h) (Or.inl ⟨by rfl, ?_⟩) hHeld ?_ ?_
              rotate_left
              · rintro w' ⟨s0, s1, s2, s3⟩
                go_simp
                with_reducible rfl
              rotate_left
              · simp only [Act.put, lA, sZ, sC, i64_w, i32_w]
                rfl
              refine take_ (i := 14) (N := some 46) (v := ?_) (a' := ?_) #[tt, tt, tt, tt, tt, tt, tt, tt, tt, tt, ff, ff, tt, ff, tt, ff, ff, ff, ff, ff, ff, ff, ff, ff, ff, ff, ff, ff] rfl rfl (take_ofW HT_.out HW_.out (by kernel_rfl)) (fun _ _ _ h => h) (Or.inl ⟨by rfl, ?_⟩) hHeld ?_ ?_
              rotate_left
              · rintro w' ⟨s0, s1, s2, s3⟩
                go_simp
                with_reducible rfl
              rotate_left
              · simp only [Act.put, lA, sZ, sC, i64_w, i32_w]
                rfl
              refine one_ (i := 10) (N := some 42) #[tt, tt, tt, tt, tt, tt, tt, tt, tt, tt, tt, ff, tt, ff, tt, ff, ff, ff, ff, ff, ff, ff, ff, ff, ff, ff, ff, ff] rfl rfl (one_of HT_.out (by kernel_rfl)) (by decide) (fun K hK => ?_)
              refine goes_ Try.func15 (by kernel_rfl) rfl #[.agg #[.int .i64 a0_0, .int .i64 a0_1], .agg #[.int .i64 a1_0, .int .i64 a1_1]] (by rfl) rfl rfl (by (try simp only [List.map_toArray, List.map_cons, List.map_nil]); first | done | rfl | (simp only [List.length_drop, List.length_take]; rfl)) ?_
              with_reducible refine (span_Span_And.calls a0_0 a0_1 a1_0 a1_1 t137 t138 _ A44.out).mono ?_
              rintro e w54 ⟨rfl, hb⟩
              refine ⟨_, rfl, ?_⟩
              have n0_ := Aside0.mk (blk_below (by (with_reducible repeat first | apply bN | apply bD | apply bA); exact BK121.out) hb)
              have n1_ := Aside0.mk (blk_below (by (with_reducible repeat first | apply bN | apply bD | apply bA); exact BK122.out) hb)
              have n2_ := Aside0.mk (blk_below (by (with_reducible repeat first | apply bN | apply bD | apply bA); exact BK123.out) hb)
              have n3_ := Aside0.mk (blk_below (by (with_reducible repeat first | apply bN | apply bD | apply bA); exact BK130.out) hb)
              have n4_ := Aside0.mk (blk_below (by (with_reducible repeat first | apply bN | apply bD | apply bA); exact BK131.out) hb)
              have n5_ := Aside0.mk (blk_below (by (with_reducible repeat first | apply bN | apply bD | apply bA); exact BK132.out) hb)
              have n6_ := Aside0.mk (below_step (by repeat (first | (with_reducible first | exact HB.out | apply eA | apply eN | apply eD | refine bS ?_ GE121.out | refine bS ?_ GE122.out | refine bS ?_ GE123.out | refine bS ?_ GE130.out | refine bS ?_ GE131.out | refine bS ?_ GE132.out) | exact HB.out)) hb)
              clear BK121
              clear BK122
              clear BK123
              clear BK130
              clear BK131
              clear BK132
              clear HB
              have BK121 := n0_
              have BK122 := n1_
              have BK123 := n2_
              have BK130 := n3_
              have BK131 := n4_
              have BK132 := n5_
              have HB := n6_
              clear n0_ n1_ n2_ n3_ n4_ n5_ n6_
              (try clear hb)
              (try clear hb2)
              (try clear hk)
              (try clear hi)
              refine hK.out _ _ ⟨(blk_cell BK130.out 0).trans rfl, (blk_cell BK130.out 1).trans rfl, (blk_cell BK131.out 0).trans rfl, (blk_cell BK131.out 1).trans rfl⟩ (fun hHeld => ?_)
              clear hK K
              refine norm_ (a' := ?_) ?_ ?_
              rotate_left
              · show Act.put _ (some 42) _ = _
                simp only [Act.put, lA, sZ, sC, i64_w, i32_w]
                rfl
              refine one_ (i := 11) (N := some 43) #[tt, tt, tt, tt, tt, tt, tt, tt, tt, tt, tt, tt, tt, ff, tt, ff, ff, ff, ff, ff, ff, ff, ff, ff, ff, ff, ff, ff] rfl rfl (one_of HT_.out (by kernel_rfl)) (by decide) (fun K hK => ?_)
              refine goes_ Try.func16 (by kernel_rfl) rfl #[.agg #[.int .i64 t137, .int .i64 t138]] (by rfl) rfl rfl (by (try simp only [List.map_toArray, List.map_cons, List.map_nil]); first | done | rfl | (simp only [List.length_drop, List.length_take]; rfl)) ?_
              with_reducible refine (span_Span_Len.calls t137 t138 t139 _ A45.out).mono ?_
              rintro e w55 ⟨rfl, hb⟩
              refine ⟨_, rfl, ?_⟩
              have n0_ := Aside0.mk (blk_below (by (with_reducible repeat first | apply bN | apply bD | apply bA); exact BK121.out) hb)
              have n1_ := Aside0.mk (blk_below (by (with_reducible repeat first | apply bN | apply bD | apply bA); exact BK122.out) hb)
              have n2_ := Aside0.mk (blk_below (by (with_reducible repeat first | apply bN | apply bD | apply bA); exact BK123.out) hb)
              have n3_ := Aside0.mk (blk_below (by (with_reducible repeat first | apply bN | apply bD | apply bA); exact BK130.out) hb)
              have n4_ := Aside0.mk (blk_below (by (with_reducible repeat first | apply bN | apply bD | apply bA); exact BK131.out) hb)
              have n5_ := Aside0.mk (blk_below (by (with_reducible repeat first | apply bN | apply bD | apply bA); exact BK132.out) hb)
              have n6_ := Aside0.mk (below_step (by repeat (first | (with_reducible first | exact HB.out | apply eA | apply eN | apply eD | refine bS ?_ GE121.out | refine bS ?_ GE122.out | refine bS ?_ GE123.out | refine bS ?_ GE130.out | refine bS ?_ GE131.out | refine bS ?_ GE132.out) | exact HB.out)) hb)
              clear BK121
              clear BK122
              clear BK123
              clear BK130
              clear BK131
              clear BK132
              clear HB
              have BK121 := n0_
              have BK122 := n1_
              have BK123 := n2_
              have BK130 := n3_
              have BK131 := n4_
              have BK132 := n5_
              have HB := n6_
              clear n0_ n1_ n2_ n3_ n4_ n5_ n6_
              (try clear hb)
              (try clear hb2)
              (try clear hk)
              (try clear hi)
              refine hK.out _ _ ⟨(blk_cell BK130.out 0).trans rfl, (blk_cell BK130.out 1).trans rfl, (blk_cell BK131.out 0).trans rfl, (blk_cell BK131.out 1).trans rfl⟩ (fun hHeld => ?_)
              clear hK K
              refine norm_ (a' := ?_) ?_ ?_
              rotate_left
              · show Act.put _ (some 43) _ = _
                simp only [Act.put, lA, sZ, sC, i64_w, i32_w]
                rfl
              refine one_ (i := 13) (N := some 45) #[tt, tt, tt, tt, tt, tt, tt, tt, tt, tt, tt, tt, tt, tt, tt, ff, ff, ff, ff, ff, ff, ff, ff, ff, ff, ff, ff, ff] rfl rfl (one_of HT_.out (by kernel_rfl)) (by decide) (fun K hK => ?_)
              refine goes_ Try.func16 (by kernel_rfl) rfl #[.agg #[.int .i64 a0_0, .int .i64 a0_1]] (by rfl) rfl rfl (by (try simp only [List.map_toArray, List.map_cons, List.map_nil]); first | done | rfl | (simp only [List.length_drop, List.length_take]; rfl)) ?_
              with_reducible refine (span_Span_Len.calls a0_0 a0_1 t140 _ A46.out).mono ?_
              rintro e w56 ⟨rfl, hb⟩
              refine ⟨_, rfl, ?_⟩
              have n0_ := Aside0.mk (blk_below (by (with_reducible repeat first | apply bN | apply bD | apply bA); exact BK121.out) hb)
              have n1_ := Aside0.mk (blk_below (by (with_reducible repeat first | apply bN | apply bD | apply bA); exact BK122.out) hb)
              have n2_ := Aside0.mk (blk_below (by (with_reducible repeat first | apply bN | apply bD | apply bA); exact BK123.out) hb)
              have n3_ := Aside0.mk (blk_below (by (with_reducible repeat first | apply bN | apply bD | apply bA); exact BK130.out) hb)
              have n4_ := Aside0.mk (blk_below (by (with_reducible repeat first | apply bN | apply bD | apply bA); exact BK131.out) hb)
              have n5_ := Aside0.mk (blk_below (by (with_reducible repeat first | apply bN | apply bD | apply bA); exact BK132.out) hb)
              have n6_ := Aside0.mk (below_step (by repeat (first | (with_reducible first | exact HB.out | apply eA | apply eN | apply eD | refine bS ?_ GE121.out | refine bS ?_ GE122.out | refine bS ?_ GE123.out | refine bS ?_ GE130.out | refine bS ?_ GE131.out | refine bS ?_ GE132.out) | exact HB.out)) hb)
              clear BK121
              clear BK122
              clear BK123
              clear BK130
              clear BK131
              clear BK132
              clear HB
              have BK121 := n0_
              have BK122 := n1_
              have BK123 := n2_
              have BK130 := n3_
              have BK131 := n4_
              have BK132 := n5_
              have HB := n6_
              clear n0_ n1_ n2_ n3_ n4_ n5_ n6_
              (try clear hb)
              (try clear hb2)
              (try clear hk)
              (try clear hi)
              refine hK.out _ _ ⟨(blk_cell BK130.out 0).trans rfl, (blk_cell BK130.out 1).trans rfl, (blk_cell BK131.out 0).trans rfl, (blk_cell BK131.out 1).trans rfl⟩ (fun hHeld => ?_)
              clear hK K
              refine norm_ (a' := ?_) ?_ ?_
              rotate_left
              · show Act.put _ (some 45) _ = _
                simp only [Act.put, lA, sZ, sC, i64_w, i32_w]
                rfl
              refine one_ (i := 15) (N := some 47) #[tt, tt, tt, tt, tt, tt, tt, tt, tt, tt, tt, tt, tt, tt, tt, tt, ff, ff, ff, ff, ff, ff, ff, ff, ff, ff, ff, ff] rfl rfl (one_of HT_.out (by kernel_rfl)) (by decide) (fun K hK => ?_)
              refine goes_ Try.func16 (by kernel_rfl) rfl #[.agg #[.int .i64 a1_0, .int .i64 a1_1]] (by rfl) rfl rfl (by (try simp only [List.map_toArray, List.map_cons, List.map_nil]); first | done | rfl | (simp only [List.length_drop, List.length_take]; rfl)) ?_
              with_reducible refine (span_Span_Len.calls a1_0 a1_1 t141 _ A47.out).mono ?_
              rintro e w57 ⟨rfl, hb⟩
              refine ⟨_, rfl, ?_⟩
              have n0_ := Aside0.mk (blk_below (by (with_reducible repeat first | apply bN | apply bD | apply bA); exact BK121.out) hb)
              have n1_ := Aside0.mk (blk_below (by (with_reducible repeat first | apply bN | apply bD | apply bA); exact BK122.out) hb)
              have n2_ := Aside0.mk (blk_below (by (with_reducible repeat first | apply bN | apply bD | apply bA); exact BK123.out) hb)
              have n3_ := Aside0.mk (blk_below (by (with_reducible repeat first | apply bN | apply bD | apply bA); exact BK130.out) hb)
              have n4_ := Aside0.mk (blk_below (by (with_reducible repeat first | apply bN | apply bD | apply bA); exact BK131.out) hb)
              have n5_ := Aside0.mk (blk_below (by (with_reducible repeat first | apply bN | apply bD | apply bA); exact BK132.out) hb)
              have n6_ := Aside0.mk (below_step (by repeat (first | (with_reducible first | exact HB.out | apply eA | apply eN | apply eD | refine bS ?_ GE121.out | refine bS ?_ GE122.out | refine bS ?_ GE123.out | refine bS ?_ GE130.out | refine bS ?_ GE131.out | refine bS ?_ GE132.out) | exact HB.out)) hb)
              clear BK121
              clear BK122
              clear BK123
              clear BK130
              clear BK131
              clear BK132
              clear HB
              have BK121 := n0_
              have BK122 := n1_
              have BK123 := n2_
              have BK130 := n3_
              have BK131 := n4_
              have BK132 := n5_
              have HB := n6_
              clear n0_ n1_ n2_ n3_ n4_ n5_ n6_
              (try clear hb)
              (try clear hb2)
              (try clear hk)
              (try clear hi)
              refine hK.out _ _ ⟨(blk_cell BK130.out 0).trans rfl, (blk_cell BK130.out 1).trans rfl, (blk_cell BK131.out 0).trans rfl, (blk_cell BK131.out 1).trans rfl⟩ (fun hHeld => ?_)
              clear hK K
              refine norm_ (a' := ?_) ?_ ?_
              rotate_left
              · show Act.put _ (some 47) _ = _
                simp only [Act.put, lA, sZ, sC, i64_w, i32_w]
                rfl
              refine pure_ (i := 16) (N := some 48) (v := ?_) (a' := ?_) #[tt, tt, tt, tt, tt, tt, tt, tt, tt, tt, tt, tt, tt, tt, tt, tt, tt, ff, ff, ff, ff, ff, ff, ff, ff, ff, ff, ff] rfl rfl (any_of HT_.out (by kernel_rfl)) (fun _ _ _ h => h) (Or.inl ⟨by rfl, ?_⟩) ?_ ?_
              rotate_left
              · intro w'
                go_simp
                with_reducible rfl
              rotate_left
              · simp only [Act.put, lA, sZ, sC, i64_w, i32_w]
                rfl
              refine pure_ (i := 17) (N := some 49) (v := ?_) (a' := ?_) #[tt, tt, tt, tt, tt, tt, tt, tt, tt, tt, tt, tt, tt, tt, tt, tt, tt, tt, ff, ff, ff, ff, ff, ff, ff, ff, ff, ff] rfl rfl (any_of HT_.out (by kernel_rfl)) (fun _ _ _ h => h) (Or.inl ⟨by rfl, ?_⟩) ?_ ?_
              rotate_left
              · intro w'
                go_simp
                with_reducible rfl
              rotate_left
              · simp only [Act.put, lA, sZ, sC, i64_w, i32_w]
                rfl
              refine pure_ (i := 18) (N := some 50) (v := ?_) (a' := ?_) #[tt, tt, tt, tt, tt, tt, tt, tt, tt, tt, tt, tt, tt, tt, tt, tt, tt, tt, tt, ff, ff, ff, ff, ff, ff, ff, ff, ff] rfl rfl (any_of HT_.out (by kernel_rfl)) (fun _ _ _ h => h) (Or.inl ⟨by rfl, ?_⟩) ?_ ?_
              rotate_left
              · intro w'
                go_simp
                with_reducible rfl
              rotate_left
              · simp only [Act.put, lA, sZ, sC, i64_w, i32_w]
                rfl
              refine pure_ (i := 19) (N := some 51) (v := ?_) (a' := ?_) #[tt, tt, tt, tt, tt, tt, tt, tt, tt, tt, tt, tt, tt, tt, tt, tt, tt, tt, tt, tt, ff, ff, ff, ff, ff, ff, ff, ff] rfl rfl (any_of HT_.out (by kernel_rfl)) (fun _ _ _ h => h) (Or.inl ⟨by rfl, ?_⟩) ?_ ?_
              rotate_left
              · intro w'
                go_simp
                with_reducible rfl
              rotate_left
              · simp only [Act.put, lA, sZ, sC, i64_w, i32_w]
                rfl
              refine pure_ (i := 20) (N := some 52) (v := undef) (a' := ?_) #[tt, tt, tt, tt, tt, tt, tt, tt, tt, tt, tt, tt, tt, tt, tt, tt, tt, tt, tt, tt, tt, ff, ff, ff, ff, ff, ff, ff] rfl rfl (any_of HT_.out (by kernel_rfl)) (fun _ _ _ h => h) (Or.inr ⟨by rfl, rfl⟩) ?_ ?_
              rotate_left
              · simp only [Act.put, lA, sZ, sC, i64_w, i32_w]
                rfl
              refine pure_ (i := 21) (N := some 53) (v := undef) (a' := ?_) #[tt, tt, tt, tt, tt, tt, tt, tt, tt, tt, tt, tt, tt, tt, tt, tt, tt, tt, tt, tt, tt, tt, ff, ff, ff, ff, ff, ff] rfl rfl (any_of HT_.out (by kernel_rfl)) (fun _ _ _ h => h) (Or.inr ⟨by rfl, rfl⟩) ?_ ?_
              rotate_left
              · simp only [Act.put, lA, sZ, sC, i64_w, i32_w]
                rfl
              refine pure_ (i := 22) (N := some 54) (v := undef) (a' := ?_) #[tt, tt, tt, tt, tt, tt, tt, tt, tt, tt, tt, tt, tt, tt, tt, tt, tt, tt, tt, tt, tt, tt, tt, ff, ff, ff, ff, ff] rfl rfl (any_of HT_.out (by kernel_rfl)) (fun _ _ _ h => h) (Or.inr ⟨by rfl, rfl⟩) ?_ ?_
              rotate_left
              · simp only [Act.put, lA, sZ, sC, i64_w, i32_w]
                rfl
              refine pure_ (i := 23) (N := some 55) (v := undef) (a' := ?_) #[tt, tt, tt, tt, tt, tt, tt, tt, tt, tt, tt, tt, tt, tt, tt, tt, tt, tt, tt, tt, tt, tt, tt, tt, ff, ff, ff, ff] rfl rfl (any_of HT_.out (by kernel_rfl)) (fun _ _ _ h => h) (Or.inr ⟨by rfl, rfl⟩) ?_ ?_
              rotate_left
              · simp only [Act.put, lA, sZ, sC, i64_w, i32_w]
                rfl
              refine pure_ (i := 24) (N := some 56) (v := undef) (a' := ?_) #[tt, tt, tt, tt, tt, tt, tt, tt, tt, tt, tt, tt, tt, tt, tt, tt, tt, tt, tt, tt, tt, tt, tt, tt, tt, ff, ff, ff] rfl rfl (any_of HT_.out (by kernel_rfl)) (fun _ _ _ h => h) (Or.inr ⟨by rfl, rfl⟩) ?_ ?_
              rotate_left
              · simp only [Act.put, lA, sZ, sC, i64_w, i32_w]
                rfl
              refine pure_ (i := 25) (N := some 57) (v := undef) (a' := ?_) #[tt, tt, tt, tt, tt, tt, tt, tt, tt, tt, tt, tt, tt, tt, tt, tt, tt, tt, tt, tt, tt, tt, tt, tt, tt, tt, ff, ff] rfl rfl (any_of HT_.out (by kernel_rfl)) (fun _ _ _ h => h) (Or.inr ⟨by rfl, rfl⟩) ?_ ?_
              rotate_left
              · simp only [Act.put, lA, sZ, sC, i64_w, i32_w]
                rfl
              refine pure_ (i := 26) (N := some 58) (v := undef) (a' := ?_) #[tt, tt, tt, tt, tt, tt, tt, tt, tt, tt, tt, tt, tt, tt, tt, tt, tt, tt, tt, tt, tt, tt, tt, tt, tt, tt, tt, ff] rfl rfl (any_of HT_.out (by kernel_rfl)) (fun _ _ _ h => h) (Or.inr ⟨by rfl, rfl⟩) ?_ ?_
              rotate_left
              · simp only [Act.put, lA, sZ, sC, i64_w, i32_w]
                rfl
              refine pure_ (i := 27) (N := some 59) (v := ?_) (a' := ?_) #[tt, tt, tt, tt, tt, tt, tt, tt, tt, tt, tt, tt, tt, tt, tt, tt, tt, tt, tt, tt, tt, tt, tt, tt, tt, tt, tt, tt] rfl rfl (any_of HT_.out (by kernel_rfl)) (fun _ _ _ h => h) (Or.inl ⟨by rfl, ?_⟩) ?_ ?_
              rotate_left
              · intro w'
                go_simp
                with_reducible rfl
              rotate_left
              · simp only [Act.put, lA, sZ, sC, i64_w, i32_w]
                rfl
              refine done_ (done_of HT_.out (by kernel_rfl)) ?_
              try go_wp2
              go_meet
              case rel => exact ⟨_, (true), (by first | rfl | (simp; done) | (simp [*]; done)), H', ⟨by have := HJ3.out; first | omega | exact Nat.le_refl _⟩, ⟨by (with_reducible repeat first | apply bN | apply bD | apply bA); exact BK121.out⟩, ⟨by (with_reducible repeat first | apply bN | apply bD | apply bA); exact BK122.out⟩, ⟨by (with_reducible repeat first | apply bN | apply bD | apply bA); exact BK123.out⟩, ⟨by (with_reducible repeat first | apply bN | apply bD | apply bA); exact BK130.out⟩, ⟨by (with_reducible repeat first | apply bN | apply bD | apply bA); exact BK131.out⟩, ⟨by (with_reducible repeat first | apply bN | apply bD | apply bA); exact BK132.out⟩, ⟨by repeat (first | (with_reducible first | exact HB.out | apply eA | apply eN | apply eD | refine bS ?_ GE121.out | refine bS ?_ GE122.out | refine bS ?_ GE123.out | refine bS ?_ GE130.out | refine bS ?_ GE131.out | refine bS ?_ GE132.out) | exact HB.out)⟩⟩
            · rw [if_neg c49] at H
              have c49b0 : decide ((ji48) < t139) = false := decide_eq_false c49
              clear c49
              replace H := Option.bind_eq_some_iff.mp H
              obtain ⟨⟨t142, t143⟩, A580, H⟩ := H
              replace H : ((span_Span_Len.f t142 t143).bind fun t144 => ((span_Span_Len.f a0_0 a0_1).bind fun t145 => (sA.j1 kj3 (t144 != t145) a0_0 a0_1 a1_0 a1_1 a2_0 a2_1))) = some r := H
              have A58 := Aside0.mk A580
              clear A580
              replace H := Option.bind_eq_some_iff.mp H
              obtain ⟨t144, A590, H⟩ := H
              replace H : ((span_Span_Len.f a0_0 a0_1).bind fun t145 => (sA.j1 kj3 (t144 != t145) a0_0 a0_1 a1_0 a1_1 a2_0 a2_1)) = some r := H
              have A59 := Aside0.mk A590
              clear A590
              replace H := Option.bind_eq_some_iff.mp H
              obtain ⟨t145, A600, H⟩ := H
              replace H : (sA.j1 kj3 (t144 != t145) a0_0 a0_1 a1_0 a1_1 a2_0 a2_1) = some r := H
              have A60 := Aside0.mk A600
              clear A600
              have H' := Aside0.mk H
              clear H
              try go_wp2
              have n0_ : Aside0 (((((((w30.setCell ⟨gb130, 0, none⟩ (.int .i64 a0_0)).setCell ⟨gb130, 1, none⟩ (.int .i64 a0_1)).setCell ⟨gb131, 0, none⟩ (.int .i64 a1_0)).setCell ⟨gb131, 1, none⟩ (.int .i64 a1_1)).setCell ⟨gb132, 0, none⟩ (.int .i64 a2_0)).setCell ⟨gb132, 1, none⟩ (.int .i64 a2_1)).heap[gb121]? = some (.cells #[.int .i64 a0_0, .int .i64 a0_1] 31 (0, 0))) := ⟨by (with_reducible repeat first | apply bN | apply bD | apply bA); refine blk_far ?_ NB121_132.out _; (with_reducible repeat first | apply bN | apply bD | apply bA); refine blk_far ?_ NB121_132.out _; (with_reducible repeat first | apply bN | apply bD | apply bA); refine blk_far ?_ NB121_131.out _; (with_reducible repeat first | apply bN | apply bD | apply bA); refine blk_far ?_ NB121_131.out _; (with_reducible repeat first | apply bN | apply bD | apply bA); refine blk_far ?_ NB121_130.out _; (with_reducible repeat first | apply bN | apply bD | apply bA); refine blk_far ?_ NB121_130.out _; (with_reducible repeat first | apply bN | apply bD | apply bA); exact BK121.out⟩
              have n1_ : Aside0 (((((((w30.setCell ⟨gb130, 0, none⟩ (.int .i64 a0_0)).setCell ⟨gb130, 1, none⟩ (.int .i64 a0_1)).setCell ⟨gb131, 0, none⟩ (.int .i64 a1_0)).setCell ⟨gb131, 1, none⟩ (.int .i64 a1_1)).setCell ⟨gb132, 0, none⟩ (.int .i64 a2_0)).setCell ⟨gb132, 1, none⟩ (.int .i64 a2_1)).heap[gb122]? = some (.cells #[.int .i64 a1_0, .int .i64 a1_1] 31 (0, 0))) := ⟨by (with_reducible repeat first | apply bN | apply bD | apply bA); refine blk_far ?_ NB122_132.out _; (with_reducible repeat first | apply bN | apply bD | apply bA); refine blk_far ?_ NB122_132.out _; (with_reducible repeat first | apply bN | apply bD | apply bA); refine blk_far ?_ NB122_131.out _; (with_reducible repeat first | apply bN | apply bD | apply bA); refine blk_far ?_ NB122_131.out _; (with_reducible repeat first | apply bN | apply bD | apply bA); refine blk_far ?_ NB122_130.out _; (with_reducible repeat first | apply bN | apply bD | apply bA); refine blk_far ?_ NB122_130.out _; (with_reducible repeat first | apply bN | apply bD | apply bA); exact BK122.out⟩
              have n2_ : Aside0 (((((((w30.setCell ⟨gb130, 0, none⟩ (.int .i64 a0_0)).setCell ⟨gb130, 1, none⟩ (.int .i64 a0_1)).setCell ⟨gb131, 0, none⟩ (.int .i64 a1_0)).setCell ⟨gb131, 1, none⟩ (.int .i64 a1_1)).setCell ⟨gb132, 0, none⟩ (.int .i64 a2_0)).setCell ⟨gb132, 1, none⟩ (.int .i64 a2_1)).heap[gb123]? = some (.cells #[.int .i64 a2_0, .int .i64 a2_1] 31 (0, 0))) := ⟨by (with_reducible repeat first | apply bN | apply bD | apply bA); refine blk_far ?_ NB123_132.out _; (with_reducible repeat first | apply bN | apply bD | apply bA); refine blk_far ?_ NB123_132.out _; (with_reducible repeat first | apply bN | apply bD | apply bA); refine blk_far ?_ NB123_131.out _; (with_reducible repeat first | apply bN | apply bD | apply bA); refine blk_far ?_ NB123_131.out _; (with_reducible repeat first | apply bN | apply bD | apply bA); refine blk_far ?_ NB123_130.out _; (with_reducible repeat first | apply bN | apply bD | apply bA); refine blk_far ?_ NB123_130.out _; (with_reducible repeat first | apply bN | apply bD | apply bA); exact BK123.out⟩
              have n3_ : Aside0 (((((((w30.setCell ⟨gb130, 0, none⟩ (.int .i64 a0_0)).setCell ⟨gb130, 1, none⟩ (.int .i64 a0_1)).setCell ⟨gb131, 0, none⟩ (.int .i64 a1_0)).setCell ⟨gb131, 1, none⟩ (.int .i64 a1_1)).setCell ⟨gb132, 0, none⟩ (.int .i64 a2_0)).setCell ⟨gb132, 1, none⟩ (.int .i64 a2_1)).heap[gb130]? = some (.cells #[.int .i64 a0_0, .int .i64 a0_1] 33 (0, 0))) := ⟨by (with_reducible repeat first | apply bN | apply bD | apply bA); refine blk_far ?_ NB130_132.out _; (with_reducible repeat first | apply bN | apply bD | apply bA); refine blk_far ?_ NB130_132.out _; (with_reducible repeat first | apply bN | apply bD | apply bA); refine blk_far ?_ NB130_131.out _; (with_reducible repeat first | apply bN | apply bD | apply bA); refine blk_far ?_ NB130_131.out _; (with_reducible repeat first | apply bN | apply bD | apply bA); refine blk_put (cs := #[.int .i64 a0_0, .int .i64 0]) ?_ 1 _ rfl; (with_reducible repeat first | apply bN | apply bD | apply bA); refine blk_put (cs := #[.int .i64 0, .int .i64 0]) ?_ 0 _ rfl; (with_reducible repeat first | apply bN | apply bD | apply bA); exact BK130.out⟩
              have n4_ : Aside0 (((((((w30.setCell ⟨gb130, 0, none⟩ (.int .i64 a0_0)).setCell ⟨gb130, 1, none⟩ (.int .i64 a0_1)).setCell ⟨gb131, 0, none⟩ (.int .i64 a1_0)).setCell ⟨gb131, 1, none⟩ (.int .i64 a1_1)).setCell ⟨gb132, 0, none⟩ (.int .i64 a2_0)).setCell ⟨gb132, 1, none⟩ (.int .i64 a2_1)).heap[gb131]? = some (.cells #[.int .i64 a1_0, .int .i64 a1_1] 33 (0, 0))) := ⟨by (with_reducible repeat first | apply bN | apply bD | apply bA); refine blk_far ?_ NB131_132.out _; (with_reducible repeat first | apply bN | apply bD | apply bA); refine blk_far ?_ NB131_132.out _; (with_reducible repeat first | apply bN | apply bD | apply bA); refine blk_put (cs := #[.int .i64 a1_0, .int .i64 0]) ?_ 1 _ rfl; (with_reducible repeat first | apply bN | apply bD | apply bA); refine blk_put (cs := #[.int .i64 0, .int .i64 0]) ?_ 0 _ rfl; (with_reducible repeat first | apply bN | apply bD | apply bA); refine blk_far ?_ NB131_130.out _; (with_reducible repeat first | apply bN | apply bD | apply bA); refine blk_far ?_ NB131_130.out _; (with_reducible repeat first | apply bN | apply bD | apply bA); exact BK131.out⟩
              have n5_ : Aside0 (((((((w30.setCell ⟨gb130, 0, none⟩ (.int .i64 a0_0)).setCell ⟨gb130, 1, none⟩ (.int .i64 a0_1)).setCell ⟨gb131, 0, none⟩ (.int .i64 a1_0)).setCell ⟨gb131, 1, none⟩ (.int .i64 a1_1)).setCell ⟨gb132, 0, none⟩ (.int .i64 a2_0)).setCell ⟨gb132, 1, none⟩ (.int .i64 a2_1)).heap[gb132]? = some (.cells #[.int .i64 a2_0, .int .i64 a2_1] 33 (0, 0))) := ⟨by (with_reducible repeat first | apply bN | apply bD | apply bA); refine blk_put (cs := #[.int .i64 a2_0, .int .i64 0]) ?_ 1 _ rfl; (with_reducible repeat first | apply bN | apply bD | apply bA); refine blk_put (cs := #[.int .i64 0, .int .i64 0]) ?_ 0 _ rfl; (with_reducible repeat first | apply bN | apply bD | apply bA); refine blk_far ?_ NB132_131.out _; (with_reducible repeat first | apply bN | apply bD | apply bA); refine blk_far ?_ NB132_131.out _; (with_reducible repeat first | apply bN | apply bD | apply bA); refine blk_far ?_ NB132_130.out _; (with_reducible repeat first | apply bN | apply bD | apply bA); refine blk_far ?_ NB132_130.out _; (with_reducible repeat first | apply bN | apply bD | apply bA); exact BK132.out⟩
              have n6_ : Aside0 (Below w.heap.size w ((((((w30.setCell ⟨gb130, 0, none⟩ (.int .i64 a0_0)).setCell ⟨gb130, 1, none⟩ (.int .i64 a0_1)).setCell ⟨gb131, 0, none⟩ (.int .i64 a1_0)).setCell ⟨gb131, 1, none⟩ (.int .i64 a1_1)).setCell ⟨gb132, 0, none⟩ (.int .i64 a2_0)).setCell ⟨gb132, 1, none⟩ (.int .i64 a2_1))) := ⟨by repeat (first | (with_reducible first | exact HB.out | apply eA | apply eN | apply eD | refine bS ?_ GE121.out | refine bS ?_ GE122.out | refine bS ?_ GE123.out | refine bS ?_ GE130.out | refine bS ?_ GE131.out | refine bS ?_ GE132.out) | exact HB.out)⟩
              (try clear BK121)
              (try clear BK122)
              (try clear BK123)
              (try clear BK130)
              (try clear BK131)
              (try clear BK132)
              (try clear HB)
              generalize ((((((w30.setCell ⟨gb130, 0, none⟩ (.int .i64 a0_0)).setCell ⟨gb130, 1, none⟩ (.int .i64 a0_1)).setCell ⟨gb131, 0, none⟩ (.int .i64 a1_0)).setCell ⟨gb131, 1, none⟩ (.int .i64 a1_1)).setCell ⟨gb132, 0, none⟩ (.int .i64 a2_0)).setCell ⟨gb132, 1, none⟩ (.int .i64 a2_1)) = w61 at n0_ n1_ n2_ n3_ n4_ n5_ n6_ ⊢
              have BK121 := n0_
              have BK122 := n1_
              have BK123 := n2_
              have BK130 := n3_
              have BK131 := n4_
              have BK132 := n5_
              have HB := n6_
              clear n0_ n1_ n2_ n3_ n4_ n5_ n6_
              have n0_ := Aside0.mk (blk_drew BK121.out)
              have n1_ := Aside0.mk (blk_drew BK122.out)
              have n2_ := Aside0.mk (blk_drew BK123.out)
              have n3_ := Aside0.mk (blk_drew BK130.out)
              have n4_ := Aside0.mk (blk_drew BK131.out)
              have n5_ := Aside0.mk (blk_drew BK132.out)
              have n6_ := Aside0.mk (below_drew1 HB.out)
              clear BK121
              clear BK122
              clear BK123
              clear BK130
              clear BK131
              clear BK132
              clear HB
              have BK121 := n0_
              have BK122 := n1_
              have BK123 := n2_
              have BK130 := n3_
              have BK131 := n4_
              have BK132 := n5_
              have HB := n6_
              clear n0_ n1_ n2_ n3_ n4_ n5_ n6_
              refine start_ (n := 28) (S := fun w' => w'.cell? ⟨gb130, 0, none⟩ = some (.int .i64 a0_0) ∧ w'.cell? ⟨gb130, 1, none⟩ = some (.int .i64 a0_1) ∧ w'.cell? ⟨gb131, 0, none⟩ = some (.int .i64 a1_0) ∧ w'.cell? ⟨gb131, 1, none⟩ = some (.int .i64 a1_1)) (ds := []) #[ff, ff, ff, ff, ff, ff, ff, ff, ff, ff, ff, ff, ff, ff, ff, ff, ff, ff, ff, ff, ff, ff, ff, ff, ff, ff, ff, ff] (by kernel_rfl) rfl rfl ⟨(blk_cell BK130.out 0).trans rfl, (blk_cell BK130.out 1).trans rfl, (blk_cell BK131.out 0).trans rfl, (blk_cell BK131.out 1).trans rfl⟩ (fun hHeld => ?_); refine with_tabW sA.tab4 sA.bits4 (fun HT_ HW_ => ?_)
              generalize w61.drew = w62 at BK121 BK122 BK123 BK130 BK131 BK132 HB hHeld ⊢
              refine take_ (i := 0) (N := some 32) (v := ?_) (a' := ?_) #[tt, ff, ff, ff, ff, ff, ff, ff, ff, ff, ff, ff, ff, ff, ff, ff, ff, ff, ff, ff, ff, ff, ff, ff, ff, ff, ff, ff] rfl rfl (take_ofW HT_.out HW_.out (by kernel_rfl)) (fun _ _ _ h => h) (Or.inl ⟨by rfl, ?_⟩) hHeld ?_ ?_
              rotate_left
              · rintro w' ⟨s0, s1, s2, s3⟩
                go_simp
                with_reducible rfl
              rotate_left
              · simp only [Act.put, lA, sZ, sC, i64_w, i32_w]
                rfl
              refine take_ (i := 1) (N := some 33) (v := ?_) (a' := ?_) #[tt, tt, ff, ff, ff, ff, ff, ff, ff, ff, ff, ff, ff, ff, ff, ff, ff, ff, ff, ff, ff, ff, ff, ff, ff, ff, ff, ff] rfl rfl (take_ofW HT_.out HW_.out (by kernel_rfl)) (fun _ _ _ h => h) (Or.inl ⟨by rfl, ?_⟩) hHeld ?_ ?_
              rotate_left
              · rintro w' ⟨s0, s1, s2, s3⟩
                go_simp
                with_reducible rfl
              rotate_left
              · simp only [Act.put, lA, sZ, sC, i64_w, i32_w]
                rfl
              refine take_ (i := 3) (N := some 35) (v := ?_) (a' := ?_) #[tt, tt, ff, tt, ff, ff, ff, ff, ff, ff, ff, ff, ff, ff, ff, ff, ff, ff, ff, ff, ff, ff, ff, ff, ff, ff, ff, ff] rfl rfl (take_ofW HT_.out HW_.out (by kernel_rfl)) (fun _ _ _ h => h) (Or.inl ⟨by rfl, ?_⟩) hHeld ?_ ?_
              rotate_left
              · rintro w' ⟨s0, s1, s2, s3⟩
                go_simp
                with_reducible rfl
              rotate_left
              · simp only [Act.put, lA, sZ, sC, i64_w, i32_w]
                rfl
              refine take_ (i := 4) (N := some 36) (v := ?_) (a' := ?_) #[tt, tt, ff, tt, tt, ff, ff, ff, ff, ff, ff, ff, ff, ff, ff, ff, ff, ff, ff, ff, ff, ff, ff, ff, ff, ff, ff, ff] rfl rfl (take_ofW HT_.out HW_.out (by kernel_rfl)) (fun _ _ _ h => h) (Or.inl ⟨by rfl, ?_⟩) hHeld ?_ ?_
              rotate_left
              · rintro w' ⟨s0, s1, s2, s3⟩
                go_simp
                with_reducible rfl
              rotate_left
              · simp only [Act.put, lA, sZ, sC, i64_w, i32_w]
                rfl
              refine one_ (i := 2) (N := some 34) #[tt, tt, tt, tt, tt, ff, ff, ff, ff, ff, ff, ff, ff, ff, ff, ff, ff, ff, ff, ff, ff, ff, ff, ff, ff, ff, ff, ff] rfl rfl (one_of HT_.out (by kernel_rfl)) (by decide) (fun K hK => ?_)
              refine goes_ Try.func15 (by kernel_rfl) rfl #[.agg #[.int .i64 a0_0, .int .i64 a0_1], .agg #[.int .i64 a1_0, .int .i64 a1_1]] (by rfl) rfl rfl (by (try simp only [List.map_toArray, List.map_cons, List.map_nil]); first | done | rfl | (simp only [List.length_drop, List.length_take]; rfl)) ?_
              with_reducible refine (span_Span_And.calls a0_0 a0_1 a1_0 a1_1 t133 t134 _ A37.out).mono ?_
              rintro e w63 ⟨rfl, hb⟩
              refine ⟨_, rfl, ?_⟩
              have n0_ := Aside0.mk (blk_below (by (with_reducible repeat first | apply bN | apply bD | apply bA); exact BK121.out) hb)
              have n1_ := Aside0.mk (blk_below (by (with_reducible repeat first | apply bN | apply bD | apply bA); exact BK122.out) hb)
              have n2_ := Aside0.mk (blk_below (by (with_reducible repeat first | apply bN | apply bD | apply bA); exact BK123.out) hb)
              have n3_ := Aside0.mk (blk_below (by (with_reducible repeat first | apply bN | apply bD | apply bA); exact BK130.out) hb)
              have n4_ := Aside0.mk (blk_below (by (with_reducible repeat first | apply bN | apply bD | apply bA); exact BK131.out) hb)
              have n5_ := Aside0.mk (blk_below (by (with_reducible repeat first | apply bN | apply bD | apply bA); exact BK132.out) hb)
              have n6_ := Aside0.mk (below_step (by repeat (first | (with_reducible first | exact HB.out | apply eA | apply eN | apply eD | refine bS ?_ GE121.out | refine bS ?_ GE122.out | refine bS ?_ GE123.out | refine bS ?_ GE130.out | refine bS ?_ GE131.out | refine bS ?_ GE132.out) | exact HB.out)) hb)
              clear BK121
              clear BK122
              clear BK123
              clear BK130
              clear BK131
              clear BK132
              clear HB
              have BK121 := n0_
              have BK122 := n1_
              have BK123 := n2_
              have BK130 := n3_
              have BK131 := n4_
              have BK132 := n5_
              have HB := n6_
              clear n0_ n1_ n2_ n3_ n4_ n5_ n6_
              (try clear hb)
              (try clear hb2)
              (try clear hk)
              (try clear hi)
              refine hK.out _ _ ⟨(blk_cell BK130.out 0).trans rfl, (blk_cell BK130.out 1).trans rfl, (blk_cell BK131.out 0).trans rfl, (blk_cell BK131.out 1).trans rfl⟩ (fun hHeld => ?_)
              clear hK K
              refine norm_ (a' := ?_) ?_ ?_
              rotate_left
              · show Act.put _ (some 34) _ = _
                simp only [Act.put, lA, sZ, sC, i64_w, i32_w]
                rfl
              refine one_ (i := 5) (N := some 37) #[tt, tt, tt, tt, tt, tt, ff, ff, ff, ff, ff, ff, ff, ff, ff, ff, ff, ff, ff, ff, ff, ff, ff, ff, ff, ff, ff, ff] rfl rfl (one_of HT_.out (by kernel_rfl)) (by decide) (fun K hK => ?_)
              refine goes_ Try.func15 (by kernel_rfl) rfl #[.agg #[.int .i64 a1_0, .int .i64 a1_1], .agg #[.int .i64 a0_0, .int .i64 a0_1]] (by rfl) rfl rfl (by (try simp only [List.map_toArray, List.map_cons, List.map_nil]); first | done | rfl | (simp only [List.length_drop, List.length_take]; rfl)) ?_
              with_reducible refine (span_Span_And.calls a1_0 a1_1 a0_0 a0_1 t135 t136 _ A38.out).mono ?_
              rintro e w64 ⟨rfl, hb⟩
              refine ⟨_, rfl, ?_⟩
              have n0_ := Aside0.mk (blk_below (by (with_reducible repeat first | apply bN | apply bD | apply bA); exact BK121.out) hb)
              have n1_ := Aside0.mk (blk_below (by (with_reducible repeat first | apply bN | apply bD | apply bA); exact BK122.out) hb)
              have n2_ := Aside0.mk (blk_below (by (with_reducible repeat first | apply bN | apply bD | apply bA); exact BK123.out) hb)
              have n3_ := Aside0.mk (blk_below (by (with_reducible repeat first | apply bN | apply bD | apply bA); exact BK130.out) hb)
              have n4_ := Aside0.mk (blk_below (by (with_reducible repeat first | apply bN | apply bD | apply bA); exact BK131.out) hb)
              have n5_ := Aside0.mk (blk_below (by (with_reducible repeat first | apply bN | apply bD | apply bA); exact BK132.out) hb)
              have n6_ := Aside0.mk (below_step (by repeat (first | (with_reducible first | exact HB.out | apply eA | apply eN | apply eD | refine bS ?_ GE121.out | refine bS ?_ GE122.out | refine bS ?_ GE123.out | refine bS ?_ GE130.out | refine bS ?_ GE131.out | refine bS ?_ GE132.out) | exact HB.out)) hb)
              clear BK121
              clear BK122
              clear BK123
              clear BK130
              clear BK131
              clear BK132
              clear HB
              have BK121 := n0_
              have BK122 := n1_
              have BK123 := n2_
              have BK130 := n3_
              have BK131 := n4_
              have BK132 := n5_
              have HB := n6_
              clear n0_ n1_ n2_ n3_ n4_ n5_ n6_
              (try clear hb)
              (try clear hb2)
              (try clear hk)
              (try clear hi)
              refine hK.out _ _ ⟨(blk_cell BK130.out 0).trans rfl, (blk_cell BK130.out 1).trans rfl, (blk_cell BK131.out 0).trans rfl, (blk_cell BK131.out 1).trans rfl⟩ (fun hHeld => ?_)
              clear hK K
              refine norm_ (a' := ?_) ?_ ?_
              rotate_left
              · show Act.put _ (some 37) _ = _
                simp only [Act.put, lA, sZ, sC, i64_w, i32_w]
                rfl
              refine pure_ (i := 6) (N := some 38) (v := ?_) (a' := ?_) #[tt, tt, tt, tt, tt, tt, tt, ff, ff, ff, ff, ff, ff, ff, ff, ff, ff, ff, ff, ff, ff, ff, ff, ff, ff, ff, ff, ff] rfl rfl (any_of HT_.out (by kernel_rfl)) (fun _ _ _ h => h) (Or.inl ⟨by rfl, ?_⟩) ?_ ?_
              rotate_left
              · intro w'
                go_simp
                with_reducible rfl
              rotate_left
              · simp only [Act.put, lA, sZ, sC, i64_w, i32_w]
                rfl
              refine pure_ (i := 7) (N := some 39) (v := ?_) (a' := ?_) #[tt, tt, tt, tt, tt, tt, tt, tt, ff, ff, ff, ff, ff, ff, ff, ff, ff, ff, ff, ff, ff, ff, ff, ff, ff, ff, ff, ff] rfl rfl (any_of HT_.out (by kernel_rfl)) (fun _ _ _ h => h) (Or.inl ⟨by rfl, ?_⟩) ?_ ?_
              rotate_left
              · intro w'
                go_simp
                with_reducible rfl
              rotate_left
              · simp only [Act.put, lA, sZ, sC, i64_w, i32_w]
                rfl
              refine take_ (i := 8) (N := some 40) (v := ?_) (a' := ?_) #[tt, tt, tt, tt, tt, tt, tt, tt, tt, ff, ff, ff, ff, ff, ff, ff, ff, ff, ff, ff, ff, ff, ff, ff, ff, ff, ff, ff] rfl rfl (take_ofW HT_.out HW_.out (by kernel_rfl)) (fun _ _ _ h => h) (Or.inl ⟨by rfl, ?_⟩) hHeld ?_ ?_
              rotate_left
              · rintro w' ⟨s0, s1, s2, s3⟩
                go_simp
                with_reducible rfl
              rotate_left
              · simp only [Act.put, lA, sZ, sC, i64_w, i32_w]
                rfl
              refine take_ (i := 9) (N := some 41) (v := ?_) (a' := ?_) #[tt, tt, tt, tt, tt, tt, tt, tt, tt, tt, ff, ff, ff, ff, ff, ff, ff, ff, ff, ff, ff, ff, ff, ff, ff, ff, ff, ff] rfl rfl (take_ofW HT_.out HW_.out (by kernel_rfl)) (fun _ _ _ h => h) (Or.inl ⟨by rfl, ?_⟩) hHeld ?_ ?_
              rotate_left
              · rintro w' ⟨s0, s1, s2, s3⟩
                go_simp
                with_reducible rfl
              rotate_left
              · simp only [Act.put, lA, sZ, sC, i64_w, i32_w]
                rfl
              refine take_ (i := 12) (N := some 44) (v := ?_) (a' := ?_) #[tt, tt, tt, tt, tt, tt, tt, tt, tt, tt, ff, ff, tt, ff, ff, ff, ff, ff, ff, ff, ff, ff, ff, ff, ff, ff, ff, ff] rfl rfl (take_ofW HT_.out HW_.out (by kernel_rfl)) (fun _ _ _ h => h) (Or.inl ⟨by rfl, ?_⟩) hHeld ?_ ?_
              rotate_left
              · rintro w' ⟨s0, s1, s2, s3⟩
                go_simp
                with_reducible rfl
              rotate_left
              · simp only [Act.put, lA, sZ, sC, i64_w, i32_w]
                rfl
              refine take_ (i := 14) (N := some 46) (v := ?_) (a' := ?_) #[tt, tt, tt, tt, tt, tt, tt, tt, tt, tt, ff, ff, tt, ff, tt, ff, ff, ff, ff, ff, ff, ff, ff, ff, ff, ff, ff, ff] rfl rfl (take_ofW HT_.out HW_.out (by kernel_rfl)) (fun _ _ _ h => h) (Or.inl ⟨by rfl, ?_⟩) hHeld ?_ ?_
              rotate_left
              · rintro w' ⟨s0, s1, s2, s3⟩
                go_simp
                with_reducible rfl
              rotate_left
              · simp only [Act.put, lA, sZ, sC, i64_w, i32_w]
                rfl
              refine one_ (i := 10) (N := some 42) #[tt, tt, tt, tt, tt, tt, tt, tt, tt, tt, tt, ff, tt, ff, tt, ff, ff, ff, ff, ff, ff, ff, ff, ff, ff, ff, ff, ff] rfl rfl (one_of HT_.out (by kernel_rfl)) (by decide) (fun K hK => ?_)
              refine goes_ Try.func15 (by kernel_rfl) rfl #[.agg #[.int .i64 a0_0, .int .i64 a0_1], .agg #[.int .i64 a1_0, .int .i64 a1_1]] (by rfl) rfl rfl (by (try simp only [List.map_toArray, List.map_cons, List.map_nil]); first | done | rfl | (simp only [List.length_drop, List.length_take]; rfl)) ?_
              with_reducible refine (span_Span_And.calls a0_0 a0_1 a1_0 a1_1 t137 t138 _ A44.out).mono ?_
              rintro e w65 ⟨rfl, hb⟩
              refine ⟨_, rfl, ?_⟩
              have n0_ := Aside0.mk (blk_below (by (with_reducible repeat first | apply bN | apply bD | apply bA); exact BK121.out) hb)
              have n1_ := Aside0.mk (blk_below (by (with_reducible repeat first | apply bN | apply bD | apply bA); exact BK122.out) hb)
              have n2_ := Aside0.mk (blk_below (by (with_reducible repeat first | apply bN | apply bD | apply bA); exact BK123.out) hb)
              have n3_ := Aside0.mk (blk_below (by (with_reducible repeat first | apply bN | apply bD | apply bA); exact BK130.out) hb)
              have n4_ := Aside0.mk (blk_below (by (with_reducible repeat first | apply bN | apply bD | apply bA); exact BK131.out) hb)
              have n5_ := Aside0.mk (blk_below (by (with_reducible repeat first | apply bN | apply bD | apply bA); exact BK132.out) hb)
              have n6_ := Aside0.mk (below_step (by repeat (first | (with_reducible first | exact HB.out | apply eA | apply eN | apply eD | refine bS ?_ GE121.out | refine bS ?_ GE122.out | refine bS ?_ GE123.out | refine bS ?_ GE130.out | refine bS ?_ GE131.out | refine bS ?_ GE132.out) | exact HB.out)) hb)
              clear BK121
              clear BK122
              clear BK123
              clear BK130
              clear BK131
              clear BK132
              clear HB
              have BK121 := n0_
              have BK122 := n1_
              have BK123 := n2_
              have BK130 := n3_
              have BK131 := n4_
              have BK132 := n5_
              have HB := n6_
              clear n0_ n1_ n2_ n3_ n4_ n5_ n6_
              (try clear hb)
              (try clear hb2)
              (try clear hk)
              (try clear hi)
              refine hK.out _ _ ⟨(blk_cell BK130.out 0).trans rfl, (blk_cell BK130.out 1).trans rfl, (blk_cell BK131.out 0).trans rfl, (blk_cell BK131.out 1).trans rfl⟩ (fun hHeld => ?_)
              clear hK K
              refine norm_ (a' := ?_) ?_ ?_
              rotate_left
              · show Act.put _ (some 42) _ = _
                simp only [Act.put, lA, sZ, sC, i64_w, i32_w]
                rfl
              refine one_ (i := 11) (N := some 43) #[tt, tt, tt, tt, tt, tt, tt, tt, tt, tt, tt, tt, tt, ff, tt, ff, ff, ff, ff, ff, ff, ff, ff, ff, ff, ff, ff, ff] rfl rfl (one_of HT_.out (by kernel_rfl)) (by decide) (fun K hK => ?_)
              refine goes_ Try.func16 (by kernel_rfl) rfl #[.agg #[.int .i64 t137, .int .i64 t138]] (by rfl) rfl rfl (by (try simp only [List.map_toArray, List.map_cons, List.map_nil]); first | done | rfl | (simp only [List.length_drop, List.length_take]; rfl)) ?_
              with_reducible refine (span_Span_Len.calls t137 t138 t139 _ A45.out).mono ?_
              rintro e w66 ⟨rfl, hb⟩
              refine ⟨_, rfl, ?_⟩
              have n0_ := Aside0.mk (blk_below (by (with_reducible repeat first | apply bN | apply bD | apply bA); exact BK121.out) hb)
              have n1_ := Aside0.mk (blk_below (by (with_reducible repeat first | apply bN | apply bD | apply bA); exact BK122.out) hb)
              have n2_ := Aside0.mk (blk_below (by (with_reducible repeat first | apply bN | apply bD | apply bA); exact BK123.out) hb)
              have n3_ := Aside0.mk (blk_below (by (with_reducible repeat first | apply bN | apply bD | apply bA); exact BK130.out) hb)
              have n4_ := Aside0.mk (blk_below (by (with_reducible repeat first | apply bN | apply bD | apply bA); exact BK131.out) hb)
              have n5_ := Aside0.mk (blk_below (by (with_reducible repeat first | apply bN | apply bD | apply bA); exact BK132.out) hb)
              have n6_ := Aside0.mk (below_step (by repeat (first | (with_reducible first | exact HB.out | apply eA | apply eN | apply eD | refine bS ?_ GE121.out | refine bS ?_ GE122.out | refine bS ?_ GE123.out | refine bS ?_ GE130.out | refine bS ?_ GE131.out | refine bS ?_ GE132.out) | exact HB.out)) hb)
              clear BK121
              clear BK122
              clear BK123
              clear BK130
              clear BK131
              clear BK132
              clear HB
              have BK121 := n0_
              have BK122 := n1_
              have BK123 := n2_
              have BK130 := n3_
              have BK131 := n4_
              have BK132 := n5_
              have HB := n6_
              clear n0_ n1_ n2_ n3_ n4_ n5_ n6_
              (try clear hb)
              (try clear hb2)
              (try clear hk)
              (try clear hi)
              refine hK.out _ _ ⟨(blk_cell BK130.out 0).trans rfl, (blk_cell BK130.out 1).trans rfl, (blk_cell BK131.out 0).trans rfl, (blk_cell BK131.out 1).trans rfl⟩ (fun hHeld => ?_)
              clear hK K
              refine norm_ (a' := ?_) ?_ ?_
              rotate_left
              · show Act.put _ (some 43) _ = _
                simp only [Act.put, lA, sZ, sC, i64_w, i32_w]
                rfl
              refine one_ (i := 13) (N := some 45) #[tt, tt, tt, tt, tt, tt, tt, tt, tt, tt, tt, tt, tt, tt, tt, ff, ff, ff, ff, ff, ff, ff, ff, ff, ff, ff, ff, ff] rfl rfl (one_of HT_.out (by kernel_rfl)) (by decide) (fun K hK => ?_)
              refine goes_ Try.func16 (by kernel_rfl) rfl #[.agg #[.int .i64 a0_0, .int .i64 a0_1]] (by rfl) rfl rfl (by (try simp only [List.map_toArray, List.map_cons, List.map_nil]); first | done | rfl | (simp only [List.length_drop, List.length_take]; rfl)) ?_
              with_reducible refine (span_Span_Len.calls a0_0 a0_1 t140 _ A46.out).mono ?_
              rintro e w67 ⟨rfl, hb⟩
              refine ⟨_, rfl, ?_⟩
              have n0_ := Aside0.mk (blk_below (by (with_reducible repeat first | apply bN | apply bD | apply bA); exact BK121.out) hb)
              have n1_ := Aside0.mk (blk_below (by (with_reducible repeat first | apply bN | apply bD | apply bA); exact BK122.out) hb)
              have n2_ := Aside0.mk (blk_below (by (with_reducible repeat first | apply bN | apply bD | apply bA); exact BK123.out) hb)
              have n3_ := Aside0.mk (blk_below (by (with_reducible repeat first | apply bN | apply bD | apply bA); exact BK130.out) hb)
              have n4_ := Aside0.mk (blk_below (by (with_reducible repeat first | apply bN | apply bD | apply bA); exact BK131.out) hb)
              have n5_ := Aside0.mk (blk_below (by (with_reducible repeat first | apply bN | apply bD | apply bA); exact BK132.out) hb)
              have n6_ := Aside0.mk (below_step (by repeat (first | (with_reducible first | exact HB.out | apply eA | apply eN | apply eD | refine bS ?_ GE121.out | refine bS ?_ GE122.out | refine bS ?_ GE123.out | refine bS ?_ GE130.out | refine bS ?_ GE131.out | refine bS ?_ GE132.out) | exact HB.out)) hb)
              clear BK121
              clear BK122
              clear BK123
              clear BK130
              clear BK131
              clear BK132
              clear HB
              have BK121 := n0_
              have BK122 := n1_
              have BK123 := n2_
              have BK130 := n3_
              have BK131 := n4_
              have BK132 := n5_
              have HB := n6_
              clear n0_ n1_ n2_ n3_ n4_ n5_ n6_
              (try clear hb)
              (try clear hb2)
              (try clear hk)
              (try clear hi)
              refine hK.out _ _ ⟨(blk_cell BK130.out 0).trans rfl, (blk_cell BK130.out 1).trans rfl, (blk_cell BK131.out 0).trans rfl, (blk_cell BK131.out 1).trans rfl⟩ (fun hHeld => ?_)
              clear hK K
              refine norm_ (a' := ?_) ?_ ?_
              rotate_left
              · show Act.put _ (some 45) _ = _
                simp only [Act.put, lA, sZ, sC, i64_w, i32_w]
                rfl
              refine one_ (i := 15) (N := some 47) #[tt, tt, tt, tt, tt, tt, tt, tt, tt, tt, tt, tt, tt, tt, tt, tt, ff, ff, ff, ff, ff, ff, ff, ff, ff, ff, ff, ff] rfl rfl (one_of HT_.out (by kernel_rfl)) (by decide) (fun K hK => ?_)
              refine goes_ Try.func16 (by kernel_rfl) rfl #[.agg #[.int .i64 a1_0, .int .i64 a1_1]] (by rfl) rfl rfl (by (try simp only [List.map_toArray, List.map_cons, List.map_nil]); first | done | rfl | (simp only [List.length_drop, List.length_take]; rfl)) ?_
              with_reducible refine (span_Span_Len.calls a1_0 a1_1 t141 _ A47.out).mono ?_
              rintro e w68 ⟨rfl, hb⟩
              refine ⟨_, rfl, ?_⟩
              have n0_ := Aside0.mk (blk_below (by (with_reducible repeat first | apply bN | apply bD | apply bA); exact BK121.out) hb)
              have n1_ := Aside0.mk (blk_below (by (with_reducible repeat first | apply bN | apply bD | apply bA); exact BK122.out) hb)
              have n2_ := Aside0.mk (blk_below (by (with_reducible repeat first | apply bN | apply bD | apply bA); exact BK123.out) hb)
              have n3_ := Aside0.mk (blk_below (by (with_reducible repeat first | apply bN | apply bD | apply bA); exact BK130.out) hb)
              have n4_ := Aside0.mk (blk_below (by (with_reducible repeat first | apply bN | apply bD | apply bA); exact BK131.out) hb)
              have n5_ := Aside0.mk (blk_below (by (with_reducible repeat first | apply bN | apply bD | apply bA); exact BK132.out) hb)
              have n6_ := Aside0.mk (below_step (by repeat (first | (with_reducible first | exact HB.out | apply eA | apply eN | apply eD | refine bS ?_ GE121.out | refine bS ?_ GE122.out | refine bS ?_ GE123.out | refine bS ?_ GE130.out | refine bS ?_ GE131.out | refine bS ?_ GE132.out) | exact HB.out)) hb)
              clear BK121
              clear BK122
              clear BK123
              clear BK130
              clear BK131
              clear BK132
              clear HB
              have BK121 := n0_
              have BK122 := n1_
              have BK123 := n2_
              have BK130 := n3_
              have BK131 := n4_
              have BK132 := n5_
              have HB := n6_
              clear n0_ n1_ n2_ n3_ n4_ n5_ n6_
              (try clear hb)
              (try clear hb2)
              (try clear hk)
              (try clear hi)
              refine hK.out _ _ ⟨(blk_cell BK130.out 0).trans rfl, (blk_cell BK130.out 1).trans rfl, (blk_cell BK131.out 0).trans rfl, (blk_cell BK131.out 1).trans rfl⟩ (fun hHeld => ?_)
              clear hK K
              refine norm_ (a' := ?_) ?_ ?_
              rotate_left
              · show Act.put _ (some 47) _ = _
                simp only [Act.put, lA, sZ, sC, i64_w, i32_w]
                rfl
              refine pure_ (i := 16) (N := some 48) (v := ?_) (a' := ?_) #[tt, tt, tt, tt, tt, tt, tt, tt, tt, tt, tt, tt, tt, tt, tt, tt, tt, ff, ff, ff, ff, ff, ff, ff, ff, ff, ff, ff] rfl rfl (any_of HT_.out (by kernel_rfl)) (fun _ _ _ h => h) (Or.inl ⟨by rfl, ?_⟩) ?_ ?_
              rotate_left
              · intro w'
                go_simp
                with_reducible rfl
              rotate_left
              · simp only [Act.put, lA, sZ, sC, i64_w, i32_w]
                rfl
              refine pure_ (i := 17) (N := some 49) (v := ?_) (a' := ?_) #[tt, tt, tt, tt, tt, tt, tt, tt, tt, tt, tt, tt, tt, tt, tt, tt, tt, tt, ff, ff, ff, ff, ff, ff, ff, ff, ff, ff] rfl rfl (any_of HT_.out (by kernel_rfl)) (fun _ _ _ h => h) (Or.inl ⟨by rfl, ?_⟩) ?_ ?_
              rotate_left
              · intro w'
                go_simp
                with_reducible rfl
              rotate_left
              · simp only [Act.put, lA, sZ, sC, i64_w, i32_w]
                rfl
              refine pure_ (i := 18) (N := some 50) (v := ?_) (a' := ?_) #[tt, tt, tt, tt, tt, tt, tt, tt, tt, tt, tt, tt, tt, tt, tt, tt, tt, tt, tt, ff, ff, ff, ff, ff, ff, ff, ff, ff] rfl rfl (any_of HT_.out (by kernel_rfl)) (fun _ _ _ h => h) (Or.inl ⟨by rfl, ?_⟩) ?_ ?_
              rotate_left
              · intro w'
                go_simp
                with_reducible rfl
              rotate_left
              · simp only [Act.put, lA, sZ, sC, i64_w, i32_w]
                rfl
              refine pure_ (i := 19) (N := some 51) (v := ?_) (a' := ?_) #[tt, tt, tt, tt, tt, tt, tt, tt, tt, tt, tt, tt, tt, tt, tt, tt, tt, tt, tt, tt, ff, ff, ff, ff, ff, ff, ff, ff] rfl rfl (any_of HT_.out (by kernel_rfl)) (fun _ _ _ h => h) (Or.inl ⟨by rfl, ?_⟩) ?_ ?_
              rotate_left
              · intro w'
                go_simp
                with_reducible rfl
              rotate_left
              · simp only [Act.put, lA, sZ, sC, i64_w, i32_w]
                rfl
              refine take_ (i := 20) (N := some 52) (v := ?_) (a' := ?_) #[tt, tt, tt, tt, tt, tt, tt, tt, tt, tt, tt, tt, tt, tt, tt, tt, tt, tt, tt, tt, tt, ff, ff, ff, ff, ff, ff, ff] rfl rfl (take_ofW HT_.out HW_.out (by kernel_rfl)) (fun _ _ _ h => h) (Or.inl ⟨by rfl, ?_⟩) hHeld ?_ ?_
              rotate_left
              · rintro w' ⟨s0, s1, s2, s3⟩
                go_simp
                with_reducible rfl
              rotate_left
              · simp only [Act.put, lA, sZ, sC, i64_w, i32_w]
                rfl
              refine take_ (i := 21) (N := some 53) (v := ?_) (a' := ?_) #[tt, tt, tt, tt, tt, tt, tt, tt, tt, tt, tt, tt, tt, tt, tt, tt, tt, tt, tt, tt, tt, tt, ff, ff, ff, ff, ff, ff] rfl rfl (take_ofW HT_.out HW_.out (by kernel_rfl)) (fun _ _ _ h => h) (Or.inl ⟨by rfl, ?_⟩) hHeld ?_ ?_
              rotate_left
              · rintro w' ⟨s0, s1, s2, s3⟩
                go_simp
                with_reducible rfl
              rotate_left
              · simp only [Act.put, lA, sZ, sC, i64_w, i32_w]
                rfl
              refine take_ (i := 24) (N := some 56) (v := ?_) (a' := ?_) #[tt, tt, tt, tt, tt, tt, tt, tt, tt, tt, tt, tt, tt, tt, tt, tt, tt, tt, tt, tt, tt, tt, ff, ff, tt, ff, ff, ff] rfl rfl (take_ofW HT_.out HW_.out (by kernel_rfl)) (fun _ _ _ h => h) (Or.inl ⟨by rfl, ?_⟩) hHeld ?_ ?_
              rotate_left
              · rintro w' ⟨s0, s1, s2, s3⟩
                go_simp
                with_reducible rfl
              rotate_left
              · simp only [Act.put, lA, sZ, sC, i64_w, i32_w]
                rfl
              refine one_ (i := 22) (N := some 54) #[tt, tt, tt, tt, tt, tt, tt, tt, tt, tt, tt, tt, tt, tt, tt, tt, tt, tt, tt, tt, tt, tt, tt, ff, tt, ff, ff, ff] rfl rfl (one_of HT_.out (by kernel_rfl)) (by decide) (fun K hK => ?_)
              refine goes_ Try.func15 (by kernel_rfl) rfl #[.agg #[.int .i64 a0_0, .int .i64 a0_1], .agg #[.int .i64 a0_0, .int .i64 a0_1]] (by rfl) rfl rfl (by (try simp only [List.map_toArray, List.map_cons, List.map_nil]); first | done | rfl | (simp only [List.length_drop, List.length_take]; rfl)) ?_
              with_reducible refine (span_Span_And.calls a0_0 a0_1 a0_0 a0_1 t142 t143 _ A58.out).mono ?_
              rintro e w69 ⟨rfl, hb⟩
              refine ⟨_, rfl, ?_⟩
              have n0_ := Aside0.mk (blk_below (by (with_reducible repeat first | apply bN | apply bD | apply bA); exact BK121.out) hb)
              have n1_ := Aside0.mk (blk_below (by (with_reducible repeat first | apply bN | apply bD | apply bA); exact BK122.out) hb)
              have n2_ := Aside0.mk (blk_below (by (with_reducible repeat first | apply bN | apply bD | apply bA); exact BK123.out) hb)
              have n3_ := Aside0.mk (blk_below (by (with_reducible repeat first | apply bN | apply bD | apply bA); exact BK130.out) hb)
              have n4_ := Aside0.mk (blk_below (by (with_reducible repeat first | apply bN | apply bD | apply bA); exact BK131.out) hb)
              have n5_ := Aside0.mk (blk_below (by (with_reducible repeat first | apply bN | apply bD | apply bA); exact BK132.out) hb)
              have n6_ := Aside0.mk (below_step (by repeat (first | (with_reducible first | exact HB.out | apply eA | apply eN | apply eD | refine bS ?_ GE121.out | refine bS ?_ GE122.out | refine bS ?_ GE123.out | refine bS ?_ GE130.out | refine bS ?_ GE131.out | refine bS ?_ GE132.out) | exact HB.out)) hb)
              clear BK121
              clear BK122
              clear BK123
              clear BK130
              clear BK131
              clear BK132
              clear HB
              have BK121 := n0_
              have BK122 := n1_
              have BK123 := n2_
              have BK130 := n3_
              have BK131 := n4_
              have BK132 := n5_
              have HB := n6_
              clear n0_ n1_ n2_ n3_ n4_ n5_ n6_
              (try clear hb)
              (try clear hb2)
              (try clear hk)
              (try clear hi)
              refine hK.out _ _ ⟨(blk_cell BK130.out 0).trans rfl, (blk_cell BK130.out 1).trans rfl, (blk_cell BK131.out 0).trans rfl, (blk_cell BK131.out 1).trans rfl⟩ (fun hHeld => ?_)
              clear hK K
              refine norm_ (a' := ?_) ?_ ?_
              rotate_left
              · show Act.put _ (some 54) _ = _
                simp only [Act.put, lA, sZ, sC, i64_w, i32_w]
                rfl
              refine one_ (i := 23) (N := some 55) #[tt, tt, tt, tt, tt, tt, tt, tt, tt, tt, tt, tt, tt, tt, tt, tt, tt, tt, tt, tt, tt, tt, tt, tt, tt, ff, ff, ff] rfl rfl (one_of HT_.out (by kernel_rfl)) (by decide) (fun K hK => ?_)
              refine goes_ Try.func16 (by kernel_rfl) rfl #[.agg #[.int .i64 t142, .int .i64 t143]] (by rfl) rfl rfl (by (try simp only [List.map_toArray, List.map_cons, List.map_nil]); first | done | rfl | (simp only [List.length_drop, List.length_take]; rfl)) ?_
              with_reducible refine (span_Span_Len.calls t142 t143 t144 _ A59.out).mono ?_
              rintro e w70 ⟨rfl, hb⟩
              refine ⟨_, rfl, ?_⟩
              have n0_ := Aside0.mk (blk_below (by (with_reducible repeat first | apply bN | apply bD | apply bA); exact BK121.out) hb)
              have n1_ := Aside0.mk (blk_below (by (with_reducible repeat first | apply bN | apply bD | apply bA); exact BK122.out) hb)
              have n2_ := Aside0.mk (blk_below (by (with_reducible repeat first | apply bN | apply bD | apply bA); exact BK123.out) hb)
              have n3_ := Aside0.mk (blk_below (by (with_reducible repeat first | apply bN | apply bD | apply bA); exact BK130.out) hb)
              have n4_ := Aside0.mk (blk_below (by (with_reducible repeat first | apply bN | apply bD | apply bA); exact BK131.out) hb)
              have n5_ := Aside0.mk (blk_below (by (with_reducible repeat first | apply bN | apply bD | apply bA); exact BK132.out) hb)
              have n6_ := Aside0.mk (below_step (by repeat (first | (with_reducible first | exact HB.out | apply eA | apply eN | apply eD | refine bS ?_ GE121.out | refine bS ?_ GE122.out | refine bS ?_ GE123.out | refine bS ?_ GE130.out | refine bS ?_ GE131.out | refine bS ?_ GE132.out) | exact HB.out)) hb)
              clear BK121
              clear BK122
              clear BK123
              clear BK130
              clear BK131
              clear BK132
              clear HB
              have BK121 := n0_
              have BK122 := n1_
              have BK123 := n2_
              have BK130 := n3_
              have BK131 := n4_
              have BK132 := n5_
              have HB := n6_
              clear n0_ n1_ n2_ n3_ n4_ n5_ n6_
              (try clear hb)
              (try clear hb2)
              (try clear hk)
              (try clear hi)
              refine hK.out _ _ ⟨(blk_cell BK130.out 0).trans rfl, (blk_cell BK130.out 1).trans rfl, (blk_cell BK131.out 0).trans rfl, (blk_cell BK131.out 1).trans rfl⟩ (fun hHeld => ?_)
              clear hK K
              refine norm_ (a' := ?_) ?_ ?_
              rotate_left
              · show Act.put _ (some 55) _ = _
                simp only [Act.put, lA, sZ, sC, i64_w, i32_w]
                rfl
              refine one_ (i := 25) (N := some 57) #[tt, tt, tt, tt, tt, tt, tt, tt, tt, tt, tt, tt, tt, tt, tt, tt, tt, tt, tt, tt, tt, tt, tt, tt, tt, tt, ff, ff] rfl rfl (one_of HT_.out (by kernel_rfl)) (by decide) (fun K hK => ?_)
              refine goes_ Try.func16 (by kernel_rfl) rfl #[.agg #[.int .i64 a0_0, .int .i64 a0_1]] (by rfl) rfl rfl (by (try simp only [List.map_toArray, List.map_cons, List.map_nil]); first | done | rfl | (simp only [List.length_drop, List.length_take]; rfl)) ?_
              with_reducible refine (span_Span_Len.calls a0_0 a0_1 t145 _ A60.out).mono ?_
              rintro e w71 ⟨rfl, hb⟩
              refine ⟨_, rfl, ?_⟩
              have n0_ := Aside0.mk (blk_below (by (with_reducible repeat first | apply bN | apply bD | apply bA); exact BK121.out) hb)
              have n1_ := Aside0.mk (blk_below (by (with_reducible repeat first | apply bN | apply bD | apply bA); exact BK122.out) hb)
              have n2_ := Aside0.mk (blk_below (by (with_reducible repeat first | apply bN | apply bD | apply bA); exact BK123.out) hb)
              have n3_ := Aside0.mk (blk_below (by (with_reducible repeat first | apply bN | apply bD | apply bA); exact BK130.out) hb)
              have n4_ := Aside0.mk (blk_below (by (with_reducible repeat first | apply bN | apply bD | apply bA); exact BK131.out) hb)
              have n5_ := Aside0.mk (blk_below (by (with_reducible repeat first | apply bN | apply bD | apply bA); exact BK132.out) hb)
              have n6_ := Aside0.mk (below_step (by repeat (first | (with_reducible first | exact HB.out | apply eA | apply eN | apply eD | refine bS ?_ GE121.out | refine bS ?_ GE122.out | refine bS ?_ GE123.out | refine bS ?_ GE130.out | refine bS ?_ GE131.out | refine bS ?_ GE132.out) | exact HB.out)) hb)
              clear BK121
              clear BK122
              clear BK123
              clear BK130
              clear BK131
              clear BK132
              clear HB
              have BK121 := n0_
              have BK122 := n1_
              have BK123 := n2_
              have BK130 := n3_
              have BK131 := n4_
              have BK132 := n5_
              have HB := n6_
              clear n0_ n1_ n2_ n3_ n4_ n5_ n6_
              (try clear hb)
              (try clear hb2)
              (try clear hk)
              (try clear hi)
              refine hK.out _ _ ⟨(blk_cell BK130.out 0).trans rfl, (blk_cell BK130.out 1).trans rfl, (blk_cell BK131.out 0).trans rfl, (blk_cell BK131.out 1).trans rfl⟩ (fun hHeld => ?_)
              clear hK K
              refine norm_ (a' := ?_) ?_ ?_
              rotate_left
              · show Act.put _ (some 57) _ = _
                simp only [Act.put, lA, sZ, sC, i64_w, i32_w]
                rfl
              refine pure_ (i := 26) (N := some 58) (v := ?_) (a' := ?_) #[tt, tt, tt, tt, tt, tt, tt, tt, tt, tt, tt, tt, tt, tt, tt, tt, tt, tt, tt, tt, tt, tt, tt, tt, tt, tt, tt, ff] rfl rfl (any_of HT_.out (by kernel_rfl)) (fun _ _ _ h => h) (Or.inl ⟨by rfl, ?_⟩) ?_ ?_
              rotate_left
              · intro w'
                go_simp
                with_reducible rfl
              rotate_left
              · simp only [Act.put, lA, sZ, sC, i64_w, i32_w]
                rfl
              refine pure_ (i := 27) (N := some 59) (v := ?_) (a' := ?_) #[tt, tt, tt, tt, tt, tt, tt, tt, tt, tt, tt, tt, tt, tt, tt, tt, tt, tt, tt, tt, tt, tt, tt, tt, tt, tt, tt, tt] rfl rfl (any_of HT_.out (by kernel_rfl)) (fun _ _ _ h => h) (Or.inl ⟨by rfl, ?_⟩) ?_ ?_
              rotate_left
              · intro w'
                go_simp
                with_reducible rfl
              rotate_left
              · simp only [Act.put, lA, sZ, sC, i64_w, i32_w]
                rfl
              refine done_ (done_of HT_.out (by kernel_rfl)) ?_
              try go_wp2
              go_meet
              case rel => exact ⟨_, ((t144 != t145)), (by first | rfl | (simp; done) | (simp [*]; done)), H', ⟨by have := HJ3.out; first | omega | exact Nat.le_refl _⟩, ⟨by (with_reducible repeat first | apply bN | apply bD | apply bA); exact BK121.out⟩, ⟨by (with_reducible repeat first | apply bN | apply bD | apply bA); exact BK122.out⟩, ⟨by (with_reducible repeat first | apply bN | apply bD | apply bA); exact BK123.out⟩, ⟨by (with_reducible repeat first | apply bN | apply bD | apply bA); exact BK130.out⟩, ⟨by (with_reducible repeat first | apply bN | apply bD | apply bA); exact BK131.out⟩, ⟨by (with_reducible repeat first | apply bN | apply bD | apply bA); exact BK132.out⟩, ⟨by repeat (first | (with_reducible first | exact HB.out | apply eA | apply eN | apply eD | refine bS ?_ GE121.out | refine bS ?_ GE122.out | refine bS ?_ GE123.out | refine bS ?_ GE130.out | refine bS ?_ GE131.out | refine bS ?_ GE132.out) | exact HB.out)⟩⟩
        case rest =>
          clear HC25
          try clear c1
          try clear p2
          try clear c4
          try clear c15
          try clear c16
          try clear c49
          try clear c49b0
          obtain ⟨kq, x59_24, rfl, HA, HJ24, BK121, BK122, BK123, BK130, BK131, BK132, HB⟩ := hcut
          cases kq with
          | zero => exact absurd HA.out (by simp [sA.j1])
          | succ kj24 =>
            have H := HA.out
            clear HA
            simp only [sA.j1] at H
            by_cases c72 : x59_24 = true
            · subst c72
              have H1 : (some false) = some r := by rw [if_pos rfl] at H; exact H
              clear H
              have H := H1
              clear H1
              obtain rfl := Option.some.inj H
              go_wp2
              go_ret
              exact ⟨by first | rfl | (simp [errW_none, errW_some] <;> rfl) | (simp [*, errW_none, errW_some] <;> rfl), by repeat (first | (with_reducible first | exact HB.out | apply eA | apply eN | apply eD | refine bS ?_ GE121.out | refine bS ?_ GE122.out | refine bS ?_ GE123.out | refine bS ?_ GE130.out | refine bS ?_ GE131.out | refine bS ?_ GE132.out) | exact HB.out)⟩
            · replace c72 := Bool.eq_false_iff.mpr c72
              subst c72
              have H1 : ((span_Span_And.f a0_0 a0_1 a1_0 a1_1).bind fun bt146 => ((span_Span_And.f bt146.1 bt146.2 a2_0 a2_1).bind fun bt148 => ((span_Span_Len.f bt148.1 bt148.2).bind fun t150 => ((span_Span_And.f a1_0 a1_1 a2_0 a2_1).bind fun bt151 => ((span_Span_And.f a0_0 a0_1 bt151.1 bt151.2).bind fun bt153 => ((span_Span_Len.f bt153.1 bt153.2).bind fun t155 => (some (t150 == t155)))))))) = some r := by rw [if_neg (show ¬ (false = true) by decide)] at H; exact H
              clear H
              have H := H1
              clear H1
              replace H := Option.bind_eq_some_iff.mp H
              obtain ⟨⟨t146, t147⟩, A730, H⟩ := H
              replace H : ((span_Span_And.f t146 t147 a2_0 a2_1).bind fun bt148 => ((span_Span_Len.f bt148.1 bt148.2).bind fun t150 => ((span_Span_And.f a1_0 a1_1 a2_0 a2_1).bind fun bt151 => ((span_Span_And.f a0_0 a0_1 bt151.1 bt151.2).bind fun bt153 => ((span_Span_Len.f bt153.1 bt153.2).bind fun t155 => (some (t150 == t155))))))) = some r := H
              have A73 := Aside0.mk A730
              clear A730
              replace H := Option.bind_eq_some_iff.mp H
              obtain ⟨⟨t148, t149⟩, A740, H⟩ := H
              replace H : ((span_Span_Len.f t148 t149).bind fun t150 => ((span_Span_And.f a1_0 a1_1 a2_0 a2_1).bind fun bt151 => ((span_Span_And.f a0_0 a0_1 bt151.1 bt151.2).bind fun bt153 => ((span_Span_Len.f bt153.1 bt153.2).bind fun t155 => (some (t150 == t155)))))) = some r := H
              have A74 := Aside0.mk A740
              clear A740
              replace H := Option.bind_eq_some_iff.mp H
              obtain ⟨t150, A750, H⟩ := H
              replace H : ((span_Span_And.f a1_0 a1_1 a2_0 a2_1).bind fun bt151 => ((span_Span_And.f a0_0 a0_1 bt151.1 bt151.2).bind fun bt153 => ((span_Span_Len.f bt153.1 bt153.2).bind fun t155 => (some (t150 == t155))))) = some r := H
              have A75 := Aside0.mk A750
              clear A750
              replace H := Option.bind_eq_some_iff.mp H
              obtain ⟨⟨t151, t152⟩, A760, H⟩ := H
              replace H : ((span_Span_And.f a0_0 a0_1 t151 t152).bind fun bt153 => ((span_Span_Len.f bt153.1 bt153.2).bind fun t155 => (some (t150 == t155)))) = some r := H
              have A76 := Aside0.mk A760
              clear A760
              replace H := Option.bind_eq_some_iff.mp H
              obtain ⟨⟨t153, t154⟩, A770, H⟩ := H
              replace H : ((span_Span_Len.f t153 t154).bind fun t155 => (some (t150 == t155))) = some r := H
              have A77 := Aside0.mk A770
              clear A770
              replace H := Option.bind_eq_some_iff.mp H
              obtain ⟨t155, A780, H⟩ := H
              replace H : (some (t150 == t155)) = some r := H
              have A78 := Aside0.mk A780
              clear A780
              obtain rfl := Option.some.inj H
              try go_wp2
              have n0_ := Aside0.mk (blk_drew BK121.out)
              have n1_ := Aside0.mk (blk_drew BK122.out)
              have n2_ := Aside0.mk (blk_drew BK123.out)
              have n3_ := Aside0.mk (blk_drew BK130.out)
              have n4_ := Aside0.mk (blk_drew BK131.out)
              have n5_ := Aside0.mk (blk_drew BK132.out)
              have n6_ := Aside0.mk (below_drew1 HB.out)
              clear BK121
              clear BK122
              clear BK123
              clear BK130
              clear BK131
              clear BK132
              clear HB
              have BK121 := n0_
              have BK122 := n1_
              have BK123 := n2_
              have BK130 := n3_
              have BK131 := n4_
              have BK132 := n5_
              have HB := n6_
              clear n0_ n1_ n2_ n3_ n4_ n5_ n6_
              refine start_ (n := 14) (S := fun w' => w'.cell? ⟨gb130, 0, none⟩ = some (.int .i64 a0_0) ∧ w'.cell? ⟨gb130, 1, none⟩ = some (.int .i64 a0_1) ∧ w'.cell? ⟨gb131, 0, none⟩ = some (.int .i64 a1_0) ∧ w'.cell? ⟨gb131, 1, none⟩ = some (.int .i64 a1_1) ∧ w'.cell? ⟨gb132, 0, none⟩ = some (.int .i64 a2_0) ∧ w'.cell? ⟨gb132, 1, none⟩ = some (.int .i64 a2_1)) (ds := []) #[ff, ff, ff, ff, ff, ff, ff, ff, ff, ff, ff, ff, ff, ff] (by kernel_rfl) rfl rfl ⟨(blk_cell BK130.out 0).trans rfl, (blk_cell BK130.out 1).trans rfl, (blk_cell BK131.out 0).trans rfl, (blk_cell BK131.out 1).trans rfl, (blk_cell BK132.out 0).trans rfl, (blk_cell BK132.out 1).trans rfl⟩ (fun hHeld => ?_); refine with_tabW sA.tab6 sA.bits6 (fun HT_ HW_ => ?_)
              generalize wc.drew = w79 at BK121 BK122 BK123 BK130 BK131 BK132 HB hHeld ⊢
              refine take_ (i := 0) (N := some 60) (v := ?_) (a' := ?_) #[tt, ff, ff, ff, ff, ff, ff, ff, ff, ff, ff, ff, ff, ff] rfl rfl (take_ofW HT_.out HW_.out (by kernel_rfl)) (fun _ _ _ h => h) (Or.inl ⟨by rfl, ?_⟩) hHeld ?_ ?_
              rotate_left
              · rintro w' ⟨s0, s1, s2, s3, s4, s5⟩
                go_simp
                with_reducible rfl
              rotate_left
              · simp only [Act.put, lA, sZ, sC, i64_w, i32_w]
                rfl
              refine take_ (i := 1) (N := some 61) (v := ?_) (a' := ?_) #[tt, tt, ff, ff, ff, ff, ff, ff, ff, ff, ff, ff, ff, ff] rfl rfl (take_ofW HT_.out HW_.out (by kernel_rfl)) (fun _ _ _ h => h) (Or.inl ⟨by rfl, ?_⟩) hHeld ?_ ?_
              rotate_left
              · rintro w' ⟨s0, s1, s2, s3, s4, s5⟩
                go_simp
                with_reducible rfl
              rotate_left
              · simp only [Act.put, lA, sZ, sC, i64_w, i32_w]
                rfl
              refine take_ (i := 3) (N := some 63) (v := ?_) (a' := ?_) #[tt, tt, ff, tt, ff, ff, ff, ff, ff, ff, ff, ff, ff, ff] rfl rfl (take_ofW HT_.out HW_.out (by kernel_rfl)) (fun _ _ _ h => h) (Or.inl ⟨by rfl, ?_⟩) hHeld ?_ ?_
              rotate_left
              · rintro w' ⟨s0, s1, s2, s3, s4, s5⟩
                go_simp
                with_reducible rfl
              rotate_left
              · simp only [Act.put, lA, sZ, sC, i64_w, i32_w]
                rfl
              refine take_ (i := 6) (N := some 66) (v := ?_) (a' := ?_) #[tt, tt, ff, tt, ff, ff, tt, ff, ff, ff, ff, ff, ff, ff] rfl rfl (take_ofW HT_.out HW_.out (by kernel_rfl)) (fun _ _ _ h => h) (Or.inl ⟨by rfl, ?_⟩) hHeld ?_ ?_
              rotate_left
              · rintro w' ⟨s0, s1, s2, s3, s4, s5⟩
                go_simp
                with_reducible rfl
              rotate_left
              · simp only [Act.put, lA, sZ, sC, i64_w, i32_w]
                rfl
              refine take_ (i := 7) (N := some 67) (v := ?_) (a' := ?_) #[tt, tt, ff, tt, ff, ff, tt, tt, ff, ff, ff, ff, ff, ff] rfl rfl (take_ofW HT_.out HW_.out (by kernel_rfl)) (fun _ _ _ h => h) (Or.inl ⟨by rfl, ?_⟩) hHeld ?_ ?_
              rotate_left
              · rintro w' ⟨s0, s1, s2, s3, s4, s5⟩
                go_simp
                with_reducible rfl
              rotate_left
              · simp only [Act.put, lA, sZ, sC, i64_w, i32_w]
                rfl
              refine take_ (i := 8) (N := some 68) (v := ?_) (a' := ?_) #[tt, tt, ff, tt, ff, ff, tt, tt, tt, ff, ff, ff, ff, ff] rfl rfl (take_ofW HT_.out HW_.out (by kernel_rfl)) (fun _ _ _ h => h) (Or.inl ⟨by rfl, ?_⟩) hHeld ?_ ?_
              rotate_left
              · rintro w' ⟨s0, s1, s2, s3, s4, s5⟩
                go_simp
                with_reducible rfl
              rotate_left
              · simp only [Act.put, lA, sZ, sC, i64_w, i32_w]
                rfl
              refine one_ (i := 2) (N := some 62) #[tt, tt, tt, tt, ff, ff, tt, tt, tt, ff, ff, ff, ff, ff] rfl rfl (one_of HT_.out (by kernel_rfl)) (by decide) (fun K hK => ?_)
              refine goes_ Try.func15 (by kernel_rfl) rfl #[.agg #[.int .i64 a0_0, .int .i64 a0_1], .agg #[.int .i64 a1_0, .int .i64 a1_1]] (by rfl) rfl rfl (by (try simp only [List.map_toArray, List.map_cons, List.map_nil]); first | done | rfl | (simp only [List.length_drop, List.length_take]; rfl)) ?_
              with_reducible refine (span_Span_And.calls a0_0 a0_1 a1_0 a1_1 t146 t147 _ A73.out).mono ?_
              rintro e w80 ⟨rfl, hb⟩
              refine ⟨_, rfl, ?_⟩
              have n0_ := Aside0.mk (blk_below (by (with_reducible repeat first | apply bN | apply bD | apply bA); exact BK121.out) hb)
              have n1_ := Aside0.mk (blk_below (by (with_reducible repeat first | apply bN | apply bD | apply bA); exact BK122.out) hb)
              have n2_ := Aside0.mk (blk_below (by (with_reducible repeat first | apply bN | apply bD | apply bA); exact BK123.out) hb)
              have n3_ := Aside0.mk (blk_below (by (with_reducible repeat first | apply bN | apply bD | apply bA); exact BK130.out) hb)
              have n4_ := Aside0.mk (blk_below (by (with_reducible repeat first | apply bN | apply bD | apply bA); exact BK131.out) hb)
              have n5_ := Aside0.mk (blk_below (by (with_reducible repeat first | apply bN | apply bD | apply bA); exact BK132.out) hb)
              have n6_ := Aside0.mk (below_step (by repeat (first | (with_reducible first | exact HB.out | apply eA | apply eN | apply eD | refine bS ?_ GE121.out | refine bS ?_ GE122.out | refine bS ?_ GE123.out | refine bS ?_ GE130.out | refine bS ?_ GE131.out | refine bS ?_ GE132.out) | exact HB.out)) hb)
              clear BK121
              clear BK122
              clear BK123
              clear BK130
              clear BK131
              clear BK132
              clear HB
              have BK121 := n0_
              have BK122 := n1_
              have BK123 := n2_
              have BK130 := n3_
              have BK131 := n4_
              have BK132 := n5_
              have HB := n6_
              clear n0_ n1_ n2_ n3_ n4_ n5_ n6_
              (try clear hb)
              (try clear hb2)
              (try clear hk)
              (try clear hi)
              refine hK.out _ _ ⟨(blk_cell BK130.out 0).trans rfl, (blk_cell BK130.out 1).trans rfl, (blk_cell BK131.out 0).trans rfl, (blk_cell BK131.out 1).trans rfl, (blk_cell BK132.out 0).trans rfl, (blk_cell BK132.out 1).trans rfl⟩ (fun hHeld => ?_)
              clear hK K
              refine norm_ (a' := ?_) ?_ ?_
              rotate_left
              · show Act.put _ (some 62) _ = _
                simp only [Act.put, lA, sZ, sC, i64_w, i32_w]
                rfl
              refine one_ (i := 4) (N := some 64) #[tt, tt, tt, tt, tt, ff, tt, tt, tt, ff, ff, ff, ff, ff] rfl rfl (one_of HT_.out (by kernel_rfl)) (by decide) (fun K hK => ?_)
              refine goes_ Try.func15 (by kernel_rfl) rfl #[.agg #[.int .i64 t146, .int .i64 t147], .agg #[.int .i64 a2_0, .int .i64 a2_1]] (by rfl) rfl rfl (by (try simp only [List.map_toArray, List.map_cons, List.map_nil]); first | done | rfl | (simp only [List.length_drop, List.length_take]; rfl)) ?_
              with_reducible refine (span_Span_And.calls t146 t147 a2_0 a2_1 t148 t149 _ A74.out).mono ?_
              rintro e w81 ⟨rfl, hb⟩
              refine ⟨_, rfl, ?_⟩
              have n0_ := Aside0.mk (blk_below (by (with_reducible repeat first | apply bN | apply bD | apply bA); exact BK121.out) hb)
              have n1_ := Aside0.mk (blk_below (by (with_reducible repeat first | apply bN | apply bD | apply bA); exact BK122.out) hb)
              have n2_ := Aside0.mk (blk_below (by (with_reducible repeat first | apply bN | apply bD | apply bA); exact BK123.out) hb)
              have n3_ := Aside0.mk (blk_below (by (with_reducible repeat first | apply bN | apply bD | apply bA); exact BK130.out) hb)
              have n4_ := Aside0.mk (blk_below (by (with_reducible repeat first | apply bN | apply bD | apply bA); exact BK131.out) hb)
              have n5_ := Aside0.mk (blk_below (by (with_reducible repeat first | apply bN | apply bD | apply bA); exact BK132.out) hb)
              have n6_ := Aside0.mk (below_step (by repeat (first | (with_reducible first | exact HB.out | apply eA | apply eN | apply eD | refine bS ?_ GE121.out | refine bS ?_ GE122.out | refine bS ?_ GE123.out | refine bS ?_ GE130.out | refine bS ?_ GE131.out | refine bS ?_ GE132.out) | exact HB.out)) hb)
              clear BK121
              clear BK122
              clear BK123
              clear BK130
              clear BK131
              clear BK132
              clear HB
              have BK121 := n0_
              have BK122 := n1_
              have BK123 := n2_
              have BK130 := n3_
              have BK131 := n4_
              have BK132 := n5_
              have HB := n6_
              clear n0_ n1_ n2_ n3_ n4_ n5_ n6_
              (try clear hb)
              (try clear hb2)
              (try clear hk)
              (try clear hi)
              refine hK.out _ _ ⟨(blk_cell BK130.out 0).trans rfl, (blk_cell BK130.out 1).trans rfl, (blk_cell BK131.out 0).trans rfl, (blk_cell BK131.out 1).trans rfl, (blk_cell BK132.out 0).trans rfl, (blk_cell BK132.out 1).trans rfl⟩ (fun hHeld => ?_)
              clear hK K
              refine norm_ (a' := ?_) ?_ ?_
              rotate_left
              · show Act.put _ (some 64) _ = _
                simp only [Act.put, lA, sZ, sC, i64_w, i32_w]
                rfl
              refine one_ (i := 5) (N := some 65) #[tt, tt, tt, tt, tt, tt, tt, tt, tt, ff, ff, ff, ff, ff] rfl rfl (one_of HT_.out (by kernel_rfl)) (by decide) (fun K hK => ?_)
              refine goes_ Try.func16 (by kernel_rfl) rfl #[.agg #[.int .i64 t148, .int .i64 t149]] (by rfl) rfl rfl (by (try simp only [List.map_toArray, List.map_cons, List.map_nil]); first | done | rfl | (simp only [List.length_drop, List.length_take]; rfl)) ?_
              with_reducible refine (span_Span_Len.calls t148 t149 t150 _ A75.out).mono ?_
              rintro e w82 ⟨rfl, hb⟩
              refine ⟨_, rfl, ?_⟩
              have n0_ := Aside0.mk (blk_below (by (with_reducible repeat first | apply bN | apply bD | apply bA); exact BK121.out) hb)
              have n1_ := Aside0.mk (blk_below (by (with_reducible repeat first | apply bN | apply bD | apply bA); exact BK122.out) hb)
              have n2_ := Aside0.mk (blk_below (by (with_reducible repeat first | apply bN | apply bD | apply bA); exact BK123.out) hb)
              have n3_ := Aside0.mk (blk_below (by (with_reducible repeat first | apply bN | apply bD | apply bA); exact BK130.out) hb)
              have n4_ := Aside0.mk (blk_below (by (with_reducible repeat first | apply bN | apply bD | apply bA); exact BK131.out) hb)
              have n5_ := Aside0.mk (blk_below (by (with_reducible repeat first | apply bN | apply bD | apply bA); exact BK132.out) hb)
              have n6_ := Aside0.mk (below_step (by repeat (first | (with_reducible first | exact HB.out | apply eA | apply eN | apply eD | refine bS ?_ GE121.out | refine bS ?_ GE122.out | refine bS ?_ GE123.out | refine bS ?_ GE130.out | refine bS ?_ GE131.out | refine bS ?_ GE132.out) | exact HB.out)) hb)
              clear BK121
              clear BK122
              clear BK123
              clear BK130
              clear BK131
              clear BK132
              clear HB
              have BK121 := n0_
              have BK122 := n1_
              have BK123 := n2_
              have BK130 := n3_
              have BK131 := n4_
              have BK132 := n5_
              have HB := n6_
              clear n0_ n1_ n2_ n3_ n4_ n5_ n6_
              (try clear hb)
              (try clear hb2)
              (try clear hk)
              (try clear hi)
              refine hK.out _ _ ⟨(blk_cell BK130.out 0).trans rfl, (blk_cell BK130.out 1).trans rfl, (blk_cell BK131.out 0).trans rfl, (blk_cell BK131.out 1).trans rfl, (blk_cell BK132.out 0).trans rfl, (blk_cell BK132.out 1).trans rfl⟩ (fun hHeld => ?_)
              clear hK K
              refine norm_ (a' := ?_) ?_ ?_
              rotate_left
              · show Act.put _ (some 65) _ = _
                simp only [Act.put, lA, sZ, sC, i64_w, i32_w]
                rfl
              refine one_ (i := 9) (N := some 69) #[tt, tt, tt, tt, tt, tt, tt, tt, tt, tt, ff, ff, ff, ff] rfl rfl (one_of HT_.out (by kernel_rfl)) (by decide) (fun K hK => ?_)
              refine goes_ Try.func15 (by kernel_rfl) rfl #[.agg #[.int .i64 a1_0, .int .i64 a1_1], .agg #[.int .i64 a2_0, .int .i64 a2_1]] (by rfl) rfl rfl (by (try simp only [List.map_toArray, List.map_cons, List.map_nil]); first | done | rfl | (simp only [List.length_drop, List.length_take]; rfl)) ?_
              with_reducible refine (span_Span_And.calls a1_0 a1_1 a2_0 a2_1 t151 t152 _ A76.out).mono ?_
              rintro e w83 ⟨rfl, hb⟩
              refine ⟨_, rfl, ?_⟩
              have n0_ := Aside0.mk (blk_below (by (with_reducible repeat first | apply bN | apply bD | apply bA); exact BK121.out) hb)
              have n1_ := Aside0.mk (blk_below (by (with_reducible repeat first | apply bN | apply bD | apply bA); exact BK122.out) hb)
              have n2_ := Aside0.mk (blk_below (by (with_reducible repeat first | apply bN | apply bD | apply bA); exact BK123.out) hb)
              have n3_ := Aside0.mk (blk_below (by (with_reducible repeat first | apply bN | apply bD | apply bA); exact BK130.out) hb)
              have n4_ := Aside0.mk (blk_below (by (with_reducible repeat first | apply bN | apply bD | apply bA); exact BK131.out) hb)
              have n5_ := Aside0.mk (blk_below (by (with_reducible repeat first | apply bN | apply bD | apply bA); exact BK132.out) hb)
              have n6_ := Aside0.mk (below_step (by repeat (first | (with_reducible first | exact HB.out | apply eA | apply eN | apply eD | refine bS ?_ GE121.out | refine bS ?_ GE122.out | refine bS ?_ GE123.out | refine bS ?_ GE130.out | refine bS ?_ GE131.out | refine bS ?_ GE132.out) | exact HB.out)) hb)
              clear BK121
              clear BK122
              clear BK123
              clear BK130
              clear BK131
              clear BK132
              clear HB
              have BK121 := n0_
              have BK122 := n1_
              have BK123 := n2_
              have BK130 := n3_
              have BK131 := n4_
              have BK132 := n5_
              have HB := n6_
              clear n0_ n1_ n2_ n3_ n4_ n5_ n6_
              (try clear hb)
              (try clear hb2)
              (try clear hk)
              (try clear hi)
              refine hK.out _ _ ⟨(blk_cell BK130.out 0).trans rfl, (blk_cell BK130.out 1).trans rfl, (blk_cell BK131.out 0).trans rfl, (blk_cell BK131.out 1).trans rfl, (blk_cell BK132.out 0).trans rfl, (blk_cell BK132.out 1).trans rfl⟩ (fun hHeld => ?_)
              clear hK K
              refine norm_ (a' := ?_) ?_ ?_
              rotate_left
              · show Act.put _ (some 69) _ = _
                simp only [Act.put, lA, sZ, sC, i64_w, i32_w]
                rfl
              refine one_ (i := 10) (N := some 70) #[tt, tt, tt, tt, tt, tt, tt, tt, tt, tt, tt, ff, ff, ff] rfl rfl (one_of HT_.out (by kernel_rfl)) (by decide) (fun K hK => ?_)
              refine goes_ Try.func15 (by kernel_rfl) rfl #[.agg #[.int .i64 a0_0, .int .i64 a0_1], .agg #[.int .i64 t151, .int .i64 t152]] (by rfl) rfl rfl (by (try simp only [List.map_toArray, List.map_cons, List.map_nil]); first | done | rfl | (simp only [List.length_drop, List.length_take]; rfl)) ?_
              with_reducible refine (span_Span_And.calls a0_0 a0_1 t151 t152 t153 t154 _ A77.out).mono ?_
              rintro e w84 ⟨rfl, hb⟩
              refine ⟨_, rfl, ?_⟩
              have n0_ := Aside0.mk (blk_below (by (with_reducible repeat first | apply bN | apply bD | apply bA); exact BK121.out) hb)
              have n1_ := Aside0.mk (blk_below (by (with_reducible repeat first | apply bN | apply bD | apply bA); exact BK122.out) hb)
              have n2_ := Aside0.mk (blk_below (by (with_reducible repeat first | apply bN | apply bD | apply bA); exact BK123.out) hb)
              have n3_ := Aside0.mk (blk_below (by (with_reducible repeat first | apply bN | apply bD | apply bA); exact BK130.out) hb)
              have n4_ := Aside0.mk (blk_below (by (with_reducible repeat first | apply bN | apply bD | apply bA); exact BK131.out) hb)
              have n5_ := Aside0.mk (blk_below (by (with_reducible repeat first | apply bN | apply bD | apply bA); exact BK132.out) hb)
              have n6_ := Aside0.mk (below_step (by repeat (first | (with_reducible first | exact HB.out | apply eA | apply eN | apply eD | refine bS ?_ GE121.out | refine bS ?_ GE122.out | refine bS ?_ GE123.out | refine bS ?_ GE130.out | refine bS ?_ GE131.out | refine bS ?_ GE132.out) | exact HB.out)) hb)
              clear BK121
              clear BK122
              clear BK123
              clear BK130
              clear BK131
              clear BK132
              clear HB
              have BK121 := n0_
              have BK122 := n1_
              have BK123 := n2_
              have BK130 := n3_
              have BK131 := n4_
              have BK132 := n5_
              have HB := n6_
              clear n0_ n1_ n2_ n3_ n4_ n5_ n6_
              (try clear hb)
              (try clear hb2)
              (try clear hk)
              (try clear hi)
              refine hK.out _ _ ⟨(blk_cell BK130.out 0).trans rfl, (blk_cell BK130.out 1).trans rfl, (blk_cell BK131.out 0).trans rfl, (blk_cell BK131.out 1).trans rfl, (blk_cell BK132.out 0).trans rfl, (blk_cell BK132.out 1).trans rfl⟩ (fun hHeld => ?_)
              clear hK K
              refine norm_ (a' := ?_) ?_ ?_
              rotate_left
              · show Act.put _ (some 70) _ = _
                simp only [Act.put, lA, sZ, sC, i64_w, i32_w]
                rfl
              refine one_ (i := 11) (N := some 71) #[tt, tt, tt, tt, tt, tt, tt, tt, tt, tt, tt, tt, ff, ff] rfl rfl (one_of HT_.out (by kernel_rfl)) (by decide) (fun K hK => ?_)
              refine goes_ Try.func16 (by kernel_rfl) rfl #[.agg #[.int .i64 t153, .int .i64 t154]] (by rfl) rfl rfl (by (try simp only [List.map_toArray, List.map_cons, List.map_nil]); first | done | rfl | (simp only [List.length_drop, List.length_take]; rfl)) ?_
              with_reducible refine (span_Span_Len.calls t153 t154 t155 _ A78.out).mono ?_
              rintro e w85 ⟨rfl, hb⟩
              refine ⟨_, rfl, ?_⟩
              have n0_ := Aside0.mk (blk_below (by (with_reducible repeat first | apply bN | apply bD | apply bA); exact BK121.out) hb)
              have n1_ := Aside0.mk (blk_below (by (with_reducible repeat first | apply bN | apply bD | apply bA); exact BK122.out) hb)
              have n2_ := Aside0.mk (blk_below (by (with_reducible repeat first | apply bN | apply bD | apply bA); exact BK123.out) hb)
              have n3_ := Aside0.mk (blk_below (by (with_reducible repeat first | apply bN | apply bD | apply bA); exact BK130.out) hb)
              have n4_ := Aside0.mk (blk_below (by (with_reducible repeat first | apply bN | apply bD | apply bA); exact BK131.out) hb)
              have n5_ := Aside0.mk (blk_below (by (with_reducible repeat first | apply bN | apply bD | apply bA); exact BK132.out) hb)
              have n6_ := Aside0.mk (below_step (by repeat (first | (with_reducible first | exact HB.out | apply eA | apply eN | apply eD | refine bS ?_ GE121.out | refine bS ?_ GE122.out | refine bS ?_ GE123.out | refine bS ?_ GE130.out | refine bS ?_ GE131.out | refine bS ?_ GE132.out) | exact HB.out)) hb)
              clear BK121
              clear BK122
              clear BK123
              clear BK130
              clear BK131
              clear BK132
              clear HB
              have BK121 := n0_
              have BK122 := n1_
              have BK123 := n2_
              have BK130 := n3_
              have BK131 := n4_
              have BK132 := n5_
              have HB := n6_
              clear n0_ n1_ n2_ n3_ n4_ n5_ n6_
              (try clear hb)
              (try clear hb2)
              (try clear hk)
              (try clear hi)
              refine hK.out _ _ ⟨(blk_cell BK130.out 0).trans rfl, (blk_cell BK130.out 1).trans rfl, (blk_cell BK131.out 0).trans rfl, (blk_cell BK131.out 1).trans rfl, (blk_cell BK132.out 0).trans rfl, (blk_cell BK132.out 1).trans rfl⟩ (fun hHeld => ?_)
              clear hK K
              refine norm_ (a' := ?_) ?_ ?_
              rotate_left
              · show Act.put _ (some 71) _ = _
                simp only [Act.put, lA, sZ, sC, i64_w, i32_w]
                rfl
              refine pure_ (i := 12) (N := some 72) (v := ?_) (a' := ?_) #[tt, tt, tt, tt, tt, tt, tt, tt, tt, tt, tt, tt, tt, ff] rfl rfl (any_of HT_.out (by kernel_rfl)) (fun _ _ _ h => h) (Or.inl ⟨by rfl, ?_⟩) ?_ ?_
              rotate_left
              · intro w'
                go_simp
                with_reducible rfl
              rotate_left
              · simp only [Act.put, lA, sZ, sC, i64_w, i32_w]
                rfl
              refine pure_ (i := 13) (N := some 6) (v := ?_) (a' := ?_) #[tt, tt, tt, tt, tt, tt, tt, tt, tt, tt, tt, tt, tt, tt] rfl rfl (any_of HT_.out (by kernel_rfl)) (fun _ _ _ h => h) (Or.inl ⟨by rfl, ?_⟩) ?_ ?_
              rotate_left
              · intro w'
                go_simp
                with_reducible rfl
              rotate_left
              · simp only [Act.put, lA, sZ, sC, i64_w, i32_w]
                rfl
              refine done_ (done_of HT_.out (by kernel_rfl)) ?_
              try go_wp2
              go_ret
              exact ⟨by first | rfl | (simp [errW_none, errW_some] <;> rfl) | (simp [*, errW_none, errW_some] <;> rfl), by repeat (first | (with_reducible first | exact HB.out | apply eA | apply eN | apply eD | refine bS ?_ GE121.out | refine bS ?_ GE122.out | refine bS ?_ GE123.out | refine bS ?_ GE130.out | refine bS ?_ GE131.out | refine bS ?_ GE132.out) | exact HB.out)⟩

end Go.Proofs.Ytlhjmbhoeabhmaa.PSpanAnds
