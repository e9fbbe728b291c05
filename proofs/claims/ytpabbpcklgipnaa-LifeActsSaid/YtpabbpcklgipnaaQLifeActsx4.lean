/- The walks of functions that the law LifeActs reaches. Written by this session's turn of the kit's printer, not by the kit's own. -/
import Derived.Test.YtpabbpcklgipnaaQLifeActsx0
import Derived.Test.YtpabbpcklgipnaaQLifeActsx1
import Derived.Test.YtpabbpcklgipnaaQLifeActsx2
import Derived.Test.YtpabbpcklgipnaaQLifeActsx3
namespace Go.Proofs.Ytpabbpcklgipnaa.PLifeActs
open Go.RowKit Go.Proofs.YtpabbpcklgipnaaW.PrintWords Go.Proofs.YtpabbpcklgipnaaW.PrintLast Go.Proofs.YtpabbpcklgipnaaW.PrintMore
attribute [local go_sem] max2_int min2_int max_two min_two max_three min_three max_four min_four   -- for this text's walks alone
set_option linter.unusedVariables false
set_option linter.unusedSimpArgs false

/-! ### monocoquelaw32_LifeActs: function 11 -/
mutual
def monocoquelaw32_LifeActs.l0 : Nat → List Int → Int → Int → Int → Int → Int → Int → Int → Int → Option (Bool)
  | 0, _, _, _, _, _, _, _, _, _ => none
  | k + 1, x1, x9, x199000, x199001, x199002, x206000, x206001, x206002, x206003 => if x9 < (x1.length : Int) then (monocoquelaw32_LifeActs.j1 k x1 x9 (decide (x9 < 150)) x199000 x199001 x199002 x206000 x206001 x206002 x206003) else (monocoquelaw32_LifeActs.j1 k x1 x9 false x199000 x199001 x199002 x206000 x206001 x206002 x206003)
def monocoquelaw32_LifeActs.j1 : Nat → List Int → Int → Bool → Int → Int → Int → Int → Int → Int → Int → Option (Bool)
  | 0, _, _, _, _, _, _, _, _, _, _ => none
  | k + 1, x1, x9, x36, x199000, x199001, x199002, x206000, x206001, x206002, x206003 => if x36 = true then (if 0 ≤ x9 then (if x9 < (x1.length : Int) then ((monocoquelaw32_do.f k x199000 x199001 x199002 x206000 x206001 x206002 x206003 (rd x1 x9)).bind fun bt211 => (if bt211.2.2.2.2.1 = true then ((monocoquelaw32_same.f bt211.2.2.2.2.2.1 bt211.2.2.2.2.2.2.1 bt211.2.2.2.2.2.2.2 bt211.1 bt211.2.1 bt211.2.2.1 bt211.2.2.2.1).bind fun bt220 => (if bt220.1 = true then (monocoquelaw32_LifeActs.l0 k x1 (wrap64 (x9 + 1)) bt220.2.1 bt220.2.2.1 bt220.2.2.2 bt211.1 bt211.2.1 bt211.2.2.1 bt211.2.2.2.1) else (some false))) else (some false))) else (none)) else (none)) else ((monocoquelaw32_same.f x199000 x199001 x199002 x206000 x206001 x206002 x206003).bind fun bt206 => (some bt206.1))
end
def monocoquelaw32_LifeActs.f (k : Nat) (a0 : Int) (l1 : List Int) : Option (Bool) := (life_New.f (wrap64 (Int.tmod (IntKind.u64.wrap (a0)) 1001))).bind fun bt195 => ((monocoquelaw32_told.f k).bind fun t200 => (if t200 = true then ((monocoqueref32_New.f (wrap64 (Int.tmod (IntKind.u64.wrap (a0)) 1001))).bind fun bt201 => (monocoquelaw32_LifeActs.l0 k l1 0 bt195.1 bt195.2.1 bt195.2.2.1 bt201.1 bt201.2.1 bt201.2.2.1 bt201.2.2.2)) else (some false)))
theorem monocoquelaw32_LifeActs.mono_l : ∀ k, (∀ y0 y1 y2 y3 y4 y5 y6 y7 y8, LeO (monocoquelaw32_LifeActs.l0 k y0 y1 y2 y3 y4 y5 y6 y7 y8) (monocoquelaw32_LifeActs.l0 (k + 1) y0 y1 y2 y3 y4 y5 y6 y7 y8)) ∧ (∀ y0 y1 y2 y3 y4 y5 y6 y7 y8 y9, LeO (monocoquelaw32_LifeActs.j1 k y0 y1 y2 y3 y4 y5 y6 y7 y8 y9) (monocoquelaw32_LifeActs.j1 (k + 1) y0 y1 y2 y3 y4 y5 y6 y7 y8 y9))
  | 0 => ⟨fun _ _ _ _ _ _ _ _ _ r h => by simp [monocoquelaw32_LifeActs.l0] at h, fun _ _ _ _ _ _ _ _ _ _ r h => by simp [monocoquelaw32_LifeActs.j1] at h⟩
  | k + 1 => by
    obtain ⟨ih0, ih1⟩ := monocoquelaw32_LifeActs.mono_l k
    refine ⟨?_, ?_⟩
    · intro y0 y1 y2 y3 y4 y5 y6 y7 y8
      unfold monocoquelaw32_LifeActs.l0
      repeat' first
      | (with_reducible exact ih0 _ _ _ _ _ _ _ _ _)
      | (with_reducible exact ih1 _ _ _ _ _ _ _ _ _ _)
      | (with_reducible exact monocoquelaw32_do.mono _ _ _ _ _ _ _ _ _)
      | (with_reducible exact monocoquelaw32_told.mono _)
      | (with_reducible exact LeO.refl _)
      | (with_reducible exact LeO.none _)
      | (with_reducible refine LeO.ite ?_ ?_)
      | (with_reducible refine LeO.bind ?_ (fun _ => ?_))
      | exact ih0 _ _ _ _ _ _ _ _ _
      | exact ih1 _ _ _ _ _ _ _ _ _ _
      | exact monocoquelaw32_do.mono _ _ _ _ _ _ _ _ _
      | exact monocoquelaw32_told.mono _
      | exact LeO.none _
      | refine LeO.ite ?_ ?_
      | refine LeO.bind ?_ (fun _ => ?_)
    · intro y0 y1 y2 y3 y4 y5 y6 y7 y8 y9
      unfold monocoquelaw32_LifeActs.j1
      repeat' first
      | (with_reducible exact ih0 _ _ _ _ _ _ _ _ _)
      | (with_reducible exact ih1 _ _ _ _ _ _ _ _ _ _)
      | (with_reducible exact monocoquelaw32_do.mono _ _ _ _ _ _ _ _ _)
      | (with_reducible exact monocoquelaw32_told.mono _)
      | (with_reducible exact LeO.refl _)
      | (with_reducible exact LeO.none _)
      | (with_reducible refine LeO.ite ?_ ?_)
      | (with_reducible refine LeO.bind ?_ (fun _ => ?_))
      | exact ih0 _ _ _ _ _ _ _ _ _
      | exact ih1 _ _ _ _ _ _ _ _ _ _
      | exact monocoquelaw32_do.mono _ _ _ _ _ _ _ _ _
      | exact monocoquelaw32_told.mono _
      | exact LeO.none _
      | refine LeO.ite ?_ ?_
      | refine LeO.bind ?_ (fun _ => ?_)
theorem monocoquelaw32_LifeActs.mono : ∀ a0 a1 k, LeO (monocoquelaw32_LifeActs.f k a0 a1) (monocoquelaw32_LifeActs.f (k + 1) a0 a1) := by
  intro a0 a1 k
  obtain ⟨ih0, ih1⟩ := monocoquelaw32_LifeActs.mono_l k
  unfold monocoquelaw32_LifeActs.f
  repeat' first
      | (with_reducible exact ih0 _ _ _ _ _ _ _ _ _)
      | (with_reducible exact ih1 _ _ _ _ _ _ _ _ _ _)
      | (with_reducible exact monocoquelaw32_do.mono _ _ _ _ _ _ _ _ _)
      | (with_reducible exact monocoquelaw32_told.mono _)
      | (with_reducible exact LeO.refl _)
      | (with_reducible exact LeO.none _)
      | (with_reducible refine LeO.ite ?_ ?_)
      | (with_reducible refine LeO.bind ?_ (fun _ => ?_))
      | exact ih0 _ _ _ _ _ _ _ _ _
      | exact ih1 _ _ _ _ _ _ _ _ _ _
      | exact monocoquelaw32_do.mono _ _ _ _ _ _ _ _ _
      | exact monocoquelaw32_told.mono _
      | exact LeO.none _
      | refine LeO.ite ?_ ?_
      | refine LeO.bind ?_ (fun _ => ?_)
def monocoquelaw32_LifeActs.T9 : Bool × List (List Nat × List Nat) := (true, [([], []), ([], []), ([], []), ([], []), ([2, 3], [2, 3]), ([4], [4]), ([0, 1, 5], [0, 1, 5]), ([6], [6]), ([7], [7]), ([7], [7]), ([], []), ([10, 8, 6, 0, 1, 2, 3, 4, 5, 6, 7, 8, 10], [8, 10]), ([9, 11, 0, 1, 2, 3, 4, 5, 6, 7, 8, 9, 10, 11], [9])])
def monocoquelaw32_LifeActs.B9 : List Nat := [0, 0, 0, 0, 12, 28, 63, 127, 255, 255, 0, 1535, 4095]
theorem monocoquelaw32_LifeActs.tab9 : rtab .any (opsOf Try.f11 9) = monocoquelaw32_LifeActs.T9 := by kernel_rfl
theorem monocoquelaw32_LifeActs.bits9 : waitsOk monocoquelaw32_LifeActs.T9.2 monocoquelaw32_LifeActs.B9 = true := by kernel_rfl
set_option maxHeartbeats 8000000 in
set_option maxRecDepth 100000 in
theorem monocoquelaw32_LifeActs.calls (k : Nat) (a0 : Int) (A1 : Option Addr) (c1 : Nat) (l1 : List Int) (r : Bool) (w : World) (hr1 : Kd.C (Kd.int .i64) w A1 l1.length l1) (hc1 : l1.length ≤ c1) (h : monocoquelaw32_LifeActs.f k a0 l1 = some r) :
    Calls Try.prog 11 #[.int .i64 a0, .slice A1 l1.length c1] w fun e w' => e = .returned (.bool r) ∧ Below w.heap.size w w' := by
  have hu58 := Try.underlying58
  have hu69 := Try.underlying69
  have HR1 := Aside0.mk hr1
  have HC1 := Aside0.mk hc1
  clear hr1 hc1
  have HB := Aside0.mk (Below.refl w.heap.size w)
  have H : ((life_New.f (wrap64 (Int.tmod (IntKind.u64.wrap (a0)) 1001))).bind fun bt195 => ((monocoquelaw32_told.f k).bind fun t200 => (if t200 = true then ((monocoqueref32_New.f (wrap64 (Int.tmod (IntKind.u64.wrap (a0)) 1001))).bind fun bt201 => (monocoquelaw32_LifeActs.l0 k l1 0 bt195.1 bt195.2.1 bt195.2.2.1 bt201.1 bt201.2.1 bt201.2.2.1 bt201.2.2.2)) else (some false)))) = some r := h
  clear h
  replace H := Option.bind_eq_some_iff.mp H
  obtain ⟨⟨t195, t196, t197, t199⟩, A30, H⟩ := H
  replace H : ((monocoquelaw32_told.f k).bind fun t200 => (if t200 = true then ((monocoqueref32_New.f (wrap64 (Int.tmod (IntKind.u64.wrap (a0)) 1001))).bind fun bt201 => (monocoquelaw32_LifeActs.l0 k l1 0 t195 t196 t197 bt201.1 bt201.2.1 bt201.2.2.1 bt201.2.2.2)) else (some false))) = some r := H
  have A3 := Aside0.mk A30
  clear A30
  replace H := Option.bind_eq_some_iff.mp H
  obtain ⟨t200, A40, H⟩ := H
  replace H : (if t200 = true then ((monocoqueref32_New.f (wrap64 (Int.tmod (IntKind.u64.wrap (a0)) 1001))).bind fun bt201 => (monocoquelaw32_LifeActs.l0 k l1 0 t195 t196 t197 bt201.1 bt201.2.1 bt201.2.2.1 bt201.2.2.2)) else (some false)) = some r := H
  have A4 := Aside0.mk A40
  clear A40
  by_cases c5 : t200 = true
  · subst c5
    have H1 : ((monocoqueref32_New.f (wrap64 (Int.tmod (IntKind.u64.wrap (a0)) 1001))).bind fun bt201 => (monocoquelaw32_LifeActs.l0 k l1 0 t195 t196 t197 bt201.1 bt201.2.1 bt201.2.2.1 bt201.2.2.2)) = some r := by rw [if_pos rfl] at H; exact H
    clear H
    have H := H1
    clear H1
    replace H := Option.bind_eq_some_iff.mp H
    obtain ⟨⟨t201, t202, t203, t204⟩, A60, H⟩ := H
    replace H : (monocoquelaw32_LifeActs.l0 k l1 0 t195 t196 t197 t201 t202 t203 t204) = some r := H
    have A6 := Aside0.mk A60
    clear A60
    have H' := Aside0.mk H
    clear H
    go_enter Try.func11, Try.ntmps11
    go_wp2_with (first | ((with_reducible refine gate_callee (f := 29) rfl ?_); refine goesL_ (some 18) rfl rfl Try.func29 (by kernel_rfl) rfl #[.int .i64 (wrap64 (Int.tmod (IntKind.u64.wrap (a0)) 1001))] rfl (by (try simp only [List.map_toArray, List.map_cons, List.map_nil]); first | done | rfl | (simp only [List.length_drop, List.length_take]; rfl)) ?_; (with_reducible refine (life_New.calls (wrap64 (Int.tmod (IntKind.u64.wrap (a0)) 1001)) t195 t196 t197 t199 w _ ?side1 A3.out).mono ?_); (case side1 => repeat (first | (with_reducible first | exact HB.out | apply below_alloc | apply pw_below_drewN | apply below_drew1) | exact HB.out)); rintro e w7 ⟨g198, rfl, hi, hb, hb2⟩; refine ⟨_, rfl, ?_⟩; have n0_ := Aside0.mk (hb); have n1_ := Aside0.mk (hi); clear HB; have HB := n0_; have HI198 := n1_; clear n0_ n1_; (try clear hb); (try clear hb2); (try clear hk); (try clear hi)) | (go_at_call 30; (with_reducible refine (monocoquelaw32_told.calls k  true _ A4.out).mono ?_); rintro e w8 ⟨rfl, hb⟩; have n0_ := Aside0.mk (IsS89.below (by repeat (first | (with_reducible first | exact HI198.out | apply IsS89.alloc | apply IsS89.drewN | apply IsS89.drew | apply IsS89.set_0 | apply IsS89.set_1 | apply IsS89.set_2) | exact HI198.out)) hb); have n1_ := Aside0.mk (below_step (by repeat (first | (with_reducible first | exact HB.out | apply below_alloc | apply pw_below_drewN | apply below_drew1 | refine below_set ?_ (IsS89.ge HI198.out)) | exact HB.out)) hb); clear HI198; clear HB; have HI198 := n0_; have HB := n1_; clear n0_ n1_; (try clear hb); (try clear hb2); (try clear hk); (try clear hi)) | ((with_reducible refine gate_callee (f := 36) rfl ?_); refine goesL_ (some 28) rfl rfl Try.func36 (by kernel_rfl) rfl #[.int .i64 (wrap64 (Int.tmod (IntKind.u64.wrap (a0)) 1001))] rfl (by (try simp only [List.map_toArray, List.map_cons, List.map_nil]); first | done | rfl | (simp only [List.length_drop, List.length_take]; rfl)) ?_; (with_reducible refine (monocoqueref32_New.calls (wrap64 (Int.tmod (IntKind.u64.wrap (a0)) 1001)) t201 t202 t203 t204 _ A6.out).mono ?_); rintro e w9 ⟨rfl, hb⟩; refine ⟨_, rfl, ?_⟩; have n0_ := Aside0.mk (IsS89.below (by repeat (first | (with_reducible first | exact HI198.out | apply IsS89.alloc | apply IsS89.drewN | apply IsS89.drew | apply IsS89.set_0 | apply IsS89.set_1 | apply IsS89.set_2) | exact HI198.out)) hb); have n1_ := Aside0.mk (below_step (by repeat (first | (with_reducible first | exact HB.out | apply below_alloc | apply pw_below_drewN | apply below_drew1 | refine below_set ?_ (IsS89.ge HI198.out)) | exact HB.out)) hb); clear HI198; clear HB; have HI198 := n0_; have HB := n1_; clear n0_ n1_; (try clear hb); (try clear hb2); (try clear hk); (try clear hi)) | ((with_reducible refine gate_dst (N := 8) rfl ?_); refine box_event ?hg (N := 8) ?hd (cs := #[.int .i64 0, .int .i64 0, .int .i64 0, .int .i64 0]) (t := 69) ?hr ?_; (case hd => rfl); (case hg => rfl); (case hr => first | (go_simp; done) | (go_simp; rfl)); intro gb205 hg w10 hbox hb; have n0_ := Aside0.mk (IsS89.below (by repeat (first | (with_reducible first | exact HI198.out | apply IsS89.alloc | apply IsS89.drewN | apply IsS89.drew | apply IsS89.set_0 | apply IsS89.set_1 | apply IsS89.set_2) | exact HI198.out)) hb); have n1_ := Aside0.mk (below_step (by repeat (first | (with_reducible first | exact HB.out | apply below_alloc | apply pw_below_drewN | apply below_drew1 | refine below_set ?_ (IsS89.ge HI198.out)) | exact HB.out)) hb); have n2_ := Aside0.mk (hbox); have n3_ := Aside0.mk ((by rw [hg]; exact (below_size (by repeat (first | (with_reducible first | exact HB.out | apply below_alloc | apply pw_below_drewN | apply below_drew1 | refine below_set ?_ (IsS89.ge HI198.out)) | exact HB.out))) : w.heap.size ≤ gb205)); have n4_ := Aside0.mk ((by rw [hg]; exact (below_size (by repeat (first | (with_reducible first | exact HB.out | apply below_alloc | apply pw_below_drewN | apply below_drew1 | refine below_set ?_ (IsS89.ge HI198.out)) | exact HB.out))) : w.heap.size ≤ gb205)); have n5_ := Aside0.mk ((by rw [hg]; exact Nat.ne_of_lt (IsS89.lt (show IsS89 w _ g198 t195 t196 t197 from by repeat (first | (with_reducible first | exact HI198.out | apply IsS89.alloc | apply IsS89.drewN | apply IsS89.drew | apply IsS89.set_0 | apply IsS89.set_1 | apply IsS89.set_2) | exact HI198.out))) : g198 ≠ gb205)); have n6_ := Aside0.mk ((by rw [hg]; exact Nat.ne_of_gt (IsS89.lt (show IsS89 w _ g198 t195 t196 t197 from by repeat (first | (with_reducible first | exact HI198.out | apply IsS89.alloc | apply IsS89.drewN | apply IsS89.drew | apply IsS89.set_0 | apply IsS89.set_1 | apply IsS89.set_2) | exact HI198.out))) : gb205 ≠ g198)); clear HI198; clear HB; have HI198 := n0_; have HB := n1_; have BK205 := n2_; have GW205 := n3_; have GE205 := n4_; have NB198_205 := n5_; have NB205_198 := n6_; clear n0_ n1_ n2_ n3_ n4_ n5_ n6_; clear hb hbox hg; have hnb11 := NB205_198.out; have hnc11 := NB198_205.out; have hcz12_0 : w10.cell? ⟨gb205, 0, none⟩ = some (.int .i64 0) := (blk_cell BK205.out 0).trans rfl; have hcz12_1 : w10.cell? ⟨gb205, 1, none⟩ = some (.int .i64 0) := (blk_cell BK205.out 1).trans rfl; have hcz12_2 : w10.cell? ⟨gb205, 2, none⟩ = some (.int .i64 0) := (blk_cell BK205.out 2).trans rfl; have hcz12_3 : w10.cell? ⟨gb205, 3, none⟩ = some (.int .i64 0) := (blk_cell BK205.out 3).trans rfl; have hfz12_0 := blk_frozen BK205.out 0; have hfz12_1 := blk_frozen BK205.out 1; have hfz12_2 := blk_frozen BK205.out 2; have hfz12_3 := blk_frozen BK205.out 3))
    go_loopg [9] k (fun kq v9 w' => ∃ (x9_1 : Int) (x199000_1 : Int) (x199001_1 : Int) (x199002_1 : Int) (x206000_1 : Int) (x206001_1 : Int) (x206002_1 : Int) (x206003_1 : Int), v9 = .int .i64 x9_1 ∧ Aside0 (monocoquelaw32_LifeActs.l0 kq l1 x9_1 x199000_1 x199001_1 x199002_1 x206000_1 x206001_1 x206002_1 x206003_1 = some r) ∧ Aside0 (kq ≤ k) ∧ Aside0 (w'.heap[gb205]? = some (.cells #[.int .i64 x206000_1, .int .i64 x206001_1, .int .i64 x206002_1, .int .i64 x206003_1] 69 (0, 0))) ∧ Aside0 (IsS89 w w' g198 x199000_1 x199001_1 x199002_1) ∧ Aside0 (Below w.heap.size w w'))
    case atStart => exact ⟨(0), (t195), (t196), (t197), (t201), (t202), (t203), (t204), (by first | rfl | (simp; done) | (simp [*]; done)), H', ⟨Nat.le_refl _⟩, ⟨by (with_reducible repeat (first | refine blk_drewN ?_ _ | refine blk_drew ?_ | refine blk_alloc ?_ _)); refine blk_put (cs := #[.int .i64 t201, .int .i64 t202, .int .i64 t203, .int .i64 0]) ?_ 3 _ rfl; (with_reducible repeat (first | refine blk_drewN ?_ _ | refine blk_drew ?_ | refine blk_alloc ?_ _)); refine blk_put (cs := #[.int .i64 t201, .int .i64 t202, .int .i64 0, .int .i64 0]) ?_ 2 _ rfl; (with_reducible repeat (first | refine blk_drewN ?_ _ | refine blk_drew ?_ | refine blk_alloc ?_ _)); refine blk_put (cs := #[.int .i64 t201, .int .i64 0, .int .i64 0, .int .i64 0]) ?_ 1 _ rfl; (with_reducible repeat (first | refine blk_drewN ?_ _ | refine blk_drew ?_ | refine blk_alloc ?_ _)); refine blk_put (cs := #[.int .i64 0, .int .i64 0, .int .i64 0, .int .i64 0]) ?_ 0 _ rfl; (with_reducible repeat (first | refine blk_drewN ?_ _ | refine blk_drew ?_ | refine blk_alloc ?_ _)); exact BK205.out⟩, ⟨by repeat (first | (with_reducible first | exact HI198.out | apply IsS89.alloc | apply IsS89.drewN | apply IsS89.drew | apply IsS89.set_0 | apply IsS89.set_1 | apply IsS89.set_2 | refine IsS89.far ?_ NB198_205.out _) | exact HI198.out)⟩, ⟨by repeat (first | (with_reducible first | exact HB.out | apply below_alloc | apply pw_below_drewN | apply below_drew1 | refine below_set ?_ (IsS89.ge HI198.out) | refine below_set ?_ GE205.out) | exact HB.out)⟩⟩
    case round =>
      clear H'
      try clear c1
      try clear c2
      try clear p2
      try clear c3
      try clear c5
      try clear p6
      try clear c11
      try clear hcz12_0
      try clear hcz12_1
      try clear hcz12_2
      try clear hcz12_3
      try clear hfz12_0
      try clear hfz12_1
      try clear hfz12_2
      try clear hfz12_3
      obtain ⟨x9_1, x199000_1, x199001_1, x199002_1, x206000_1, x206001_1, x206002_1, x206003_1, rfl, HA, HK1, BK205, HI198, HB⟩ := hrel
      cases gk with
      | zero => exact absurd HA.out (by simp [monocoquelaw32_LifeActs.l0])
      | succ k1 =>
        have H := HA.out
        clear HA
        simp only [monocoquelaw32_LifeActs.l0] at H
        have HC13 := Aside0.mk H
        clear H
        go_upto_region 7 with (fail)
        go_cut [36] (fun v36 wc => ∃ (kq : Nat) (x36_12 : Bool), v36 = .bool x36_12 ∧ Aside0 (monocoquelaw32_LifeActs.j1 kq l1 x9_1 x36_12 x199000_1 x199001_1 x199002_1 x206000_1 x206001_1 x206002_1 x206003_1 = some r) ∧ Aside0 (kq ≤ k1) ∧ Aside0 (wc.heap[gb205]? = some (.cells #[.int .i64 x206000_1, .int .i64 x206001_1, .int .i64 x206002_1, .int .i64 x206003_1] 69 (0, 0))) ∧ Aside0 (IsS89 w wc g198 x199000_1 x199001_1 x199002_1) ∧ Aside0 (Below w.heap.size w wc))
        case first =>
          have H := HC13.out
          clear HC13
          by_cases c14 : x9_1 < (l1.length : Int)
          · rw [if_pos c14] at H
            have c14b0 : decide (x9_1 < (l1.length : Int)) = true := decide_eq_true c14
            clear c14
            (first | rw [c14b0] | (simp only [i64_w, i32_w]; rw [c14b0]) | skip)
            have H' := Aside0.mk H
            clear H
            go_wp2
            go_meet
            case rel => exact ⟨_, (decide (x9_1 < 150)), (by first | rfl | (simp; done) | (simp [*]; done)), H', ⟨by have := HK1.out; first | omega | exact Nat.le_refl _⟩, ⟨by (with_reducible repeat (first | refine blk_drewN ?_ _ | refine blk_drew ?_ | refine blk_alloc ?_ _)); exact BK205.out⟩, ⟨by repeat (first | (with_reducible first | exact HI198.out | apply IsS89.alloc | apply IsS89.drewN | apply IsS89.drew | apply IsS89.set_0 | apply IsS89.set_1 | apply IsS89.set_2 | refine IsS89.far ?_ NB198_205.out _) | exact HI198.out)⟩, ⟨by repeat (first | (with_reducible first | exact HB.out | apply below_alloc | apply pw_below_drewN | apply below_drew1 | refine below_set ?_ (IsS89.ge HI198.out) | refine below_set ?_ GE205.out) | exact HB.out)⟩⟩
          · rw [if_neg c14] at H
            have c14b0 : decide (x9_1 < (l1.length : Int)) = false := decide_eq_false c14
            clear c14
            (first | rw [c14b0] | (simp only [i64_w, i32_w]; rw [c14b0]) | skip)
            have H' := Aside0.mk H
            clear H
            go_wp2
            go_meet
            case rel => exact ⟨_, (false), (by first | rfl | (simp; done) | (simp [*]; done)), H', ⟨by have := HK1.out; first | omega | exact Nat.le_refl _⟩, ⟨by (with_reducible repeat (first | refine blk_drewN ?_ _ | refine blk_drew ?_ | refine blk_alloc ?_ _)); exact BK205.out⟩, ⟨by repeat (first | (with_reducible first | exact HI198.out | apply IsS89.alloc | apply IsS89.drewN | apply IsS89.drew | apply IsS89.set_0 | apply IsS89.set_1 | apply IsS89.set_2 | refine IsS89.far ?_ NB198_205.out _) | exact HI198.out)⟩, ⟨by repeat (first | (with_reducible first | exact HB.out | apply below_alloc | apply pw_below_drewN | apply below_drew1 | refine below_set ?_ (IsS89.ge HI198.out) | refine below_set ?_ GE205.out) | exact HB.out)⟩⟩
        case rest =>
          clear HC13
          try clear c1
          try clear c2
          try clear p2
          try clear c3
          try clear c5
          try clear p6
          try clear c11
          try clear c14
          try clear c14b0
          try clear hcz12_0
          try clear hcz12_1
          try clear hcz12_2
          try clear hcz12_3
          try clear hfz12_0
          try clear hfz12_1
          try clear hfz12_2
          try clear hfz12_3
          try clear p2
          try clear p6
          obtain ⟨kq, x36_12, rfl, HA, HJ12, BK205, HI198, HB⟩ := hcut
          cases kq with
          | zero => exact absurd HA.out (by simp [monocoquelaw32_LifeActs.j1])
          | succ kj12 =>
            have H := HA.out
            clear HA
            simp only [monocoquelaw32_LifeActs.j1] at H
            by_cases c15 : x36_12 = true
            · subst c15
              have H1 : (if 0 ≤ x9_1 then (if x9_1 < (l1.length : Int) then ((monocoquelaw32_do.f kj12 x199000_1 x199001_1 x199002_1 x206000_1 x206001_1 x206002_1 x206003_1 (rd l1 x9_1)).bind fun bt211 => (if bt211.2.2.2.2.1 = true then ((monocoquelaw32_same.f bt211.2.2.2.2.2.1 bt211.2.2.2.2.2.2.1 bt211.2.2.2.2.2.2.2 bt211.1 bt211.2.1 bt211.2.2.1 bt211.2.2.2.1).bind fun bt220 => (if bt220.1 = true then (monocoquelaw32_LifeActs.l0 kj12 l1 (wrap64 (x9_1 + 1)) bt220.2.1 bt220.2.2.1 bt220.2.2.2 bt211.1 bt211.2.1 bt211.2.2.1 bt211.2.2.2.1) else (some false))) else (some false))) else (none)) else (none)) = some r := by rw [if_pos rfl] at H; exact H
              clear H
              have H := H1
              clear H1
              by_cases c16 : 0 ≤ x9_1
              · rw [if_pos c16] at H
                have c16b0 : decide (0 ≤ x9_1) = true := decide_eq_true c16
                clear c16
                by_cases c17 : x9_1 < (l1.length : Int)
                · rw [if_pos c17] at H
                  have c17b0 : decide (x9_1 < (l1.length : Int)) = true := decide_eq_true c17
                  clear c17
                  replace H := Option.bind_eq_some_iff.mp H
                  obtain ⟨⟨t211, t212, t213, t214, t215, t216, t217, t218⟩, A180, H⟩ := H
                  replace H : (if t215 = true then ((monocoquelaw32_same.f t216 t217 t218 t211 t212 t213 t214).bind fun bt220 => (if bt220.1 = true then (monocoquelaw32_LifeActs.l0 kj12 l1 (wrap64 (x9_1 + 1)) bt220.2.1 bt220.2.2.1 bt220.2.2.2 t211 t212 t213 t214) else (some false))) else (some false)) = some r := H
                  have A18 := Aside0.mk A180
                  clear A180
                  by_cases c19 : t215 = true
                  · subst c19
                    have H1 : ((monocoquelaw32_same.f t216 t217 t218 t211 t212 t213 t214).bind fun bt220 => (if bt220.1 = true then (monocoquelaw32_LifeActs.l0 kj12 l1 (wrap64 (x9_1 + 1)) bt220.2.1 bt220.2.2.1 bt220.2.2.2 t211 t212 t213 t214) else (some false))) = some r := by rw [if_pos rfl] at H; exact H
                    clear H
                    have H := H1
                    clear H1
                    replace H := Option.bind_eq_some_iff.mp H
                    obtain ⟨⟨t220, t221, t222, t223⟩, A200, H⟩ := H
                    replace H : (if t220 = true then (monocoquelaw32_LifeActs.l0 kj12 l1 (wrap64 (x9_1 + 1)) t221 t222 t223 t211 t212 t213 t214) else (some false)) = some r := H
                    have A20 := Aside0.mk A200
                    clear A200
                    by_cases c21 : t220 = true
                    · subst c21
                      have H1 : (monocoquelaw32_LifeActs.l0 kj12 l1 (wrap64 (x9_1 + 1)) t221 t222 t223 t211 t212 t213 t214) = some r := by rw [if_pos rfl] at H; exact H
                      clear H
                      have H := H1
                      clear H1
                      have H' := Aside0.mk H
                      clear H
                      try go_wp2
                      have n0_ := Aside0.mk (blk_drew BK205.out)
                      have n1_ := Aside0.mk (IsS89.drew HI198.out)
                      have n2_ := Aside0.mk (below_drew1 HB.out)
                      clear BK205
                      clear HI198
                      clear HB
                      have BK205 := n0_
                      have HI198 := n1_
                      have HB := n2_
                      clear n0_ n1_ n2_
                      have p210 : 0 ≤ (x9_1 : Int) := of_decide_eq_true (by first | (with_reducible assumption) | assumption)
                      have q210 : x9_1 < (l1.length : Int) := of_decide_eq_true (by first | (with_reducible assumption) | assumption)
                      obtain ⟨ad210, e210, hx210_0⟩ := Kd.at_int HR1.out x9_1 p210 q210
                      have hw210_0 := hx210_0
                      cases e210
                      replace hx210_0 := (HB.out.cell (World.block_lt_of_cell? w _ hx210_0)).trans hx210_0
                      replace p210 := eq_true p210
                      replace q210 := eq_true q210
                      refine start_ (n := 13) (S := fun w' => w'.cell? ⟨gb205, 0, none⟩ = some (.int .i64 x206000_1) ∧ w'.cell? ⟨gb205, 1, none⟩ = some (.int .i64 x206001_1) ∧ w'.cell? ⟨gb205, 2, none⟩ = some (.int .i64 x206002_1) ∧ w'.cell? ⟨gb205, 3, none⟩ = some (.int .i64 x206003_1) ∧ w'.cell? (ad210.add (x9_1).toNat) = some (.int .i64 (rd l1 x9_1))) (ds := []) #[false, false, false, false, false, false, false, false, false, false, false, false, false] (by kernel_rfl) rfl rfl ⟨(blk_cell BK205.out 0).trans rfl, (blk_cell BK205.out 1).trans rfl, (blk_cell BK205.out 2).trans rfl, (blk_cell BK205.out 3).trans rfl, ((HB.out.cell (World.block_lt_of_cell? w _ hw210_0)).trans hw210_0)⟩ (fun hHeld => ?_); refine with_tabW monocoquelaw32_LifeActs.tab9 monocoquelaw32_LifeActs.bits9 (fun HT_ HW_ => ?_)
                      generalize wc.drew = w22 at BK205 HI198 HB hx210_0 hHeld ⊢
                      refine pure_ (i := 0) (N := some 40) (v := ?_) (a' := ?_) #[true, false, false, false, false, false, false, false, false, false, false, false, false] rfl rfl (any_of HT_.out (by kernel_rfl)) (fun _ _ _ h => h) (Or.inl ⟨by rfl, ?_⟩) ?_ ?_
                      rotate_left
                      · intro w'
                        go_simp
                        with_reducible rfl
                      rotate_left
                      · simp only [Act.put, List.setIfInBounds_toArray, List.set_cons_zero, List.set_cons_succ, i64_w, i32_w]
                        rfl
                      refine pure_ (i := 2) (N := some 42) (v := ?_) (a' := ?_) #[true, false, true, false, false, false, false, false, false, false, false, false, false] rfl rfl (any_of HT_.out (by kernel_rfl)) (fun _ _ _ h => h) (Or.inl ⟨by rfl, ?_⟩) ?_ ?_
                      rotate_left
                      · intro w'
                        go_simp
                        with_reducible rfl
                      rotate_left
                      · simp only [Act.put, List.setIfInBounds_toArray, List.set_cons_zero, List.set_cons_succ, i64_w, i32_w]
                        rfl
                      refine pure_ (i := 3) (N := some 43) (v := ?_) (a' := ?_) #[true, false, true, true, false, false, false, false, false, false, false, false, false] rfl rfl (any_of HT_.out (by kernel_rfl)) (fun _ _ _ h => h) (Or.inl ⟨by rfl, ?_⟩) ?_ ?_
                      rotate_left
                      · intro w'
                        go_simp
                        with_reducible rfl
                      rotate_left
                      · simp only [Act.put, List.setIfInBounds_toArray, List.set_cons_zero, List.set_cons_succ, i64_w, i32_w]
                        rfl
                      refine pure_ (i := 4) (N := some 44) (v := ?_) (a' := ?_) #[true, false, true, true, true, false, false, false, false, false, false, false, false] rfl rfl (any_of HT_.out (by kernel_rfl)) (fun _ _ _ h => h) (Or.inl ⟨by rfl, ?_⟩) ?_ ?_
                      rotate_left
                      · intro w'
                        go_simp
                        with_reducible rfl
                      rotate_left
                      · simp only [Act.put, List.setIfInBounds_toArray, List.set_cons_zero, List.set_cons_succ, i64_w, i32_w]
                        rfl
                      refine take_ (i := 1) (N := some 41) (v := ?_) (a' := ?_) #[true, true, true, true, true, false, false, false, false, false, false, false, false] rfl rfl (take_ofW HT_.out HW_.out (by kernel_rfl)) (fun _ _ _ h => h) (Or.inl ⟨by rfl, ?_⟩) hHeld ?_ ?_
                      rotate_left
                      · rintro w' ⟨s0, s1, s2, s3, s4⟩
                        go_simp
                        with_reducible rfl
                      rotate_left
                      · simp only [Act.put, List.setIfInBounds_toArray, List.set_cons_zero, List.set_cons_succ, i64_w, i32_w]
                        rfl
                      refine take_ (i := 5) (N := some 45) (v := ?_) (a' := ?_) #[true, true, true, true, true, true, false, false, false, false, false, false, false] rfl rfl (take_ofW HT_.out HW_.out (by kernel_rfl)) (fun _ _ _ h => h) (Or.inl ⟨by rfl, ?_⟩) hHeld ?_ ?_
                      rotate_left
                      · rintro w' ⟨s0, s1, s2, s3, s4⟩
                        go_simp
                        with_reducible rfl
                      rotate_left
                      · simp only [Act.put, List.setIfInBounds_toArray, List.set_cons_zero, List.set_cons_succ, i64_w, i32_w]
                        rfl
                      refine join_ (σ := Nat) 2 #[true, true, true, true, true, true, true, true, true, true, true, false, false] (fun s_ => [(46, .tuple #[.agg #[.int .i64 t211, .int .i64 t212, .int .i64 t213, .int .i64 t214], .bool true]), (10, .pointer (some ⟨s_, 0, none⟩)), (39, .tuple #[.agg #[.int .i64 t211, .int .i64 t212, .int .i64 t213, .int .i64 t214], .bool true]), (47, .agg #[.int .i64 t211, .int .i64 t212, .int .i64 t213, .int .i64 t214]), (48, .bool true)]) (fun s_ w' => (w'.cell? ⟨gb205, 0, none⟩ = some (.int .i64 x206000_1) ∧ w'.cell? ⟨gb205, 1, none⟩ = some (.int .i64 x206001_1) ∧ w'.cell? ⟨gb205, 2, none⟩ = some (.int .i64 x206002_1) ∧ w'.cell? ⟨gb205, 3, none⟩ = some (.int .i64 x206003_1) ∧ w'.cell? (ad210.add (x9_1).toNat) = some (.int .i64 (rd l1 x9_1))) ∧ (w'.heap[gb205]? = some (.cells #[.int .i64 x206000_1, .int .i64 x206001_1, .int .i64 x206002_1, .int .i64 x206003_1] 69 (0, 0))) ∧ (w'.heap[s_]? = some (.cells #[.int .i64 0, .int .i64 0, .int .i64 0, .int .i64 0] 69 (0, 0))) ∧ (w.heap.size ≤ s_) ∧ (w.heap.size ≤ s_) ∧ (g198 ≠ s_) ∧ (s_ ≠ g198) ∧ (gb205 ≠ s_) ∧ (s_ ≠ gb205) ∧ (IsS89 w w' g198 t216 t217 t218) ∧ (Below w.heap.size w w')) ?_ ?_
                      rotate_left
                      · intro hCont
                        refine two_ (i := 6) (j := 10) (Ni := some 46) (Nj := some 10) #[true, true, true, true, true, true, true, false, false, false, false, false, false] #[true, true, true, true, true, true, false, false, false, false, true, false, false] rfl rfl rfl rfl (two_of HT_.out (by kernel_rfl)) (by decide) (by decide) (fun K hK => ?_) (fun K hK => ?_)
                        · skip
                          refine goes_ Try.func37 (by kernel_rfl) rfl #[.pointer (some ⟨g198, 0, none⟩), .agg #[.int .i64 x206000_1, .int .i64 x206001_1, .int .i64 x206002_1, .int .i64 x206003_1], .int .i64 (rd l1 x9_1)] (by rfl) rfl rfl (by (try simp only [List.map_toArray, List.map_cons, List.map_nil]); first | done | rfl | (simp only [List.length_drop, List.length_take]; rfl)) ?_
                          with_reducible refine (monocoquelaw32_do.calls kj12 g198 x199000_1 x199001_1 x199002_1 x206000_1 x206001_1 x206002_1 x206003_1 (rd l1 x9_1) t211 t212 t213 t214 true t216 t217 t218 w _ ?side1 ?side2 A18.out).mono ?_
                          (case side1 => repeat (first | (with_reducible first | exact HI198.out | apply IsS89.alloc | apply IsS89.drewN | apply IsS89.drew | apply IsS89.set_0 | apply IsS89.set_1 | apply IsS89.set_2 | refine IsS89.far ?_ NB198_205.out _) | exact HI198.out))
                          (case side2 => repeat (first | (with_reducible first | exact HB.out | apply below_alloc | apply pw_below_drewN | apply below_drew1 | refine below_set ?_ (IsS89.ge HI198.out) | refine below_set ?_ GE205.out) | exact HB.out))
                          rintro e w23 ⟨rfl, hi, hb, hk⟩
                          refine ⟨_, rfl, ?_⟩
                          have n0_ := Aside0.mk (KeepBut.blk hk (g' := gb205) (o := .cells #[.int .i64 x206000_1, .int .i64 x206001_1, .int .i64 x206002_1, .int .i64 x206003_1] 69 (0, 0)) (by (with_reducible repeat (first | refine blk_drewN ?_ _ | refine blk_drew ?_ | refine blk_alloc ?_ _)); exact BK205.out) NB205_198.out (by simp))
                          have n1_ := Aside0.mk (hb)
                          have n2_ := Aside0.mk (hi)
                          clear BK205
                          clear HB
                          clear HI198
                          have BK205 := n0_
                          have HB := n1_
                          have HI198 := n2_
                          clear n0_ n1_ n2_
                          (try clear hb)
                          (try clear hb2)
                          (try clear hk)
                          (try clear hi)
                          refine hK.out _ _ ⟨(blk_cell BK205.out 0).trans rfl, (blk_cell BK205.out 1).trans rfl, (blk_cell BK205.out 2).trans rfl, (blk_cell BK205.out 3).trans rfl, ((HB.out.cell (World.block_lt_of_cell? w _ hw210_0)).trans hw210_0)⟩ (fun hHeld => ?_)
                          clear hK K
                          refine norm_ (a' := ?_) ?_ ?_
                          rotate_left
                          · show Act.put _ (some 46) _ = _
                            simp only [Act.put, List.setIfInBounds_toArray, List.set_cons_zero, List.set_cons_succ, i64_w, i32_w]
                            rfl
                          refine pure_ (i := 7) (N := some 39) (v := ?_) (a' := ?_) #[true, true, true, true, true, true, true, true, false, false, false, false, false] rfl rfl (any_of HT_.out (by kernel_rfl)) (fun _ _ _ h => h) (Or.inl ⟨by rfl, ?_⟩) ?_ ?_
                          rotate_left
                          · intro w'
                            go_simp
                            with_reducible rfl
                          rotate_left
                          · simp only [Act.put, List.setIfInBounds_toArray, List.set_cons_zero, List.set_cons_succ, i64_w, i32_w]
                            rfl
                          refine pure_ (i := 8) (N := some 47) (v := ?_) (a' := ?_) #[true, true, true, true, true, true, true, true, true, false, false, false, false] rfl rfl (any_of HT_.out (by kernel_rfl)) (fun _ _ _ h => h) (Or.inl ⟨by rfl, ?_⟩) ?_ ?_
                          rotate_left
                          · intro w'
                            go_simp
                            with_reducible rfl
                          rotate_left
                          · simp only [Act.put, List.setIfInBounds_toArray, List.set_cons_zero, List.set_cons_succ, i64_w, i32_w]
                            rfl
                          refine pure_ (i := 9) (N := some 48) (v := ?_) (a' := ?_) #[true, true, true, true, true, true, true, true, true, true, false, false, false] rfl rfl (any_of HT_.out (by kernel_rfl)) (fun _ _ _ h => h) (Or.inl ⟨by rfl, ?_⟩) ?_ ?_
                          rotate_left
                          · intro w'
                            go_simp
                            with_reducible rfl
                          rotate_left
                          · simp only [Act.put, List.setIfInBounds_toArray, List.set_cons_zero, List.set_cons_succ, i64_w, i32_w]
                            rfl
                          refine one_ (i := 10) (N := some 10) #[true, true, true, true, true, true, true, true, true, true, true, false, false] rfl rfl (one_of HT_.out (by kernel_rfl)) (by decide) (fun K hK => ?_)
                          refine box_step ?hg (N := 10) ?hd (cs := #[.int .i64 0, .int .i64 0, .int .i64 0, .int .i64 0]) (t := 69) ?hr ?_; (case hd => rfl); (case hg => rfl); (case hr => first | (go_simp; done) | (go_simp; rfl))
                          intro gb219 hg w24 hbox hb
                          have n0_ := Aside0.mk (blk_below (g := gb205) (o := .cells #[.int .i64 x206000_1, .int .i64 x206001_1, .int .i64 x206002_1, .int .i64 x206003_1] 69 (0, 0)) (by (with_reducible repeat (first | refine blk_drewN ?_ _ | refine blk_drew ?_ | refine blk_alloc ?_ _)); exact BK205.out) hb)
                          have n1_ := Aside0.mk (IsS89.below (by repeat (first | (with_reducible first | exact HI198.out | apply IsS89.alloc | apply IsS89.drewN | apply IsS89.drew | apply IsS89.set_0 | apply IsS89.set_1 | apply IsS89.set_2 | refine IsS89.far ?_ NB198_205.out _) | exact HI198.out)) hb)
                          have n2_ := Aside0.mk (below_step (by repeat (first | (with_reducible first | exact HB.out | apply below_alloc | apply pw_below_drewN | apply below_drew1 | refine below_set ?_ (IsS89.ge HI198.out) | refine below_set ?_ GE205.out) | exact HB.out)) hb)
                          have n3_ := Aside0.mk (hbox)
                          have n4_ := Aside0.mk ((by rw [hg]; exact (below_size (by repeat (first | (with_reducible first | exact HB.out | apply below_alloc | apply pw_below_drewN | apply below_drew1 | refine below_set ?_ (IsS89.ge HI198.out) | refine below_set ?_ GE205.out) | exact HB.out))) : w.heap.size ≤ gb219))
                          have n5_ := Aside0.mk ((by rw [hg]; exact (below_size (by repeat (first | (with_reducible first | exact HB.out | apply below_alloc | apply pw_below_drewN | apply below_drew1 | refine below_set ?_ (IsS89.ge HI198.out) | refine below_set ?_ GE205.out) | exact HB.out))) : w.heap.size ≤ gb219))
                          have n6_ := Aside0.mk ((by rw [hg]; exact Nat.ne_of_lt (blk_lt (g := gb205) (o := .cells #[.int .i64 x206000_1, .int .i64 x206001_1, .int .i64 x206002_1, .int .i64 x206003_1] 69 (0, 0)) (by (with_reducible repeat (first | refine blk_drewN ?_ _ | refine blk_drew ?_ | refine blk_alloc ?_ _)); exact BK205.out)) : gb205 ≠ gb219))
                          have n7_ := Aside0.mk ((by rw [hg]; exact Nat.ne_of_gt (blk_lt (g := gb205) (o := .cells #[.int .i64 x206000_1, .int .i64 x206001_1, .int .i64 x206002_1, .int .i64 x206003_1] 69 (0, 0)) (by (with_reducible repeat (first | refine blk_drewN ?_ _ | refine blk_drew ?_ | refine blk_alloc ?_ _)); exact BK205.out)) : gb219 ≠ gb205))
                          have n8_ := Aside0.mk ((by rw [hg]; exact Nat.ne_of_lt (IsS89.lt (show IsS89 w _ g198 t216 t217 t218 from by repeat (first | (with_reducible first | exact HI198.out | apply IsS89.alloc | apply IsS89.drewN | apply IsS89.drew | apply IsS89.set_0 | apply IsS89.set_1 | apply IsS89.set_2 | refine IsS89.far ?_ NB198_205.out _) | exact HI198.out))) : g198 ≠ gb219))
                          have n9_ := Aside0.mk ((by rw [hg]; exact Nat.ne_of_gt (IsS89.lt (show IsS89 w _ g198 t216 t217 t218 from by repeat (first | (with_reducible first | exact HI198.out | apply IsS89.alloc | apply IsS89.drewN | apply IsS89.drew | apply IsS89.set_0 | apply IsS89.set_1 | apply IsS89.set_2 | refine IsS89.far ?_ NB198_205.out _) | exact HI198.out))) : gb219 ≠ g198))
                          clear BK205
                          clear HI198
                          clear HB
                          have BK205 := n0_
                          have HI198 := n1_
                          have HB := n2_
                          have BK219 := n3_
                          have GW219 := n4_
                          have GE219 := n5_
                          have NB205_219 := n6_
                          have NB219_205 := n7_
                          have NB198_219 := n8_
                          have NB219_198 := n9_
                          clear n0_ n1_ n2_ n3_ n4_ n5_ n6_ n7_ n8_ n9_
                          clear hb hbox hg
                          refine hK.out _ _ ⟨(blk_cell BK205.out 0).trans rfl, (blk_cell BK205.out 1).trans rfl, (blk_cell BK205.out 2).trans rfl, (blk_cell BK205.out 3).trans rfl, ((HB.out.cell (World.block_lt_of_cell? w _ hw210_0)).trans hw210_0)⟩ (fun hHeld => ?_)
                          clear hK K
                          refine norm_ (a' := ?_) ?_ ?_
                          rotate_left
                          · show Act.put _ (some 10) _ = _
                            simp only [Act.put, List.setIfInBounds_toArray, List.set_cons_zero, List.set_cons_succ, i64_w, i32_w]
                            rfl
                          exact norm_ (by simp only [putAll, Act.put, List.setIfInBounds_toArray, List.set_cons_zero, List.set_cons_succ]) (hCont (gb219) _ ⟨hHeld, (by (with_reducible repeat (first | refine blk_drewN ?_ _ | refine blk_drew ?_ | refine blk_alloc ?_ _)); exact BK205.out), (by (with_reducible repeat (first | refine blk_drewN ?_ _ | refine blk_drew ?_ | refine blk_alloc ?_ _)); exact BK219.out), GW219.out, GE219.out, NB198_219.out, NB219_198.out, NB205_219.out, NB219_205.out, (by repeat (first | (with_reducible first | exact HI198.out | apply IsS89.alloc | apply IsS89.drewN | apply IsS89.drew | apply IsS89.set_0 | apply IsS89.set_1 | apply IsS89.set_2 | refine IsS89.far ?_ NB198_205.out _ | refine IsS89.far ?_ NB198_219.out _) | exact HI198.out)), (by repeat (first | (with_reducible first | exact HB.out | apply below_alloc | apply pw_below_drewN | apply below_drew1 | refine below_set ?_ (IsS89.ge HI198.out) | refine below_set ?_ GE205.out | refine below_set ?_ GE219.out) | exact HB.out))⟩)
                        · skip
                          refine box_step ?hg (N := 10) ?hd (cs := #[.int .i64 0, .int .i64 0, .int .i64 0, .int .i64 0]) (t := 69) ?hr ?_; (case hd => rfl); (case hg => rfl); (case hr => first | (go_simp; done) | (go_simp; rfl))
                          intro gb219 hg w23 hbox hb
                          have n0_ := Aside0.mk (blk_below (g := gb205) (o := .cells #[.int .i64 x206000_1, .int .i64 x206001_1, .int .i64 x206002_1, .int .i64 x206003_1] 69 (0, 0)) (by (with_reducible repeat (first | refine blk_drewN ?_ _ | refine blk_drew ?_ | refine blk_alloc ?_ _)); exact BK205.out) hb)
                          have n1_ := Aside0.mk (IsS89.below (by repeat (first | (with_reducible first | exact HI198.out | apply IsS89.alloc | apply IsS89.drewN | apply IsS89.drew | apply IsS89.set_0 | apply IsS89.set_1 | apply IsS89.set_2 | refine IsS89.far ?_ NB198_205.out _) | exact HI198.out)) hb)
                          have n2_ := Aside0.mk (below_step (by repeat (first | (with_reducible first | exact HB.out | apply below_alloc | apply pw_below_drewN | apply below_drew1 | refine below_set ?_ (IsS89.ge HI198.out) | refine below_set ?_ GE205.out) | exact HB.out)) hb)
                          have n3_ := Aside0.mk (hbox)
                          have n4_ := Aside0.mk ((by rw [hg]; exact (below_size (by repeat (first | (with_reducible first | exact HB.out | apply below_alloc | apply pw_below_drewN | apply below_drew1 | refine below_set ?_ (IsS89.ge HI198.out) | refine below_set ?_ GE205.out) | exact HB.out))) : w.heap.size ≤ gb219))
                          have n5_ := Aside0.mk ((by rw [hg]; exact (below_size (by repeat (first | (with_reducible first | exact HB.out | apply below_alloc | apply pw_below_drewN | apply below_drew1 | refine below_set ?_ (IsS89.ge HI198.out) | refine below_set ?_ GE205.out) | exact HB.out))) : w.heap.size ≤ gb219))
                          have n6_ := Aside0.mk ((by rw [hg]; exact Nat.ne_of_lt (blk_lt (g := gb205) (o := .cells #[.int .i64 x206000_1, .int .i64 x206001_1, .int .i64 x206002_1, .int .i64 x206003_1] 69 (0, 0)) (by (with_reducible repeat (first | refine blk_drewN ?_ _ | refine blk_drew ?_ | refine blk_alloc ?_ _)); exact BK205.out)) : gb205 ≠ gb219))
                          have n7_ := Aside0.mk ((by rw [hg]; exact Nat.ne_of_gt (blk_lt (g := gb205) (o := .cells #[.int .i64 x206000_1, .int .i64 x206001_1, .int .i64 x206002_1, .int .i64 x206003_1] 69 (0, 0)) (by (with_reducible repeat (first | refine blk_drewN ?_ _ | refine blk_drew ?_ | refine blk_alloc ?_ _)); exact BK205.out)) : gb219 ≠ gb205))
                          have n8_ := Aside0.mk ((by rw [hg]; exact Nat.ne_of_lt (IsS89.lt (show IsS89 w _ g198 x199000_1 x199001_1 x199002_1 from by repeat (first | (with_reducible first | exact HI198.out | apply IsS89.alloc | apply IsS89.drewN | apply IsS89.drew | apply IsS89.set_0 | apply IsS89.set_1 | apply IsS89.set_2 | refine IsS89.far ?_ NB198_205.out _) | exact HI198.out))) : g198 ≠ gb219))
                          have n9_ := Aside0.mk ((by rw [hg]; exact Nat.ne_of_gt (IsS89.lt (show IsS89 w _ g198 x199000_1 x199001_1 x199002_1 from by repeat (first | (with_reducible first | exact HI198.out | apply IsS89.alloc | apply IsS89.drewN | apply IsS89.drew | apply IsS89.set_0 | apply IsS89.set_1 | apply IsS89.set_2 | refine IsS89.far ?_ NB198_205.out _) | exact HI198.out))) : gb219 ≠ g198))
                          clear BK205
                          clear HI198
                          clear HB
                          have BK205 := n0_
                          have HI198 := n1_
                          have HB := n2_
                          have BK219 := n3_
                          have GW219 := n4_
                          have GE219 := n5_
                          have NB205_219 := n6_
                          have NB219_205 := n7_
                          have NB198_219 := n8_
                          have NB219_198 := n9_
                          clear n0_ n1_ n2_ n3_ n4_ n5_ n6_ n7_ n8_ n9_
                          clear hb hbox hg
                          refine hK.out _ _ ⟨(blk_cell BK205.out 0).trans rfl, (blk_cell BK205.out 1).trans rfl, (blk_cell BK205.out 2).trans rfl, (blk_cell BK205.out 3).trans rfl, ((HB.out.cell (World.block_lt_of_cell? w _ hw210_0)).trans hw210_0)⟩ (fun hHeld => ?_)
                          clear hK K
                          refine norm_ (a' := ?_) ?_ ?_
                          rotate_left
                          · show Act.put _ (some 10) _ = _
                            simp only [Act.put, List.setIfInBounds_toArray, List.set_cons_zero, List.set_cons_succ, i64_w, i32_w]
                            rfl
                          refine one_ (i := 6) (N := some 46) #[true, true, true, true, true, true, true, false, false, false, true, false, false] rfl rfl (one_of HT_.out (by kernel_rfl)) (by decide) (fun K hK => ?_)
                          refine goes_ Try.func37 (by kernel_rfl) rfl #[.pointer (some ⟨g198, 0, none⟩), .agg #[.int .i64 x206000_1, .int .i64 x206001_1, .int .i64 x206002_1, .int .i64 x206003_1], .int .i64 (rd l1 x9_1)] (by rfl) rfl rfl (by (try simp only [List.map_toArray, List.map_cons, List.map_nil]); first | done | rfl | (simp only [List.length_drop, List.length_take]; rfl)) ?_
                          with_reducible refine (monocoquelaw32_do.calls kj12 g198 x199000_1 x199001_1 x199002_1 x206000_1 x206001_1 x206002_1 x206003_1 (rd l1 x9_1) t211 t212 t213 t214 true t216 t217 t218 w _ ?side1 ?side2 A18.out).mono ?_
                          (case side1 => repeat (first | (with_reducible first | exact HI198.out | apply IsS89.alloc | apply IsS89.drewN | apply IsS89.drew | apply IsS89.set_0 | apply IsS89.set_1 | apply IsS89.set_2 | refine IsS89.far ?_ NB198_205.out _ | refine IsS89.far ?_ NB198_219.out _) | exact HI198.out))
                          (case side2 => repeat (first | (with_reducible first | exact HB.out | apply below_alloc | apply pw_below_drewN | apply below_drew1 | refine below_set ?_ (IsS89.ge HI198.out) | refine below_set ?_ GE205.out | refine below_set ?_ GE219.out) | exact HB.out))
                          rintro e w24 ⟨rfl, hi, hb, hk⟩
                          refine ⟨_, rfl, ?_⟩
                          have n0_ := Aside0.mk (KeepBut.blk hk (g' := gb205) (o := .cells #[.int .i64 x206000_1, .int .i64 x206001_1, .int .i64 x206002_1, .int .i64 x206003_1] 69 (0, 0)) (by (with_reducible repeat (first | refine blk_drewN ?_ _ | refine blk_drew ?_ | refine blk_alloc ?_ _)); exact BK205.out) NB205_198.out (by simp))
                          have n1_ := Aside0.mk (KeepBut.blk hk (g' := gb219) (o := .cells #[.int .i64 0, .int .i64 0, .int .i64 0, .int .i64 0] 69 (0, 0)) (by (with_reducible repeat (first | refine blk_drewN ?_ _ | refine blk_drew ?_ | refine blk_alloc ?_ _)); exact BK219.out) NB219_198.out (by simp))
                          have n2_ := Aside0.mk (hb)
                          have n3_ := Aside0.mk (hi)
                          clear BK205
                          clear BK219
                          clear HB
                          clear HI198
                          have BK205 := n0_
                          have BK219 := n1_
                          have HB := n2_
                          have HI198 := n3_
                          clear n0_ n1_ n2_ n3_
                          (try clear hb)
                          (try clear hb2)
                          (try clear hk)
                          (try clear hi)
                          refine hK.out _ _ ⟨(blk_cell BK205.out 0).trans rfl, (blk_cell BK205.out 1).trans rfl, (blk_cell BK205.out 2).trans rfl, (blk_cell BK205.out 3).trans rfl, ((HB.out.cell (World.block_lt_of_cell? w _ hw210_0)).trans hw210_0)⟩ (fun hHeld => ?_)
                          clear hK K
                          refine norm_ (a' := ?_) ?_ ?_
                          rotate_left
                          · show Act.put _ (some 46) _ = _
                            simp only [Act.put, List.setIfInBounds_toArray, List.set_cons_zero, List.set_cons_succ, i64_w, i32_w]
                            rfl
                          refine pure_ (i := 7) (N := some 39) (v := ?_) (a' := ?_) #[true, true, true, true, true, true, true, true, false, false, true, false, false] rfl rfl (any_of HT_.out (by kernel_rfl)) (fun _ _ _ h => h) (Or.inl ⟨by rfl, ?_⟩) ?_ ?_
                          rotate_left
                          · intro w'
                            go_simp
                            with_reducible rfl
                          rotate_left
                          · simp only [Act.put, List.setIfInBounds_toArray, List.set_cons_zero, List.set_cons_succ, i64_w, i32_w]
                            rfl
                          refine pure_ (i := 8) (N := some 47) (v := ?_) (a' := ?_) #[true, true, true, true, true, true, true, true, true, false, true, false, false] rfl rfl (any_of HT_.out (by kernel_rfl)) (fun _ _ _ h => h) (Or.inl ⟨by rfl, ?_⟩) ?_ ?_
                          rotate_left
                          · intro w'
                            go_simp
                            with_reducible rfl
                          rotate_left
                          · simp only [Act.put, List.setIfInBounds_toArray, List.set_cons_zero, List.set_cons_succ, i64_w, i32_w]
                            rfl
                          refine pure_ (i := 9) (N := some 48) (v := ?_) (a' := ?_) #[true, true, true, true, true, true, true, true, true, true, true, false, false] rfl rfl (any_of HT_.out (by kernel_rfl)) (fun _ _ _ h => h) (Or.inl ⟨by rfl, ?_⟩) ?_ ?_
                          rotate_left
                          · intro w'
                            go_simp
                            with_reducible rfl
                          rotate_left
                          · simp only [Act.put, List.setIfInBounds_toArray, List.set_cons_zero, List.set_cons_succ, i64_w, i32_w]
                            rfl
                          exact norm_ (by simp only [putAll, Act.put, List.setIfInBounds_toArray, List.set_cons_zero, List.set_cons_succ]) (hCont (gb219) _ ⟨hHeld, (by (with_reducible repeat (first | refine blk_drewN ?_ _ | refine blk_drew ?_ | refine blk_alloc ?_ _)); exact BK205.out), (by (with_reducible repeat (first | refine blk_drewN ?_ _ | refine blk_drew ?_ | refine blk_alloc ?_ _)); exact BK219.out), GW219.out, GE219.out, NB198_219.out, NB219_198.out, NB205_219.out, NB219_205.out, (by repeat (first | (with_reducible first | exact HI198.out | apply IsS89.alloc | apply IsS89.drewN | apply IsS89.drew | apply IsS89.set_0 | apply IsS89.set_1 | apply IsS89.set_2 | refine IsS89.far ?_ NB198_205.out _ | refine IsS89.far ?_ NB198_219.out _) | exact HI198.out)), (by repeat (first | (with_reducible first | exact HB.out | apply below_alloc | apply pw_below_drewN | apply below_drew1 | refine below_set ?_ (IsS89.ge HI198.out) | refine below_set ?_ GE205.out | refine below_set ?_ GE219.out) | exact HB.out))⟩)
                      rintro gb219 w25 ⟨hS_, h0_, h1_, h2_, h3_, h4_, h5_, h6_, h7_, h8_, h9_⟩
                      have n0_ : Aside0 (w25.heap[gb205]? = some (.cells #[.int .i64 x206000_1, .int .i64 x206001_1, .int .i64 x206002_1, .int .i64 x206003_1] 69 (0, 0))) := ⟨h0_⟩
                      have n1_ : Aside0 (w25.heap[gb219]? = some (.cells #[.int .i64 0, .int .i64 0, .int .i64 0, .int .i64 0] 69 (0, 0))) := ⟨h1_⟩
                      have n2_ : Aside0 (w.heap.size ≤ gb219) := ⟨h2_⟩
                      have n3_ : Aside0 (w.heap.size ≤ gb219) := ⟨h3_⟩
                      have n4_ : Aside0 (g198 ≠ gb219) := ⟨h4_⟩
                      have n5_ : Aside0 (gb219 ≠ g198) := ⟨h5_⟩
                      have n6_ : Aside0 (gb205 ≠ gb219) := ⟨h6_⟩
                      have n7_ : Aside0 (gb219 ≠ gb205) := ⟨h7_⟩
                      have n8_ : Aside0 (IsS89 w w25 g198 t216 t217 t218) := ⟨h8_⟩
                      have n9_ : Aside0 (Below w.heap.size w w25) := ⟨h9_⟩
                      clear BK205
                      clear HI198
                      clear HB
                      clear h0_ h1_ h2_ h3_ h4_ h5_ h6_ h7_ h8_ h9_
                      have BK205 := n0_
                      have BK219 := n1_
                      have GW219 := n2_
                      have GE219 := n3_
                      have NB198_219 := n4_
                      have NB219_198 := n5_
                      have NB205_219 := n6_
                      have NB219_205 := n7_
                      have HI198 := n8_
                      have HB := n9_
                      clear n0_ n1_ n2_ n3_ n4_ n5_ n6_ n7_ n8_ n9_
                      have hHeld : w25.cell? ⟨gb205, 0, none⟩ = some (.int .i64 x206000_1) ∧ w25.cell? ⟨gb205, 1, none⟩ = some (.int .i64 x206001_1) ∧ w25.cell? ⟨gb205, 2, none⟩ = some (.int .i64 x206002_1) ∧ w25.cell? ⟨gb205, 3, none⟩ = some (.int .i64 x206003_1) ∧ w25.cell? (ad210.add (x9_1).toNat) = some (.int .i64 (rd l1 x9_1)) := hS_
                      refine norm_ (a' := ?_) ?_ ?_
                      rotate_left
                      · simp only [putAll, Act.put, List.setIfInBounds_toArray, List.set_cons_zero, List.set_cons_succ]
                        rfl
                      refine one_ (i := 11) (N := none) #[true, true, true, true, true, true, true, true, true, true, true, true, false] rfl rfl (one_of HT_.out (by kernel_rfl)) (by decide) (fun K hK => ?_)
                      have hs26 : w25.cell? ⟨gb219, 0, none⟩ = some (.int .i64 0) := (blk_cell BK219.out 0).trans rfl
                      have hfs26 := blk_frozen BK219.out 0
                      have hns26_0 := NB205_219.out
                      have hms26_0 := NB219_205.out
                      have hs27 : w25.cell? ⟨gb219, 1, none⟩ = some (.int .i64 0) := (blk_cell BK219.out 1).trans rfl
                      have hfs27 := blk_frozen BK219.out 1
                      have hns27_0 := NB205_219.out
                      have hms27_0 := NB219_205.out
                      have hs28 : w25.cell? ⟨gb219, 2, none⟩ = some (.int .i64 0) := (blk_cell BK219.out 2).trans rfl
                      have hfs28 := blk_frozen BK219.out 2
                      have hns28_0 := NB205_219.out
                      have hms28_0 := NB219_205.out
                      have hs29 : w25.cell? ⟨gb219, 3, none⟩ = some (.int .i64 0) := (blk_cell BK219.out 3).trans rfl
                      have hfs29 := blk_frozen BK219.out 3
                      have hns29_0 := NB205_219.out
                      have hms29_0 := NB219_205.out
                      refine skip_ (w1 := ?_) (by rfl) rfl ?_ ?_
                      rotate_left
                      · go_simp
                        rfl
                      refine hK.out _ _ ⟨((cell_far (p := ⟨gb219, _, none⟩) NB205_219.out _).trans (((cell_far (p := ⟨gb219, _, none⟩) NB205_219.out _).trans (((cell_far (p := ⟨gb219, _, none⟩) NB205_219.out _).trans (((cell_far (p := ⟨gb219, _, none⟩) NB205_219.out _).trans (hHeld.1)))))))), ((cell_far (p := ⟨gb219, _, none⟩) NB205_219.out _).trans (((cell_far (p := ⟨gb219, _, none⟩) NB205_219.out _).trans (((cell_far (p := ⟨gb219, _, none⟩) NB205_219.out _).trans (((cell_far (p := ⟨gb219, _, none⟩) NB205_219.out _).trans (hHeld.2.1)))))))), ((cell_far (p := ⟨gb219, _, none⟩) NB205_219.out _).trans (((cell_far (p := ⟨gb219, _, none⟩) NB205_219.out _).trans (((cell_far (p := ⟨gb219, _, none⟩) NB205_219.out _).trans (((cell_far (p := ⟨gb219, _, none⟩) NB205_219.out _).trans (hHeld.2.2.1)))))))), ((cell_far (p := ⟨gb219, _, none⟩) NB205_219.out _).trans (((cell_far (p := ⟨gb219, _, none⟩) NB205_219.out _).trans (((cell_far (p := ⟨gb219, _, none⟩) NB205_219.out _).trans (((cell_far (p := ⟨gb219, _, none⟩) NB205_219.out _).trans (hHeld.2.2.2.1)))))))), ((cell_far (p := ⟨gb219, _, none⟩) (by first | exact Nat.ne_of_lt (Nat.lt_of_lt_of_le (by have := World.block_lt_of_cell? _ _ hw210_0; first | rwa [add_block] at this | exact this) GW219.out) | (rw [add_block]; exact Nat.ne_of_lt (Nat.lt_of_lt_of_le (by have := World.block_lt_of_cell? _ _ hw210_0; first | rwa [add_block] at this | exact this) GW219.out)) | (show (Addr.add _ _).block ≠ _; rw [add_block]; exact Nat.ne_of_lt (Nat.lt_of_lt_of_le (by have := World.block_lt_of_cell? _ _ hw210_0; first | rwa [add_block] at this | exact this) GW219.out)) | (dsimp only; exact Nat.ne_of_lt (Nat.lt_of_lt_of_le (by have := World.block_lt_of_cell? _ _ hw210_0; first | rwa [add_block] at this | exact this) GW219.out))) _).trans (((cell_far (p := ⟨gb219, _, none⟩) (by first | exact Nat.ne_of_lt (Nat.lt_of_lt_of_le (by have := World.block_lt_of_cell? _ _ hw210_0; first | rwa [add_block] at this | exact this) GW219.out) | (rw [add_block]; exact Nat.ne_of_lt (Nat.lt_of_lt_of_le (by have := World.block_lt_of_cell? _ _ hw210_0; first | rwa [add_block] at this | exact this) GW219.out)) | (show (Addr.add _ _).block ≠ _; rw [add_block]; exact Nat.ne_of_lt (Nat.lt_of_lt_of_le (by have := World.block_lt_of_cell? _ _ hw210_0; first | rwa [add_block] at this | exact this) GW219.out)) | (dsimp only; exact Nat.ne_of_lt (Nat.lt_of_lt_of_le (by have := World.block_lt_of_cell? _ _ hw210_0; first | rwa [add_block] at this | exact this) GW219.out))) _).trans (((cell_far (p := ⟨gb219, _, none⟩) (by first | exact Nat.ne_of_lt (Nat.lt_of_lt_of_le (by have := World.block_lt_of_cell? _ _ hw210_0; first | rwa [add_block] at this | exact this) GW219.out) | (rw [add_block]; exact Nat.ne_of_lt (Nat.lt_of_lt_of_le (by have := World.block_lt_of_cell? _ _ hw210_0; first | rwa [add_block] at this | exact this) GW219.out)) | (show (Addr.add _ _).block ≠ _; rw [add_block]; exact Nat.ne_of_lt (Nat.lt_of_lt_of_le (by have := World.block_lt_of_cell? _ _ hw210_0; first | rwa [add_block] at this | exact this) GW219.out)) | (dsimp only; exact Nat.ne_of_lt (Nat.lt_of_lt_of_le (by have := World.block_lt_of_cell? _ _ hw210_0; first | rwa [add_block] at this | exact this) GW219.out))) _).trans (((cell_far (p := ⟨gb219, _, none⟩) (by first | exact Nat.ne_of_lt (Nat.lt_of_lt_of_le (by have := World.block_lt_of_cell? _ _ hw210_0; first | rwa [add_block] at this | exact this) GW219.out) | (rw [add_block]; exact Nat.ne_of_lt (Nat.lt_of_lt_of_le (by have := World.block_lt_of_cell? _ _ hw210_0; first | rwa [add_block] at this | exact this) GW219.out)) | (show (Addr.add _ _).block ≠ _; rw [add_block]; exact Nat.ne_of_lt (Nat.lt_of_lt_of_le (by have := World.block_lt_of_cell? _ _ hw210_0; first | rwa [add_block] at this | exact this) GW219.out)) | (dsimp only; exact Nat.ne_of_lt (Nat.lt_of_lt_of_le (by have := World.block_lt_of_cell? _ _ hw210_0; first | rwa [add_block] at this | exact this) GW219.out))) _).trans (hHeld.2.2.2.2))))))))⟩ (fun hHeld => ?_)
                      clear hK K
                      refine pure_ (i := 12) (N := some 11) (v := ?_) (a' := ?_) #[true, true, true, true, true, true, true, true, true, true, true, true, true] rfl rfl (any_of HT_.out (by kernel_rfl)) (fun _ _ _ h => h) (Or.inl ⟨by rfl, ?_⟩) ?_ ?_
                      rotate_left
                      · intro w'
                        go_simp
                        with_reducible rfl
                      rotate_left
                      · simp only [Act.put, List.setIfInBounds_toArray, List.set_cons_zero, List.set_cons_succ, i64_w, i32_w]
                        rfl
                      refine done_ (done_of HT_.out (by kernel_rfl)) ?_
                      have hnb30 := NB219_205.out
                      have hnc30 := NB205_219.out
                      have hnb31 := NB219_198.out
                      have hnc31 := NB198_219.out
                      have hcz32_0 : w25.cell? ⟨gb219, 0, none⟩ = some (.int .i64 0) := (blk_cell BK219.out 0).trans rfl
                      have hcz32_1 : w25.cell? ⟨gb219, 1, none⟩ = some (.int .i64 0) := (blk_cell BK219.out 1).trans rfl
                      have hcz32_2 : w25.cell? ⟨gb219, 2, none⟩ = some (.int .i64 0) := (blk_cell BK219.out 2).trans rfl
                      have hcz32_3 : w25.cell? ⟨gb219, 3, none⟩ = some (.int .i64 0) := (blk_cell BK219.out 3).trans rfl
                      have hfz32_0 := blk_frozen BK219.out 0
                      have hfz32_1 := blk_frozen BK219.out 1
                      have hfz32_2 := blk_frozen BK219.out 2
                      have hfz32_3 := blk_frozen BK219.out 3
                      have hnb33 := NB205_198.out
                      have hnc33 := NB198_205.out
                      have hcz34_0 : w25.cell? ⟨gb205, 0, none⟩ = some (.int .i64 x206000_1) := (blk_cell BK205.out 0).trans rfl
                      have hcz34_1 : w25.cell? ⟨gb205, 1, none⟩ = some (.int .i64 x206001_1) := (blk_cell BK205.out 1).trans rfl
                      have hcz34_2 : w25.cell? ⟨gb205, 2, none⟩ = some (.int .i64 x206002_1) := (blk_cell BK205.out 2).trans rfl
                      have hcz34_3 : w25.cell? ⟨gb205, 3, none⟩ = some (.int .i64 x206003_1) := (blk_cell BK205.out 3).trans rfl
                      have hfz34_0 := blk_frozen BK205.out 0
                      have hfz34_1 := blk_frozen BK205.out 1
                      have hfz34_2 := blk_frozen BK205.out 2
                      have hfz34_3 := blk_frozen BK205.out 3
                      try go_wp2_with (first | (go_at_call 38; (with_reducible refine (monocoquelaw32_same.calls g198 t216 t217 t218 t211 t212 t213 t214 true t221 t222 t223 w _ ?side1 ?side2 A20.out).mono ?_); (case side1 => repeat (first | (with_reducible first | exact HI198.out | apply IsS89.alloc | apply IsS89.drewN | apply IsS89.drew | apply IsS89.set_0 | apply IsS89.set_1 | apply IsS89.set_2 | refine IsS89.far ?_ NB198_205.out _ | refine IsS89.far ?_ NB198_219.out _) | exact HI198.out)); (case side2 => repeat (first | (with_reducible first | exact HB.out | apply below_alloc | apply pw_below_drewN | apply below_drew1 | refine below_set ?_ (IsS89.ge HI198.out) | refine below_set ?_ GE205.out | refine below_set ?_ GE219.out) | exact HB.out)); rintro e w35 ⟨rfl, hi, hb, hk⟩; have n0_ := Aside0.mk (KeepBut.blk hk (g' := gb205) (o := .cells #[.int .i64 t211, .int .i64 t212, .int .i64 t213, .int .i64 t214] 69 (0, 0)) (by (with_reducible repeat (first | refine blk_drewN ?_ _ | refine blk_drew ?_ | refine blk_alloc ?_ _)); refine blk_put (cs := #[.int .i64 t211, .int .i64 t212, .int .i64 t213, .int .i64 x206003_1]) ?_ 3 _ rfl; (with_reducible repeat (first | refine blk_drewN ?_ _ | refine blk_drew ?_ | refine blk_alloc ?_ _)); refine blk_put (cs := #[.int .i64 t211, .int .i64 t212, .int .i64 x206002_1, .int .i64 x206003_1]) ?_ 2 _ rfl; (with_reducible repeat (first | refine blk_drewN ?_ _ | refine blk_drew ?_ | refine blk_alloc ?_ _)); refine blk_put (cs := #[.int .i64 t211, .int .i64 x206001_1, .int .i64 x206002_1, .int .i64 x206003_1]) ?_ 1 _ rfl; (with_reducible repeat (first | refine blk_drewN ?_ _ | refine blk_drew ?_ | refine blk_alloc ?_ _)); refine blk_put (cs := #[.int .i64 x206000_1, .int .i64 x206001_1, .int .i64 x206002_1, .int .i64 x206003_1]) ?_ 0 _ rfl; (with_reducible repeat (first | refine blk_drewN ?_ _ | refine blk_drew ?_ | refine blk_alloc ?_ _)); refine blk_far ?_ NB205_219.out _; (with_reducible repeat (first | refine blk_drewN ?_ _ | refine blk_drew ?_ | refine blk_alloc ?_ _)); refine blk_far ?_ NB205_219.out _; (with_reducible repeat (first | refine blk_drewN ?_ _ | refine blk_drew ?_ | refine blk_alloc ?_ _)); refine blk_far ?_ NB205_219.out _; (with_reducible repeat (first | refine blk_drewN ?_ _ | refine blk_drew ?_ | refine blk_alloc ?_ _)); refine blk_far ?_ NB205_219.out _; (with_reducible repeat (first | refine blk_drewN ?_ _ | refine blk_drew ?_ | refine blk_alloc ?_ _)); exact BK205.out) NB205_198.out (by simp)); have n1_ := Aside0.mk (KeepBut.blk hk (g' := gb219) (o := .cells #[.int .i64 t211, .int .i64 t212, .int .i64 t213, .int .i64 t214] 69 (0, 0)) (by (with_reducible repeat (first | refine blk_drewN ?_ _ | refine blk_drew ?_ | refine blk_alloc ?_ _)); refine blk_far ?_ NB219_205.out _; (with_reducible repeat (first | refine blk_drewN ?_ _ | refine blk_drew ?_ | refine blk_alloc ?_ _)); refine blk_far ?_ NB219_205.out _; (with_reducible repeat (first | refine blk_drewN ?_ _ | refine blk_drew ?_ | refine blk_alloc ?_ _)); refine blk_far ?_ NB219_205.out _; (with_reducible repeat (first | refine blk_drewN ?_ _ | refine blk_drew ?_ | refine blk_alloc ?_ _)); refine blk_far ?_ NB219_205.out _; (with_reducible repeat (first | refine blk_drewN ?_ _ | refine blk_drew ?_ | refine blk_alloc ?_ _)); refine blk_put (cs := #[.int .i64 t211, .int .i64 t212, .int .i64 t213, .int .i64 0]) ?_ 3 _ rfl; (with_reducible repeat (first | refine blk_drewN ?_ _ | refine blk_drew ?_ | refine blk_alloc ?_ _)); refine blk_put (cs := #[.int .i64 t211, .int .i64 t212, .int .i64 0, .int .i64 0]) ?_ 2 _ rfl; (with_reducible repeat (first | refine blk_drewN ?_ _ | refine blk_drew ?_ | refine blk_alloc ?_ _)); refine blk_put (cs := #[.int .i64 t211, .int .i64 0, .int .i64 0, .int .i64 0]) ?_ 1 _ rfl; (with_reducible repeat (first | refine blk_drewN ?_ _ | refine blk_drew ?_ | refine blk_alloc ?_ _)); refine blk_put (cs := #[.int .i64 0, .int .i64 0, .int .i64 0, .int .i64 0]) ?_ 0 _ rfl; (with_reducible repeat (first | refine blk_drewN ?_ _ | refine blk_drew ?_ | refine blk_alloc ?_ _)); exact BK219.out) NB219_198.out (by simp)); have n2_ := Aside0.mk (hb); have n3_ := Aside0.mk (hi); clear BK205; clear BK219; clear HB; clear HI198; have BK205 := n0_; have BK219 := n1_; have HB := n2_; have HI198 := n3_; clear n0_ n1_ n2_ n3_; (try clear hb); (try clear hb2); (try clear hk); (try clear hi)))
                      go_roundg kj12
                      case measure => have := HK1.out; have := HJ12.out; omega
                      case rel => exact ⟨(wrap64 (x9_1 + 1)), (t221), (t222), (t223), (t211), (t212), (t213), (t214), (by first | rfl | (simp; done) | (simp [*]; done)), H', ⟨by have := HK1.out; have := HJ12.out; omega⟩, ⟨by (with_reducible repeat (first | refine blk_drewN ?_ _ | refine blk_drew ?_ | refine blk_alloc ?_ _)); exact BK205.out⟩, ⟨by repeat (first | (with_reducible first | exact HI198.out | apply IsS89.alloc | apply IsS89.drewN | apply IsS89.drew | apply IsS89.set_0 | apply IsS89.set_1 | apply IsS89.set_2 | refine IsS89.far ?_ NB198_205.out _ | refine IsS89.far ?_ NB198_219.out _) | exact HI198.out)⟩, ⟨by repeat (first | (with_reducible first | exact HB.out | apply below_alloc | apply pw_below_drewN | apply below_drew1 | refine below_set ?_ (IsS89.ge HI198.out) | refine below_set ?_ GE205.out | refine below_set ?_ GE219.out) | exact HB.out)⟩⟩
                    · replace c21 := Bool.eq_false_iff.mpr c21
                      subst c21
                      have H1 : (some false) = some r := by rw [if_neg (show ¬ (false = true) by decide)] at H; exact H
                      clear H
                      have H := H1
                      clear H1
                      obtain rfl := Option.some.inj H
                      try go_wp2
                      have n0_ := Aside0.mk (blk_drew BK205.out)
                      have n1_ := Aside0.mk (IsS89.drew HI198.out)
                      have n2_ := Aside0.mk (below_drew1 HB.out)
                      clear BK205
                      clear HI198
                      clear HB
                      have BK205 := n0_
                      have HI198 := n1_
                      have HB := n2_
                      clear n0_ n1_ n2_
                      have p210 : 0 ≤ (x9_1 : Int) := of_decide_eq_true (by first | (with_reducible assumption) | assumption)
                      have q210 : x9_1 < (l1.length : Int) := of_decide_eq_true (by first | (with_reducible assumption) | assumption)
                      obtain ⟨ad210, e210, hx210_0⟩ := Kd.at_int HR1.out x9_1 p210 q210
                      have hw210_0 := hx210_0
                      cases e210
                      replace hx210_0 := (HB.out.cell (World.block_lt_of_cell? w _ hx210_0)).trans hx210_0
                      replace p210 := eq_true p210
                      replace q210 := eq_true q210
                      refine start_ (n := 13) (S := fun w' => w'.cell? ⟨gb205, 0, none⟩ = some (.int .i64 x206000_1) ∧ w'.cell? ⟨gb205, 1, none⟩ = some (.int .i64 x206001_1) ∧ w'.cell? ⟨gb205, 2, none⟩ = some (.int .i64 x206002_1) ∧ w'.cell? ⟨gb205, 3, none⟩ = some (.int .i64 x206003_1) ∧ w'.cell? (ad210.add (x9_1).toNat) = some (.int .i64 (rd l1 x9_1))) (ds := []) #[false, false, false, false, false, false, false, false, false, false, false, false, false] (by kernel_rfl) rfl rfl ⟨(blk_cell BK205.out 0).trans rfl, (blk_cell BK205.out 1).trans rfl, (blk_cell BK205.out 2).trans rfl, (blk_cell BK205.out 3).trans rfl, ((HB.out.cell (World.block_lt_of_cell? w _ hw210_0)).trans hw210_0)⟩ (fun hHeld => ?_); refine with_tabW monocoquelaw32_LifeActs.tab9 monocoquelaw32_LifeActs.bits9 (fun HT_ HW_ => ?_)
                      generalize wc.drew = w36 at BK205 HI198 HB hx210_0 hHeld ⊢
                      refine pure_ (i := 0) (N := some 40) (v := ?_) (a' := ?_) #[true, false, false, false, false, false, false, false, false, false, false, false, false] rfl rfl (any_of HT_.out (by kernel_rfl)) (fun _ _ _ h => h) (Or.inl ⟨by rfl, ?_⟩) ?_ ?_
                      rotate_left
                      · intro w'
                        go_simp
                        with_reducible rfl
                      rotate_left
                      · simp only [Act.put, List.setIfInBounds_toArray, List.set_cons_zero, List.set_cons_succ, i64_w, i32_w]
                        rfl
                      refine pure_ (i := 2) (N := some 42) (v := ?_) (a' := ?_) #[true, false, true, false, false, false, false, false, false, false, false, false, false] rfl rfl (any_of HT_.out (by kernel_rfl)) (fun _ _ _ h => h) (Or.inl ⟨by rfl, ?_⟩) ?_ ?_
                      rotate_left
                      · intro w'
                        go_simp
                        with_reducible rfl
                      rotate_left
                      · simp only [Act.put, List.setIfInBounds_toArray, List.set_cons_zero, List.set_cons_succ, i64_w, i32_w]
                        rfl
                      refine pure_ (i := 3) (N := some 43) (v := ?_) (a' := ?_) #[true, false, true, true, false, false, false, false, false, false, false, false, false] rfl rfl (any_of HT_.out (by kernel_rfl)) (fun _ _ _ h => h) (Or.inl ⟨by rfl, ?_⟩) ?_ ?_
                      rotate_left
                      · intro w'
                        go_simp
                        with_reducible rfl
                      rotate_left
                      · simp only [Act.put, List.setIfInBounds_toArray, List.set_cons_zero, List.set_cons_succ, i64_w, i32_w]
                        rfl
                      refine pure_ (i := 4) (N := some 44) (v := ?_) (a' := ?_) #[true, false, true, true, true, false, false, false, false, false, false, false, false] rfl rfl (any_of HT_.out (by kernel_rfl)) (fun _ _ _ h => h) (Or.inl ⟨by rfl, ?_⟩) ?_ ?_
                      rotate_left
                      · intro w'
                        go_simp
                        with_reducible rfl
                      rotate_left
                      · simp only [Act.put, List.setIfInBounds_toArray, List.set_cons_zero, List.set_cons_succ, i64_w, i32_w]
                        rfl
                      refine take_ (i := 1) (N := some 41) (v := ?_) (a' := ?_) #[true, true, true, true, true, false, false, false, false, false, false, false, false] rfl rfl (take_ofW HT_.out HW_.out (by kernel_rfl)) (fun _ _ _ h => h) (Or.inl ⟨by rfl, ?_⟩) hHeld ?_ ?_
                      rotate_left
                      · rintro w' ⟨s0, s1, s2, s3, s4⟩
                        go_simp
                        with_reducible rfl
                      rotate_left
                      · simp only [Act.put, List.setIfInBounds_toArray, List.set_cons_zero, List.set_cons_succ, i64_w, i32_w]
                        rfl
                      refine take_ (i := 5) (N := some 45) (v := ?_) (a' := ?_) #[true, true, true, true, true, true, false, false, false, false, false, false, false] rfl rfl (take_ofW HT_.out HW_.out (by kernel_rfl)) (fun _ _ _ h => h) (Or.inl ⟨by rfl, ?_⟩) hHeld ?_ ?_
                      rotate_left
                      · rintro w' ⟨s0, s1, s2, s3, s4⟩
                        go_simp
                        with_reducible rfl
                      rotate_left
                      · simp only [Act.put, List.setIfInBounds_toArray, List.set_cons_zero, List.set_cons_succ, i64_w, i32_w]
                        rfl
                      refine join_ (σ := Nat) 2 #[true, true, true, true, true, true, true, true, true, true, true, false, false] (fun s_ => [(46, .tuple #[.agg #[.int .i64 t211, .int .i64 t212, .int .i64 t213, .int .i64 t214], .bool true]), (10, .pointer (some ⟨s_, 0, none⟩)), (39, .tuple #[.agg #[.int .i64 t211, .int .i64 t212, .int .i64 t213, .int .i64 t214], .bool true]), (47, .agg #[.int .i64 t211, .int .i64 t212, .int .i64 t213, .int .i64 t214]), (48, .bool true)]) (fun s_ w' => (w'.cell? ⟨gb205, 0, none⟩ = some (.int .i64 x206000_1) ∧ w'.cell? ⟨gb205, 1, none⟩ = some (.int .i64 x206001_1) ∧ w'.cell? ⟨gb205, 2, none⟩ = some (.int .i64 x206002_1) ∧ w'.cell? ⟨gb205, 3, none⟩ = some (.int .i64 x206003_1) ∧ w'.cell? (ad210.add (x9_1).toNat) = some (.int .i64 (rd l1 x9_1))) ∧ (w'.heap[gb205]? = some (.cells #[.int .i64 x206000_1, .int .i64 x206001_1, .int .i64 x206002_1, .int .i64 x206003_1] 69 (0, 0))) ∧ (w'.heap[s_]? = some (.cells #[.int .i64 0, .int .i64 0, .int .i64 0, .int .i64 0] 69 (0, 0))) ∧ (w.heap.size ≤ s_) ∧ (w.heap.size ≤ s_) ∧ (g198 ≠ s_) ∧ (s_ ≠ g198) ∧ (gb205 ≠ s_) ∧ (s_ ≠ gb205) ∧ (IsS89 w w' g198 t216 t217 t218) ∧ (Below w.heap.size w w')) ?_ ?_
                      rotate_left
                      · intro hCont
                        refine two_ (i := 6) (j := 10) (Ni := some 46) (Nj := some 10) #[true, true, true, true, true, true, true, false, false, false, false, false, false] #[true, true, true, true, true, true, false, false, false, false, true, false, false] rfl rfl rfl rfl (two_of HT_.out (by kernel_rfl)) (by decide) (by decide) (fun K hK => ?_) (fun K hK => ?_)
                        · skip
                          refine goes_ Try.func37 (by kernel_rfl) rfl #[.pointer (some ⟨g198, 0, none⟩), .agg #[.int .i64 x206000_1, .int .i64 x206001_1, .int .i64 x206002_1, .int .i64 x206003_1], .int .i64 (rd l1 x9_1)] (by rfl) rfl rfl (by (try simp only [List.map_toArray, List.map_cons, List.map_nil]); first | done | rfl | (simp only [List.length_drop, List.length_take]; rfl)) ?_
                          with_reducible refine (monocoquelaw32_do.calls kj12 g198 x199000_1 x199001_1 x199002_1 x206000_1 x206001_1 x206002_1 x206003_1 (rd l1 x9_1) t211 t212 t213 t214 true t216 t217 t218 w _ ?side1 ?side2 A18.out).mono ?_
                          (case side1 => repeat (first | (with_reducible first | exact HI198.out | apply IsS89.alloc | apply IsS89.drewN | apply IsS89.drew | apply IsS89.set_0 | apply IsS89.set_1 | apply IsS89.set_2 | refine IsS89.far ?_ NB198_205.out _) | exact HI198.out))
                          (case side2 => repeat (first | (with_reducible first | exact HB.out | apply below_alloc | apply pw_below_drewN | apply below_drew1 | refine below_set ?_ (IsS89.ge HI198.out) | refine below_set ?_ GE205.out) | exact HB.out))
                          rintro e w37 ⟨rfl, hi, hb, hk⟩
                          refine ⟨_, rfl, ?_⟩
                          have n0_ := Aside0.mk (KeepBut.blk hk (g' := gb205) (o := .cells #[.int .i64 x206000_1, .int .i64 x206001_1, .int .i64 x206002_1, .int .i64 x206003_1] 69 (0, 0)) (by (with_reducible repeat (first | refine blk_drewN ?_ _ | refine blk_drew ?_ | refine blk_alloc ?_ _)); exact BK205.out) NB205_198.out (by simp))
                          have n1_ := Aside0.mk (hb)
                          have n2_ := Aside0.mk (hi)
                          clear BK205
                          clear HB
                          clear HI198
                          have BK205 := n0_
                          have HB := n1_
                          have HI198 := n2_
                          clear n0_ n1_ n2_
                          (try clear hb)
                          (try clear hb2)
                          (try clear hk)
                          (try clear hi)
                          refine hK.out _ _ ⟨(blk_cell BK205.out 0).trans rfl, (blk_cell BK205.out 1).trans rfl, (blk_cell BK205.out 2).trans rfl, (blk_cell BK205.out 3).trans rfl, ((HB.out.cell (World.block_lt_of_cell? w _ hw210_0)).trans hw210_0)⟩ (fun hHeld => ?_)
                          clear hK K
                          refine norm_ (a' := ?_) ?_ ?_
                          rotate_left
                          · show Act.put _ (some 46) _ = _
                            simp only [Act.put, List.setIfInBounds_toArray, List.set_cons_zero, List.set_cons_succ, i64_w, i32_w]
                            rfl
                          refine pure_ (i := 7) (N := some 39) (v := ?_) (a' := ?_) #[true, true, true, true, true, true, true, true, false, false, false, false, false] rfl rfl (any_of HT_.out (by kernel_rfl)) (fun _ _ _ h => h) (Or.inl ⟨by rfl, ?_⟩) ?_ ?_
                          rotate_left
                          · intro w'
                            go_simp
                            with_reducible rfl
                          rotate_left
                          · simp only [Act.put, List.setIfInBounds_toArray, List.set_cons_zero, List.set_cons_succ, i64_w, i32_w]
                            rfl
                          refine pure_ (i := 8) (N := some 47) (v := ?_) (a' := ?_) #[true, true, true, true, true, true, true, true, true, false, false, false, false] rfl rfl (any_of HT_.out (by kernel_rfl)) (fun _ _ _ h => h) (Or.inl ⟨by rfl, ?_⟩) ?_ ?_
                          rotate_left
                          · intro w'
                            go_simp
                            with_reducible rfl
                          rotate_left
                          · simp only [Act.put, List.setIfInBounds_toArray, List.set_cons_zero, List.set_cons_succ, i64_w, i32_w]
                            rfl
                          refine pure_ (i := 9) (N := some 48) (v := ?_) (a' := ?_) #[true, true, true, true, true, true, true, true, true, true, false, false, false] rfl rfl (any_of HT_.out (by kernel_rfl)) (fun _ _ _ h => h) (Or.inl ⟨by rfl, ?_⟩) ?_ ?_
                          rotate_left
                          · intro w'
                            go_simp
                            with_reducible rfl
                          rotate_left
                          · simp only [Act.put, List.setIfInBounds_toArray, List.set_cons_zero, List.set_cons_succ, i64_w, i32_w]
                            rfl
                          refine one_ (i := 10) (N := some 10) #[true, true, true, true, true, true, true, true, true, true, true, false, false] rfl rfl (one_of HT_.out (by kernel_rfl)) (by decide) (fun K hK => ?_)
                          refine box_step ?hg (N := 10) ?hd (cs := #[.int .i64 0, .int .i64 0, .int .i64 0, .int .i64 0]) (t := 69) ?hr ?_; (case hd => rfl); (case hg => rfl); (case hr => first | (go_simp; done) | (go_simp; rfl))
                          intro gb219 hg w38 hbox hb
                          have n0_ := Aside0.mk (blk_below (g := gb205) (o := .cells #[.int .i64 x206000_1, .int .i64 x206001_1, .int .i64 x206002_1, .int .i64 x206003_1] 69 (0, 0)) (by (with_reducible repeat (first | refine blk_drewN ?_ _ | refine blk_drew ?_ | refine blk_alloc ?_ _)); exact BK205.out) hb)
                          have n1_ := Aside0.mk (IsS89.below (by repeat (first | (with_reducible first | exact HI198.out | apply IsS89.alloc | apply IsS89.drewN | apply IsS89.drew | apply IsS89.set_0 | apply IsS89.set_1 | apply IsS89.set_2 | refine IsS89.far ?_ NB198_205.out _) | exact HI198.out)) hb)
                          have n2_ := Aside0.mk (below_step (by repeat (first | (with_reducible first | exact HB.out | apply below_alloc | apply pw_below_drewN | apply below_drew1 | refine below_set ?_ (IsS89.ge HI198.out) | refine below_set ?_ GE205.out) | exact HB.out)) hb)
                          have n3_ := Aside0.mk (hbox)
                          have n4_ := Aside0.mk ((by rw [hg]; exact (below_size (by repeat (first | (with_reducible first | exact HB.out | apply below_alloc | apply pw_below_drewN | apply below_drew1 | refine below_set ?_ (IsS89.ge HI198.out) | refine below_set ?_ GE205.out) | exact HB.out))) : w.heap.size ≤ gb219))
                          have n5_ := Aside0.mk ((by rw [hg]; exact (below_size (by repeat (first | (with_reducible first | exact HB.out | apply below_alloc | apply pw_below_drewN | apply below_drew1 | refine below_set ?_ (IsS89.ge HI198.out) | refine below_set ?_ GE205.out) | exact HB.out))) : w.heap.size ≤ gb219))
                          have n6_ := Aside0.mk ((by rw [hg]; exact Nat.ne_of_lt (blk_lt (g := gb205) (o := .cells #[.int .i64 x206000_1, .int .i64 x206001_1, .int .i64 x206002_1, .int .i64 x206003_1] 69 (0, 0)) (by (with_reducible repeat (first | refine blk_drewN ?_ _ | refine blk_drew ?_ | refine blk_alloc ?_ _)); exact BK205.out)) : gb205 ≠ gb219))
                          have n7_ := Aside0.mk ((by rw [hg]; exact Nat.ne_of_gt (blk_lt (g := gb205) (o := .cells #[.int .i64 x206000_1, .int .i64 x206001_1, .int .i64 x206002_1, .int .i64 x206003_1] 69 (0, 0)) (by (with_reducible repeat (first | refine blk_drewN ?_ _ | refine blk_drew ?_ | refine blk_alloc ?_ _)); exact BK205.out)) : gb219 ≠ gb205))
                          have n8_ := Aside0.mk ((by rw [hg]; exact Nat.ne_of_lt (IsS89.lt (show IsS89 w _ g198 t216 t217 t218 from by repeat (first | (with_reducible first | exact HI198.out | apply IsS89.alloc | apply IsS89.drewN | apply IsS89.drew | apply IsS89.set_0 | apply IsS89.set_1 | apply IsS89.set_2 | refine IsS89.far ?_ NB198_205.out _) | exact HI198.out))) : g198 ≠ gb219))
                          have n9_ := Aside0.mk ((by rw [hg]; exact Nat.ne_of_gt (IsS89.lt (show IsS89 w _ g198 t216 t217 t218 from by repeat (first | (with_reducible first | exact HI198.out | apply IsS89.alloc | apply IsS89.drewN | apply IsS89.drew | apply IsS89.set_0 | apply IsS89.set_1 | apply IsS89.set_2 | refine IsS89.far ?_ NB198_205.out _) | exact HI198.out))) : gb219 ≠ g198))
                          clear BK205
                          clear HI198
                          clear HB
                          have BK205 := n0_
                          have HI198 := n1_
                          have HB := n2_
                          have BK219 := n3_
                          have GW219 := n4_
                          have GE219 := n5_
                          have NB205_219 := n6_
                          have NB219_205 := n7_
                          have NB198_219 := n8_
                          have NB219_198 := n9_
                          clear n0_ n1_ n2_ n3_ n4_ n5_ n6_ n7_ n8_ n9_
                          clear hb hbox hg
                          refine hK.out _ _ ⟨(blk_cell BK205.out 0).trans rfl, (blk_cell BK205.out 1).trans rfl, (blk_cell BK205.out 2).trans rfl, (blk_cell BK205.out 3).trans rfl, ((HB.out.cell (World.block_lt_of_cell? w _ hw210_0)).trans hw210_0)⟩ (fun hHeld => ?_)
                          clear hK K
                          refine norm_ (a' := ?_) ?_ ?_
                          rotate_left
                          · show Act.put _ (some 10) _ = _
                            simp only [Act.put, List.setIfInBounds_toArray, List.set_cons_zero, List.set_cons_succ, i64_w, i32_w]
                            rfl
                          exact norm_ (by simp only [putAll, Act.put, List.setIfInBounds_toArray, List.set_cons_zero, List.set_cons_succ]) (hCont (gb219) _ ⟨hHeld, (by (with_reducible repeat (first | refine blk_drewN ?_ _ | refine blk_drew ?_ | refine blk_alloc ?_ _)); exact BK205.out), (by (with_reducible repeat (first | refine blk_drewN ?_ _ | refine blk_drew ?_ | refine blk_alloc ?_ _)); exact BK219.out), GW219.out, GE219.out, NB198_219.out, NB219_198.out, NB205_219.out, NB219_205.out, (by repeat (first | (with_reducible first | exact HI198.out | apply IsS89.alloc | apply IsS89.drewN | apply IsS89.drew | apply IsS89.set_0 | apply IsS89.set_1 | apply IsS89.set_2 | refine IsS89.far ?_ NB198_205.out _ | refine IsS89.far ?_ NB198_219.out _) | exact HI198.out)), (by repeat (first | (with_reducible first | exact HB.out | apply below_alloc | apply pw_below_drewN | apply below_drew1 | refine below_set ?_ (IsS89.ge HI198.out) | refine below_set ?_ GE205.out | refine below_set ?_ GE219.out) | exact HB.out))⟩)
                        · skip
                          refine box_step ?hg (N := 10) ?hd (cs := #[.int .i64 0, .int .i64 0, .int .i64 0, .int .i64 0]) (t := 69) ?hr ?_; (case hd => rfl); (case hg => rfl); (case hr => first | (go_simp; done) | (go_simp; rfl))
                          intro gb219 hg w37 hbox hb
                          have n0_ := Aside0.mk (blk_below (g := gb205) (o := .cells #[.int .i64 x206000_1, .int .i64 x206001_1, .int .i64 x206002_1, .int .i64 x206003_1] 69 (0, 0)) (by (with_reducible repeat (first | refine blk_drewN ?_ _ | refine blk_drew ?_ | refine blk_alloc ?_ _)); exact BK205.out) hb)
                          have n1_ := Aside0.mk (IsS89.below (by repeat (first | (with_reducible first | exact HI198.out | apply IsS89.alloc | apply IsS89.drewN | apply IsS89.drew | apply IsS89.set_0 | apply IsS89.set_1 | apply IsS89.set_2 | refine IsS89.far ?_ NB198_205.out _) | exact HI198.out)) hb)
                          have n2_ := Aside0.mk (below_step (by repeat (first | (with_reducible first | exact HB.out | apply below_alloc | apply pw_below_drewN | apply below_drew1 | refine below_set ?_ (IsS89.ge HI198.out) | refine below_set ?_ GE205.out) | exact HB.out)) hb)
                          have n3_ := Aside0.mk (hbox)
                          have n4_ := Aside0.mk ((by rw [hg]; exact (below_size (by repeat (first | (with_reducible first | exact HB.out | apply below_alloc | apply pw_below_drewN | apply below_drew1 | refine below_set ?_ (IsS89.ge HI198.out) | refine below_set ?_ GE205.out) | exact HB.out))) : w.heap.size ≤ gb219))
                          have n5_ := Aside0.mk ((by rw [hg]; exact (below_size (by repeat (first | (with_reducible first | exact HB.out | apply below_alloc | apply pw_below_drewN | apply below_drew1 | refine below_set ?_ (IsS89.ge HI198.out) | refine below_set ?_ GE205.out) | exact HB.out))) : w.heap.size ≤ gb219))
                          have n6_ := Aside0.mk ((by rw [hg]; exact Nat.ne_of_lt (blk_lt (g := gb205) (o := .cells #[.int .i64 x206000_1, .int .i64 x206001_1, .int .i64 x206002_1, .int .i64 x206003_1] 69 (0, 0)) (by (with_reducible repeat (first | refine blk_drewN ?_ _ | refine blk_drew ?_ | refine blk_alloc ?_ _)); exact BK205.out)) : gb205 ≠ gb219))
                          have n7_ := Aside0.mk ((by rw [hg]; exact Nat.ne_of_gt (blk_lt (g := gb205) (o := .cells #[.int .i64 x206000_1, .int .i64 x206001_1, .int .i64 x206002_1, .int .i64 x206003_1] 69 (0, 0)) (by (with_reducible repeat (first | refine blk_drewN ?_ _ | refine blk_drew ?_ | refine blk_alloc ?_ _)); exact BK205.out)) : gb219 ≠ gb205))
                          have n8_ := Aside0.mk ((by rw [hg]; exact Nat.ne_of_lt (IsS89.lt (show IsS89 w _ g198 x199000_1 x199001_1 x199002_1 from by repeat (first | (with_reducible first | exact HI198.out | apply IsS89.alloc | apply IsS89.drewN | apply IsS89.drew | apply IsS89.set_0 | apply IsS89.set_1 | apply IsS89.set_2 | refine IsS89.far ?_ NB198_205.out _) | exact HI198.out))) : g198 ≠ gb219))
                          have n9_ := Aside0.mk ((by rw [hg]; exact Nat.ne_of_gt (IsS89.lt (show IsS89 w _ g198 x199000_1 x199001_1 x199002_1 from by repeat (first | (with_reducible first | exact HI198.out | apply IsS89.alloc | apply IsS89.drewN | apply IsS89.drew | apply IsS89.set_0 | apply IsS89.set_1 | apply IsS89.set_2 | refine IsS89.far ?_ NB198_205.out _) | exact HI198.out))) : gb219 ≠ g198))
                          clear BK205
                          clear HI198
                          clear HB
                          have BK205 := n0_
                          have HI198 := n1_
                          have HB := n2_
                          have BK219 := n3_
                          have GW219 := n4_
                          have GE219 := n5_
                          have NB205_219 := n6_
                          have NB219_205 := n7_
                          have NB198_219 := n8_
                          have NB219_198 := n9_
                          clear n0_ n1_ n2_ n3_ n4_ n5_ n6_ n7_ n8_ n9_
                          clear hb hbox hg
                          refine hK.out _ _ ⟨(blk_cell BK205.out 0).trans rfl, (blk_cell BK205.out 1).trans rfl, (blk_cell BK205.out 2).trans rfl, (blk_cell BK205.out 3).trans rfl, ((HB.out.cell (World.block_lt_of_cell? w _ hw210_0)).trans hw210_0)⟩ (fun hHeld => ?_)
                          clear hK K
                          refine norm_ (a' := ?_) ?_ ?_
                          rotate_left
                          · show Act.put _ (some 10) _ = _
                            simp only [Act.put, List.setIfInBounds_toArray, List.set_cons_zero, List.set_cons_succ, i64_w, i32_w]
                            rfl
                          refine one_ (i := 6) (N := some 46) #[true, true, true, true, true, true, true, false, false, false, true, false, false] rfl rfl (one_of HT_.out (by kernel_rfl)) (by decide) (fun K hK => ?_)
                          refine goes_ Try.func37 (by kernel_rfl) rfl #[.pointer (some ⟨g198, 0, none⟩), .agg #[.int .i64 x206000_1, .int .i64 x206001_1, .int .i64 x206002_1, .int .i64 x206003_1], .int .i64 (rd l1 x9_1)] (by rfl) rfl rfl (by (try simp only [List.map_toArray, List.map_cons, List.map_nil]); first | done | rfl | (simp only [List.length_drop, List.length_take]; rfl)) ?_
                          with_reducible refine (monocoquelaw32_do.calls kj12 g198 x199000_1 x199001_1 x199002_1 x206000_1 x206001_1 x206002_1 x206003_1 (rd l1 x9_1) t211 t212 t213 t214 true t216 t217 t218 w _ ?side1 ?side2 A18.out).mono ?_
                          (case side1 => repeat (first | (with_reducible first | exact HI198.out | apply IsS89.alloc | apply IsS89.drewN | apply IsS89.drew | apply IsS89.set_0 | apply IsS89.set_1 | apply IsS89.set_2 | refine IsS89.far ?_ NB198_205.out _ | refine IsS89.far ?_ NB198_219.out _) | exact HI198.out))
                          (case side2 => repeat (first | (with_reducible first | exact HB.out | apply below_alloc | apply pw_below_drewN | apply below_drew1 | refine below_set ?_ (IsS89.ge HI198.out) | refine below_set ?_ GE205.out | refine below_set ?_ GE219.out) | exact HB.out))
                          rintro e w38 ⟨rfl, hi, hb, hk⟩
                          refine ⟨_, rfl, ?_⟩
                          have n0_ := Aside0.mk (KeepBut.blk hk (g' := gb205) (o := .cells #[.int .i64 x206000_1, .int .i64 x206001_1, .int .i64 x206002_1, .int .i64 x206003_1] 69 (0, 0)) (by (with_reducible repeat (first | refine blk_drewN ?_ _ | refine blk_drew ?_ | refine blk_alloc ?_ _)); exact BK205.out) NB205_198.out (by simp))
                          have n1_ := Aside0.mk (KeepBut.blk hk (g' := gb219) (o := .cells #[.int .i64 0, .int .i64 0, .int .i64 0, .int .i64 0] 69 (0, 0)) (by (with_reducible repeat (first | refine blk_drewN ?_ _ | refine blk_drew ?_ | refine blk_alloc ?_ _)); exact BK219.out) NB219_198.out (by simp))
                          have n2_ := Aside0.mk (hb)
                          have n3_ := Aside0.mk (hi)
                          clear BK205
                          clear BK219
                          clear HB
                          clear HI198
                          have BK205 := n0_
                          have BK219 := n1_
                          have HB := n2_
                          have HI198 := n3_
                          clear n0_ n1_ n2_ n3_
                          (try clear hb)
                          (try clear hb2)
                          (try clear hk)
                          (try clear hi)
                          refine hK.out _ _ ⟨(blk_cell BK205.out 0).trans rfl, (blk_cell BK205.out 1).trans rfl, (blk_cell BK205.out 2).trans rfl, (blk_cell BK205.out 3).trans rfl, ((HB.out.cell (World.block_lt_of_cell? w _ hw210_0)).trans hw210_0)⟩ (fun hHeld => ?_)
                          clear hK K
                          refine norm_ (a' := ?_) ?_ ?_
                          rotate_left
                          · show Act.put _ (some 46) _ = _
                            simp only [Act.put, List.setIfInBounds_toArray, List.set_cons_zero, List.set_cons_succ, i64_w, i32_w]
                            rfl
                          refine pure_ (i := 7) (N := some 39) (v := ?_) (a' := ?_) #[true, true, true, true, true, true, true, true, false, false, true, false, false] rfl rfl (any_of HT_.out (by kernel_rfl)) (fun _ _ _ h => h) (Or.inl ⟨by rfl, ?_⟩) ?_ ?_
                          rotate_left
                          · intro w'
                            go_simp
                            with_reducible rfl
                          rotate_left
                          · simp only [Act.put, List.setIfInBounds_toArray, List.set_cons_zero, List.set_cons_succ, i64_w, i32_w]
                            rfl
                          refine pure_ (i := 8) (N := some 47) (v := ?_) (a' := ?_) #[true, true, true, true, true, true, true, true, true, false, true, false, false] rfl rfl (any_of HT_.out (by kernel_rfl)) (fun _ _ _ h => h) (Or.inl ⟨by rfl, ?_⟩) ?_ ?_
                          rotate_left
                          · intro w'
                            go_simp
                            with_reducible rfl
                          rotate_left
                          · simp only [Act.put, List.setIfInBounds_toArray, List.set_cons_zero, List.set_cons_succ, i64_w, i32_w]
                            rfl
                          refine pure_ (i := 9) (N := some 48) (v := ?_) (a' := ?_) #[true, true, true, true, true, true, true, true, true, true, true, false, false] rfl rfl (any_of HT_.out (by kernel_rfl)) (fun _ _ _ h => h) (Or.inl ⟨by rfl, ?_⟩) ?_ ?_
                          rotate_left
                          · intro w'
                            go_simp
                            with_reducible rfl
                          rotate_left
                          · simp only [Act.put, List.setIfInBounds_toArray, List.set_cons_zero, List.set_cons_succ, i64_w, i32_w]
                            rfl
                          exact norm_ (by simp only [putAll, Act.put, List.setIfInBounds_toArray, List.set_cons_zero, List.set_cons_succ]) (hCont (gb219) _ ⟨hHeld, (by (with_reducible repeat (first | refine blk_drewN ?_ _ | refine blk_drew ?_ | refine blk_alloc ?_ _)); exact BK205.out), (by (with_reducible repeat (first | refine blk_drewN ?_ _ | refine blk_drew ?_ | refine blk_alloc ?_ _)); exact BK219.out), GW219.out, GE219.out, NB198_219.out, NB219_198.out, NB205_219.out, NB219_205.out, (by repeat (first | (with_reducible first | exact HI198.out | apply IsS89.alloc | apply IsS89.drewN | apply IsS89.drew | apply IsS89.set_0 | apply IsS89.set_1 | apply IsS89.set_2 | refine IsS89.far ?_ NB198_205.out _ | refine IsS89.far ?_ NB198_219.out _) | exact HI198.out)), (by repeat (first | (with_reducible first | exact HB.out | apply below_alloc | apply pw_below_drewN | apply below_drew1 | refine below_set ?_ (IsS89.ge HI198.out) | refine below_set ?_ GE205.out | refine below_set ?_ GE219.out) | exact HB.out))⟩)
                      rintro gb219 w39 ⟨hS_, h0_, h1_, h2_, h3_, h4_, h5_, h6_, h7_, h8_, h9_⟩
                      have n0_ : Aside0 (w39.heap[gb205]? = some (.cells #[.int .i64 x206000_1, .int .i64 x206001_1, .int .i64 x206002_1, .int .i64 x206003_1] 69 (0, 0))) := ⟨h0_⟩
                      have n1_ : Aside0 (w39.heap[gb219]? = some (.cells #[.int .i64 0, .int .i64 0, .int .i64 0, .int .i64 0] 69 (0, 0))) := ⟨h1_⟩
                      have n2_ : Aside0 (w.heap.size ≤ gb219) := ⟨h2_⟩
                      have n3_ : Aside0 (w.heap.size ≤ gb219) := ⟨h3_⟩
                      have n4_ : Aside0 (g198 ≠ gb219) := ⟨h4_⟩
                      have n5_ : Aside0 (gb219 ≠ g198) := ⟨h5_⟩
                      have n6_ : Aside0 (gb205 ≠ gb219) := ⟨h6_⟩
                      have n7_ : Aside0 (gb219 ≠ gb205) := ⟨h7_⟩
                      have n8_ : Aside0 (IsS89 w w39 g198 t216 t217 t218) := ⟨h8_⟩
                      have n9_ : Aside0 (Below w.heap.size w w39) := ⟨h9_⟩
                      clear BK205
                      clear HI198
                      clear HB
                      clear h0_ h1_ h2_ h3_ h4_ h5_ h6_ h7_ h8_ h9_
                      have BK205 := n0_
                      have BK219 := n1_
                      have GW219 := n2_
                      have GE219 := n3_
                      have NB198_219 := n4_
                      have NB219_198 := n5_
                      have NB205_219 := n6_
                      have NB219_205 := n7_
                      have HI198 := n8_
                      have HB := n9_
                      clear n0_ n1_ n2_ n3_ n4_ n5_ n6_ n7_ n8_ n9_
                      have hHeld : w39.cell? ⟨gb205, 0, none⟩ = some (.int .i64 x206000_1) ∧ w39.cell? ⟨gb205, 1, none⟩ = some (.int .i64 x206001_1) ∧ w39.cell? ⟨gb205, 2, none⟩ = some (.int .i64 x206002_1) ∧ w39.cell? ⟨gb205, 3, none⟩ = some (.int .i64 x206003_1) ∧ w39.cell? (ad210.add (x9_1).toNat) = some (.int .i64 (rd l1 x9_1)) := hS_
                      refine norm_ (a' := ?_) ?_ ?_
                      rotate_left
                      · simp only [putAll, Act.put, List.setIfInBounds_toArray, List.set_cons_zero, List.set_cons_succ]
                        rfl
                      refine one_ (i := 11) (N := none) #[true, true, true, true, true, true, true, true, true, true, true, true, false] rfl rfl (one_of HT_.out (by kernel_rfl)) (by decide) (fun K hK => ?_)
                      have hs40 : w39.cell? ⟨gb219, 0, none⟩ = some (.int .i64 0) := (blk_cell BK219.out 0).trans rfl
                      have hfs40 := blk_frozen BK219.out 0
                      have hns40_0 := NB205_219.out
                      have hms40_0 := NB219_205.out
                      have hs41 : w39.cell? ⟨gb219, 1, none⟩ = some (.int .i64 0) := (blk_cell BK219.out 1).trans rfl
                      have hfs41 := blk_frozen BK219.out 1
                      have hns41_0 := NB205_219.out
                      have hms41_0 := NB219_205.out
                      have hs42 : w39.cell? ⟨gb219, 2, none⟩ = some (.int .i64 0) := (blk_cell BK219.out 2).trans rfl
                      have hfs42 := blk_frozen BK219.out 2
                      have hns42_0 := NB205_219.out
                      have hms42_0 := NB219_205.out
                      have hs43 : w39.cell? ⟨gb219, 3, none⟩ = some (.int .i64 0) := (blk_cell BK219.out 3).trans rfl
                      have hfs43 := blk_frozen BK219.out 3
                      have hns43_0 := NB205_219.out
                      have hms43_0 := NB219_205.out
                      refine skip_ (w1 := ?_) (by rfl) rfl ?_ ?_
                      rotate_left
                      · go_simp
                        rfl
                      refine hK.out _ _ ⟨((cell_far (p := ⟨gb219, _, none⟩) NB205_219.out _).trans (((cell_far (p := ⟨gb219, _, none⟩) NB205_219.out _).trans (((cell_far (p := ⟨gb219, _, none⟩) NB205_219.out _).trans (((cell_far (p := ⟨gb219, _, none⟩) NB205_219.out _).trans (hHeld.1)))))))), ((cell_far (p := ⟨gb219, _, none⟩) NB205_219.out _).trans (((cell_far (p := ⟨gb219, _, none⟩) NB205_219.out _).trans (((cell_far (p := ⟨gb219, _, none⟩) NB205_219.out _).trans (((cell_far (p := ⟨gb219, _, none⟩) NB205_219.out _).trans (hHeld.2.1)))))))), ((cell_far (p := ⟨gb219, _, none⟩) NB205_219.out _).trans (((cell_far (p := ⟨gb219, _, none⟩) NB205_219.out _).trans (((cell_far (p := ⟨gb219, _, none⟩) NB205_219.out _).trans (((cell_far (p := ⟨gb219, _, none⟩) NB205_219.out _).trans (hHeld.2.2.1)))))))), ((cell_far (p := ⟨gb219, _, none⟩) NB205_219.out _).trans (((cell_far (p := ⟨gb219, _, none⟩) NB205_219.out _).trans (((cell_far (p := ⟨gb219, _, none⟩) NB205_219.out _).trans (((cell_far (p := ⟨gb219, _, none⟩) NB205_219.out _).trans (hHeld.2.2.2.1)))))))), ((cell_far (p := ⟨gb219, _, none⟩) (by first | exact Nat.ne_of_lt (Nat.lt_of_lt_of_le (by have := World.block_lt_of_cell? _ _ hw210_0; first | rwa [add_block] at this | exact this) GW219.out) | (rw [add_block]; exact Nat.ne_of_lt (Nat.lt_of_lt_of_le (by have := World.block_lt_of_cell? _ _ hw210_0; first | rwa [add_block] at this | exact this) GW219.out)) | (show (Addr.add _ _).block ≠ _; rw [add_block]; exact Nat.ne_of_lt (Nat.lt_of_lt_of_le (by have := World.block_lt_of_cell? _ _ hw210_0; first | rwa [add_block] at this | exact this) GW219.out)) | (dsimp only; exact Nat.ne_of_lt (Nat.lt_of_lt_of_le (by have := World.block_lt_of_cell? _ _ hw210_0; first | rwa [add_block] at this | exact this) GW219.out))) _).trans (((cell_far (p := ⟨gb219, _, none⟩) (by first | exact Nat.ne_of_lt (Nat.lt_of_lt_of_le (by have := World.block_lt_of_cell? _ _ hw210_0; first | rwa [add_block] at this | exact this) GW219.out) | (rw [add_block]; exact Nat.ne_of_lt (Nat.lt_of_lt_of_le (by have := World.block_lt_of_cell? _ _ hw210_0; first | rwa [add_block] at this | exact this) GW219.out)) | (show (Addr.add _ _).block ≠ _; rw [add_block]; exact Nat.ne_of_lt (Nat.lt_of_lt_of_le (by have := World.block_lt_of_cell? _ _ hw210_0; first | rwa [add_block] at this | exact this) GW219.out)) | (dsimp only; exact Nat.ne_of_lt (Nat.lt_of_lt_of_le (by have := World.block_lt_of_cell? _ _ hw210_0; first | rwa [add_block] at this | exact this) GW219.out))) _).trans (((cell_far (p := ⟨gb219, _, none⟩) (by first | exact Nat.ne_of_lt (Nat.lt_of_lt_of_le (by have := World.block_lt_of_cell? _ _ hw210_0; first | rwa [add_block] at this | exact this) GW219.out) | (rw [add_block]; exact Nat.ne_of_lt (Nat.lt_of_lt_of_le (by have := World.block_lt_of_cell? _ _ hw210_0; first | rwa [add_block] at this | exact this) GW219.out)) | (show (Addr.add _ _).block ≠ _; rw [add_block]; exact Nat.ne_of_lt (Nat.lt_of_lt_of_le (by have := World.block_lt_of_cell? _ _ hw210_0; first | rwa [add_block] at this | exact this) GW219.out)) | (dsimp only; exact Nat.ne_of_lt (Nat.lt_of_lt_of_le (by have := World.block_lt_of_cell? _ _ hw210_0; first | rwa [add_block] at this | exact this) GW219.out))) _).trans (((cell_far (p := ⟨gb219, _, none⟩) (by first | exact Nat.ne_of_lt (Nat.lt_of_lt_of_le (by have := World.block_lt_of_cell? _ _ hw210_0; first | rwa [add_block] at this | exact this) GW219.out) | (rw [add_block]; exact Nat.ne_of_lt (Nat.lt_of_lt_of_le (by have := World.block_lt_of_cell? _ _ hw210_0; first | rwa [add_block] at this | exact this) GW219.out)) | (show (Addr.add _ _).block ≠ _; rw [add_block]; exact Nat.ne_of_lt (Nat.lt_of_lt_of_le (by have := World.block_lt_of_cell? _ _ hw210_0; first | rwa [add_block] at this | exact this) GW219.out)) | (dsimp only; exact Nat.ne_of_lt (Nat.lt_of_lt_of_le (by have := World.block_lt_of_cell? _ _ hw210_0; first | rwa [add_block] at this | exact this) GW219.out))) _).trans (hHeld.2.2.2.2))))))))⟩ (fun hHeld => ?_)
                      clear hK K
                      refine pure_ (i := 12) (N := some 11) (v := ?_) (a' := ?_) #[true, true, true, true, true, true, true, true, true, true, true, true, true] rfl rfl (any_of HT_.out (by kernel_rfl)) (fun _ _ _ h => h) (Or.inl ⟨by rfl, ?_⟩) ?_ ?_
                      rotate_left
                      · intro w'
                        go_simp
                        with_reducible rfl
                      rotate_left
                      · simp only [Act.put, List.setIfInBounds_toArray, List.set_cons_zero, List.set_cons_succ, i64_w, i32_w]
                        rfl
                      refine done_ (done_of HT_.out (by kernel_rfl)) ?_
                      have hnb44 := NB219_205.out
                      have hnc44 := NB205_219.out
                      have hnb45 := NB219_198.out
                      have hnc45 := NB198_219.out
                      have hcz46_0 : w39.cell? ⟨gb219, 0, none⟩ = some (.int .i64 0) := (blk_cell BK219.out 0).trans rfl
                      have hcz46_1 : w39.cell? ⟨gb219, 1, none⟩ = some (.int .i64 0) := (blk_cell BK219.out 1).trans rfl
                      have hcz46_2 : w39.cell? ⟨gb219, 2, none⟩ = some (.int .i64 0) := (blk_cell BK219.out 2).trans rfl
                      have hcz46_3 : w39.cell? ⟨gb219, 3, none⟩ = some (.int .i64 0) := (blk_cell BK219.out 3).trans rfl
                      have hfz46_0 := blk_frozen BK219.out 0
                      have hfz46_1 := blk_frozen BK219.out 1
                      have hfz46_2 := blk_frozen BK219.out 2
                      have hfz46_3 := blk_frozen BK219.out 3
                      have hnb47 := NB205_198.out
                      have hnc47 := NB198_205.out
                      have hcz48_0 : w39.cell? ⟨gb205, 0, none⟩ = some (.int .i64 x206000_1) := (blk_cell BK205.out 0).trans rfl
                      have hcz48_1 : w39.cell? ⟨gb205, 1, none⟩ = some (.int .i64 x206001_1) := (blk_cell BK205.out 1).trans rfl
                      have hcz48_2 : w39.cell? ⟨gb205, 2, none⟩ = some (.int .i64 x206002_1) := (blk_cell BK205.out 2).trans rfl
                      have hcz48_3 : w39.cell? ⟨gb205, 3, none⟩ = some (.int .i64 x206003_1) := (blk_cell BK205.out 3).trans rfl
                      have hfz48_0 := blk_frozen BK205.out 0
                      have hfz48_1 := blk_frozen BK205.out 1
                      have hfz48_2 := blk_frozen BK205.out 2
                      have hfz48_3 := blk_frozen BK205.out 3
                      try go_wp2_with (first | (go_at_call 38; (with_reducible refine (monocoquelaw32_same.calls g198 t216 t217 t218 t211 t212 t213 t214 false t221 t222 t223 w _ ?side1 ?side2 A20.out).mono ?_); (case side1 => repeat (first | (with_reducible first | exact HI198.out | apply IsS89.alloc | apply IsS89.drewN | apply IsS89.drew | apply IsS89.set_0 | apply IsS89.set_1 | apply IsS89.set_2 | refine IsS89.far ?_ NB198_205.out _ | refine IsS89.far ?_ NB198_219.out _) | exact HI198.out)); (case side2 => repeat (first | (with_reducible first | exact HB.out | apply below_alloc | apply pw_below_drewN | apply below_drew1 | refine below_set ?_ (IsS89.ge HI198.out) | refine below_set ?_ GE205.out | refine below_set ?_ GE219.out) | exact HB.out)); rintro e w49 ⟨rfl, hi, hb, hk⟩; have n0_ := Aside0.mk (KeepBut.blk hk (g' := gb205) (o := .cells #[.int .i64 t211, .int .i64 t212, .int .i64 t213, .int .i64 t214] 69 (0, 0)) (by (with_reducible repeat (first | refine blk_drewN ?_ _ | refine blk_drew ?_ | refine blk_alloc ?_ _)); refine blk_put (cs := #[.int .i64 t211, .int .i64 t212, .int .i64 t213, .int .i64 x206003_1]) ?_ 3 _ rfl; (with_reducible repeat (first | refine blk_drewN ?_ _ | refine blk_drew ?_ | refine blk_alloc ?_ _)); refine blk_put (cs := #[.int .i64 t211, .int .i64 t212, .int .i64 x206002_1, .int .i64 x206003_1]) ?_ 2 _ rfl; (with_reducible repeat (first | refine blk_drewN ?_ _ | refine blk_drew ?_ | refine blk_alloc ?_ _)); refine blk_put (cs := #[.int .i64 t211, .int .i64 x206001_1, .int .i64 x206002_1, .int .i64 x206003_1]) ?_ 1 _ rfl; (with_reducible repeat (first | refine blk_drewN ?_ _ | refine blk_drew ?_ | refine blk_alloc ?_ _)); refine blk_put (cs := #[.int .i64 x206000_1, .int .i64 x206001_1, .int .i64 x206002_1, .int .i64 x206003_1]) ?_ 0 _ rfl; (with_reducible repeat (first | refine blk_drewN ?_ _ | refine blk_drew ?_ | refine blk_alloc ?_ _)); refine blk_far ?_ NB205_219.out _; (with_reducible repeat (first | refine blk_drewN ?_ _ | refine blk_drew ?_ | refine blk_alloc ?_ _)); refine blk_far ?_ NB205_219.out _; (with_reducible repeat (first | refine blk_drewN ?_ _ | refine blk_drew ?_ | refine blk_alloc ?_ _)); refine blk_far ?_ NB205_219.out _; (with_reducible repeat (first | refine blk_drewN ?_ _ | refine blk_drew ?_ | refine blk_alloc ?_ _)); refine blk_far ?_ NB205_219.out _; (with_reducible repeat (first | refine blk_drewN ?_ _ | refine blk_drew ?_ | refine blk_alloc ?_ _)); exact BK205.out) NB205_198.out (by simp)); have n1_ := Aside0.mk (KeepBut.blk hk (g' := gb219) (o := .cells #[.int .i64 t211, .int .i64 t212, .int .i64 t213, .int .i64 t214] 69 (0, 0)) (by (with_reducible repeat (first | refine blk_drewN ?_ _ | refine blk_drew ?_ | refine blk_alloc ?_ _)); refine blk_far ?_ NB219_205.out _; (with_reducible repeat (first | refine blk_drewN ?_ _ | refine blk_drew ?_ | refine blk_alloc ?_ _)); refine blk_far ?_ NB219_205.out _; (with_reducible repeat (first | refine blk_drewN ?_ _ | refine blk_drew ?_ | refine blk_alloc ?_ _)); refine blk_far ?_ NB219_205.out _; (with_reducible repeat (first | refine blk_drewN ?_ _ | refine blk_drew ?_ | refine blk_alloc ?_ _)); refine blk_far ?_ NB219_205.out _; (with_reducible repeat (first | refine blk_drewN ?_ _ | refine blk_drew ?_ | refine blk_alloc ?_ _)); refine blk_put (cs := #[.int .i64 t211, .int .i64 t212, .int .i64 t213, .int .i64 0]) ?_ 3 _ rfl; (with_reducible repeat (first | refine blk_drewN ?_ _ | refine blk_drew ?_ | refine blk_alloc ?_ _)); refine blk_put (cs := #[.int .i64 t211, .int .i64 t212, .int .i64 0, .int .i64 0]) ?_ 2 _ rfl; (with_reducible repeat (first | refine blk_drewN ?_ _ | refine blk_drew ?_ | refine blk_alloc ?_ _)); refine blk_put (cs := #[.int .i64 t211, .int .i64 0, .int .i64 0, .int .i64 0]) ?_ 1 _ rfl; (with_reducible repeat (first | refine blk_drewN ?_ _ | refine blk_drew ?_ | refine blk_alloc ?_ _)); refine blk_put (cs := #[.int .i64 0, .int .i64 0, .int .i64 0, .int .i64 0]) ?_ 0 _ rfl; (with_reducible repeat (first | refine blk_drewN ?_ _ | refine blk_drew ?_ | refine blk_alloc ?_ _)); exact BK219.out) NB219_198.out (by simp)); have n2_ := Aside0.mk (hb); have n3_ := Aside0.mk (hi); clear BK205; clear BK219; clear HB; clear HI198; have BK205 := n0_; have BK219 := n1_; have HB := n2_; have HI198 := n3_; clear n0_ n1_ n2_ n3_; (try clear hb); (try clear hb2); (try clear hk); (try clear hi)))
                      go_ret
                      exact ⟨by first | rfl | (simp [errW_none, errW_some] <;> rfl) | (simp [*, errW_none, errW_some] <;> rfl), by repeat (first | (with_reducible first | exact HB.out | apply below_alloc | apply pw_below_drewN | apply below_drew1 | refine below_set ?_ (IsS89.ge HI198.out) | refine below_set ?_ GE205.out | refine below_set ?_ GE219.out) | exact HB.out)⟩
                  · replace c19 := Bool.eq_false_iff.mpr c19
                    subst c19
                    have H1 : (some false) = some r := by rw [if_neg (show ¬ (false = true) by decide)] at H; exact H
                    clear H
                    have H := H1
                    clear H1
                    obtain rfl := Option.some.inj H
                    try go_wp2
                    have n0_ := Aside0.mk (blk_drew BK205.out)
                    have n1_ := Aside0.mk (IsS89.drew HI198.out)
                    have n2_ := Aside0.mk (below_drew1 HB.out)
                    clear BK205
                    clear HI198
                    clear HB
                    have BK205 := n0_
                    have HI198 := n1_
                    have HB := n2_
                    clear n0_ n1_ n2_
                    have p210 : 0 ≤ (x9_1 : Int) := of_decide_eq_true (by first | (with_reducible assumption) | assumption)
                    have q210 : x9_1 < (l1.length : Int) := of_decide_eq_true (by first | (with_reducible assumption) | assumption)
                    obtain ⟨ad210, e210, hx210_0⟩ := Kd.at_int HR1.out x9_1 p210 q210
                    have hw210_0 := hx210_0
                    cases e210
                    replace hx210_0 := (HB.out.cell (World.block_lt_of_cell? w _ hx210_0)).trans hx210_0
                    replace p210 := eq_true p210
                    replace q210 := eq_true q210
                    refine start_ (n := 13) (S := fun w' => w'.cell? ⟨gb205, 0, none⟩ = some (.int .i64 x206000_1) ∧ w'.cell? ⟨gb205, 1, none⟩ = some (.int .i64 x206001_1) ∧ w'.cell? ⟨gb205, 2, none⟩ = some (.int .i64 x206002_1) ∧ w'.cell? ⟨gb205, 3, none⟩ = some (.int .i64 x206003_1) ∧ w'.cell? (ad210.add (x9_1).toNat) = some (.int .i64 (rd l1 x9_1))) (ds := []) #[false, false, false, false, false, false, false, false, false, false, false, false, false] (by kernel_rfl) rfl rfl ⟨(blk_cell BK205.out 0).trans rfl, (blk_cell BK205.out 1).trans rfl, (blk_cell BK205.out 2).trans rfl, (blk_cell BK205.out 3).trans rfl, ((HB.out.cell (World.block_lt_of_cell? w _ hw210_0)).trans hw210_0)⟩ (fun hHeld => ?_); refine with_tabW monocoquelaw32_LifeActs.tab9 monocoquelaw32_LifeActs.bits9 (fun HT_ HW_ => ?_)
                    generalize wc.drew = w50 at BK205 HI198 HB hx210_0 hHeld ⊢
                    refine pure_ (i := 0) (N := some 40) (v := ?_) (a' := ?_) #[true, false, false, false, false, false, false, false, false, false, false, false, false] rfl rfl (any_of HT_.out (by kernel_rfl)) (fun _ _ _ h => h) (Or.inl ⟨by rfl, ?_⟩) ?_ ?_
                    rotate_left
                    · intro w'
                      go_simp
                      with_reducible rfl
                    rotate_left
                    · simp only [Act.put, List.setIfInBounds_toArray, List.set_cons_zero, List.set_cons_succ, i64_w, i32_w]
                      rfl
                    refine pure_ (i := 2) (N := some 42) (v := ?_) (a' := ?_) #[true, false, true, false, false, false, false, false, false, false, false, false, false] rfl rfl (any_of HT_.out (by kernel_rfl)) (fun _ _ _ h => h) (Or.inl ⟨by rfl, ?_⟩) ?_ ?_
                    rotate_left
                    · intro w'
                      go_simp
                      with_reducible rfl
                    rotate_left
                    · simp only [Act.put, List.setIfInBounds_toArray, List.set_cons_zero, List.set_cons_succ, i64_w, i32_w]
                      rfl
                    refine pure_ (i := 3) (N := some 43) (v := ?_) (a' := ?_) #[true, false, true, true, false, false, false, false, false, false, false, false, false] rfl rfl (any_of HT_.out (by kernel_rfl)) (fun _ _ _ h => h) (Or.inl ⟨by rfl, ?_⟩) ?_ ?_
                    rotate_left
                    · intro w'
                      go_simp
                      with_reducible rfl
                    rotate_left
                    · simp only [Act.put, List.setIfInBounds_toArray, List.set_cons_zero, List.set_cons_succ, i64_w, i32_w]
                      rfl
                    refine pure_ (i := 4) (N := some 44) (v := ?_) (a' := ?_) #[true, false, true, true, true, false, false, false, false, false, false, false, false] rfl rfl (any_of HT_.out (by kernel_rfl)) (fun _ _ _ h => h) (Or.inl ⟨by rfl, ?_⟩) ?_ ?_
                    rotate_left
                    · intro w'
                      go_simp
                      with_reducible rfl
                    rotate_left
                    · simp only [Act.put, List.setIfInBounds_toArray, List.set_cons_zero, List.set_cons_succ, i64_w, i32_w]
                      rfl
                    refine take_ (i := 1) (N := some 41) (v := ?_) (a' := ?_) #[true, true, true, true, true, false, false, false, false, false, false, false, false] rfl rfl (take_ofW HT_.out HW_.out (by kernel_rfl)) (fun _ _ _ h => h) (Or.inl ⟨by rfl, ?_⟩) hHeld ?_ ?_
                    rotate_left
                    · rintro w' ⟨s0, s1, s2, s3, s4⟩
                      go_simp
                      with_reducible rfl
                    rotate_left
                    · simp only [Act.put, List.setIfInBounds_toArray, List.set_cons_zero, List.set_cons_succ, i64_w, i32_w]
                      rfl
                    refine take_ (i := 5) (N := some 45) (v := ?_) (a' := ?_) #[true, true, true, true, true, true, false, false, false, false, false, false, false] rfl rfl (take_ofW HT_.out HW_.out (by kernel_rfl)) (fun _ _ _ h => h) (Or.inl ⟨by rfl, ?_⟩) hHeld ?_ ?_
                    rotate_left
                    · rintro w' ⟨s0, s1, s2, s3, s4⟩
                      go_simp
                      with_reducible rfl
                    rotate_left
                    · simp only [Act.put, List.setIfInBounds_toArray, List.set_cons_zero, List.set_cons_succ, i64_w, i32_w]
                      rfl
                    refine join_ (σ := Nat) 2 #[true, true, true, true, true, true, true, true, true, true, true, false, false] (fun s_ => [(46, .tuple #[.agg #[.int .i64 t211, .int .i64 t212, .int .i64 t213, .int .i64 t214], .bool false]), (10, .pointer (some ⟨s_, 0, none⟩)), (39, .tuple #[.agg #[.int .i64 t211, .int .i64 t212, .int .i64 t213, .int .i64 t214], .bool false]), (47, .agg #[.int .i64 t211, .int .i64 t212, .int .i64 t213, .int .i64 t214]), (48, .bool false)]) (fun s_ w' => (w'.cell? ⟨gb205, 0, none⟩ = some (.int .i64 x206000_1) ∧ w'.cell? ⟨gb205, 1, none⟩ = some (.int .i64 x206001_1) ∧ w'.cell? ⟨gb205, 2, none⟩ = some (.int .i64 x206002_1) ∧ w'.cell? ⟨gb205, 3, none⟩ = some (.int .i64 x206003_1) ∧ w'.cell? (ad210.add (x9_1).toNat) = some (.int .i64 (rd l1 x9_1))) ∧ (w'.heap[gb205]? = some (.cells #[.int .i64 x206000_1, .int .i64 x206001_1, .int .i64 x206002_1, .int .i64 x206003_1] 69 (0, 0))) ∧ (w'.heap[s_]? = some (.cells #[.int .i64 0, .int .i64 0, .int .i64 0, .int .i64 0] 69 (0, 0))) ∧ (w.heap.size ≤ s_) ∧ (w.heap.size ≤ s_) ∧ (g198 ≠ s_) ∧ (s_ ≠ g198) ∧ (gb205 ≠ s_) ∧ (s_ ≠ gb205) ∧ (IsS89 w w' g198 t216 t217 t218) ∧ (Below w.heap.size w w')) ?_ ?_
                    rotate_left
                    · intro hCont
                      refine two_ (i := 6) (j := 10) (Ni := some 46) (Nj := some 10) #[true, true, true, true, true, true, true, false, false, false, false, false, false] #[true, true, true, true, true, true, false, false, false, false, true, false, false] rfl rfl rfl rfl (two_of HT_.out (by kernel_rfl)) (by decide) (by decide) (fun K hK => ?_) (fun K hK => ?_)
                      · skip
                        refine goes_ Try.func37 (by kernel_rfl) rfl #[.pointer (some ⟨g198, 0, none⟩), .agg #[.int .i64 x206000_1, .int .i64 x206001_1, .int .i64 x206002_1, .int .i64 x206003_1], .int .i64 (rd l1 x9_1)] (by rfl) rfl rfl (by (try simp only [List.map_toArray, List.map_cons, List.map_nil]); first | done | rfl | (simp only [List.length_drop, List.length_take]; rfl)) ?_
                        with_reducible refine (monocoquelaw32_do.calls kj12 g198 x199000_1 x199001_1 x199002_1 x206000_1 x206001_1 x206002_1 x206003_1 (rd l1 x9_1) t211 t212 t213 t214 false t216 t217 t218 w _ ?side1 ?side2 A18.out).mono ?_
                        (case side1 => repeat (first | (with_reducible first | exact HI198.out | apply IsS89.alloc | apply IsS89.drewN | apply IsS89.drew | apply IsS89.set_0 | apply IsS89.set_1 | apply IsS89.set_2 | refine IsS89.far ?_ NB198_205.out _) | exact HI198.out))
                        (case side2 => repeat (first | (with_reducible first | exact HB.out | apply below_alloc | apply pw_below_drewN | apply below_drew1 | refine below_set ?_ (IsS89.ge HI198.out) | refine below_set ?_ GE205.out) | exact HB.out))
                        rintro e w51 ⟨rfl, hi, hb, hk⟩
                        refine ⟨_, rfl, ?_⟩
                        have n0_ := Aside0.mk (KeepBut.blk hk (g' := gb205) (o := .cells #[.int .i64 x206000_1, .int .i64 x206001_1, .int .i64 x206002_1, .int .i64 x206003_1] 69 (0, 0)) (by (with_reducible repeat (first | refine blk_drewN ?_ _ | refine blk_drew ?_ | refine blk_alloc ?_ _)); exact BK205.out) NB205_198.out (by simp))
                        have n1_ := Aside0.mk (hb)
                        have n2_ := Aside0.mk (hi)
                        clear BK205
                        clear HB
                        clear HI198
                        have BK205 := n0_
                        have HB := n1_
                        have HI198 := n2_
                        clear n0_ n1_ n2_
                        (try clear hb)
                        (try clear hb2)
                        (try clear hk)
                        (try clear hi)
                        refine hK.out _ _ ⟨(blk_cell BK205.out 0).trans rfl, (blk_cell BK205.out 1).trans rfl, (blk_cell BK205.out 2).trans rfl, (blk_cell BK205.out 3).trans rfl, ((HB.out.cell (World.block_lt_of_cell? w _ hw210_0)).trans hw210_0)⟩ (fun hHeld => ?_)
                        clear hK K
                        refine norm_ (a' := ?_) ?_ ?_
                        rotate_left
                        · show Act.put _ (some 46) _ = _
                          simp only [Act.put, List.setIfInBounds_toArray, List.set_cons_zero, List.set_cons_succ, i64_w, i32_w]
                          rfl
                        refine pure_ (i := 7) (N := some 39) (v := ?_) (a' := ?_) #[true, true, true, true, true, true, true, true, false, false, false, false, false] rfl rfl (any_of HT_.out (by kernel_rfl)) (fun _ _ _ h => h) (Or.inl ⟨by rfl, ?_⟩) ?_ ?_
                        rotate_left
                        · intro w'
                          go_simp
                          with_reducible rfl
                        rotate_left
                        · simp only [Act.put, List.setIfInBounds_toArray, List.set_cons_zero, List.set_cons_succ, i64_w, i32_w]
                          rfl
                        refine pure_ (i := 8) (N := some 47) (v := ?_) (a' := ?_) #[true, true, true, true, true, true, true, true, true, false, false, false, false] rfl rfl (any_of HT_.out (by kernel_rfl)) (fun _ _ _ h => h) (Or.inl ⟨by rfl, ?_⟩) ?_ ?_
                        rotate_left
                        · intro w'
                          go_simp
                          with_reducible rfl
                        rotate_left
                        · simp only [Act.put, List.setIfInBounds_toArray, List.set_cons_zero, List.set_cons_succ, i64_w, i32_w]
                          rfl
                        refine pure_ (i := 9) (N := some 48) (v := ?_) (a' := ?_) #[true, true, true, true, true, true, true, true, true, true, false, false, false] rfl rfl (any_of HT_.out (by kernel_rfl)) (fun _ _ _ h => h) (Or.inl ⟨by rfl, ?_⟩) ?_ ?_
                        rotate_left
                        · intro w'
                          go_simp
                          with_reducible rfl
                        rotate_left
                        · simp only [Act.put, List.setIfInBounds_toArray, List.set_cons_zero, List.set_cons_succ, i64_w, i32_w]
                          rfl
                        refine one_ (i := 10) (N := some 10) #[true, true, true, true, true, true, true, true, true, true, true, false, false] rfl rfl (one_of HT_.out (by kernel_rfl)) (by decide) (fun K hK => ?_)
                        refine box_step ?hg (N := 10) ?hd (cs := #[.int .i64 0, .int .i64 0, .int .i64 0, .int .i64 0]) (t := 69) ?hr ?_; (case hd => rfl); (case hg => rfl); (case hr => first | (go_simp; done) | (go_simp; rfl))
                        intro gb219 hg w52 hbox hb
                        have n0_ := Aside0.mk (blk_below (g := gb205) (o := .cells #[.int .i64 x206000_1, .int .i64 x206001_1, .int .i64 x206002_1, .int .i64 x206003_1] 69 (0, 0)) (by (with_reducible repeat (first | refine blk_drewN ?_ _ | refine blk_drew ?_ | refine blk_alloc ?_ _)); exact BK205.out) hb)
                        have n1_ := Aside0.mk (IsS89.below (by repeat (first | (with_reducible first | exact HI198.out | apply IsS89.alloc | apply IsS89.drewN | apply IsS89.drew | apply IsS89.set_0 | apply IsS89.set_1 | apply IsS89.set_2 | refine IsS89.far ?_ NB198_205.out _) | exact HI198.out)) hb)
                        have n2_ := Aside0.mk (below_step (by repeat (first | (with_reducible first | exact HB.out | apply below_alloc | apply pw_below_drewN | apply below_drew1 | refine below_set ?_ (IsS89.ge HI198.out) | refine below_set ?_ GE205.out) | exact HB.out)) hb)
                        have n3_ := Aside0.mk (hbox)
                        have n4_ := Aside0.mk ((by rw [hg]; exact (below_size (by repeat (first | (with_reducible first | exact HB.out | apply below_alloc | apply pw_below_drewN | apply below_drew1 | refine below_set ?_ (IsS89.ge HI198.out) | refine below_set ?_ GE205.out) | exact HB.out))) : w.heap.size ≤ gb219))
                        have n5_ := Aside0.mk ((by rw [hg]; exact (below_size (by repeat (first | (with_reducible first | exact HB.out | apply below_alloc | apply pw_below_drewN | apply below_drew1 | refine below_set ?_ (IsS89.ge HI198.out) | refine below_set ?_ GE205.out) | exact HB.out))) : w.heap.size ≤ gb219))
                        have n6_ := Aside0.mk ((by rw [hg]; exact Nat.ne_of_lt (blk_lt (g := gb205) (o := .cells #[.int .i64 x206000_1, .int .i64 x206001_1, .int .i64 x206002_1, .int .i64 x206003_1] 69 (0, 0)) (by (with_reducible repeat (first | refine blk_drewN ?_ _ | refine blk_drew ?_ | refine blk_alloc ?_ _)); exact BK205.out)) : gb205 ≠ gb219))
                        have n7_ := Aside0.mk ((by rw [hg]; exact Nat.ne_of_gt (blk_lt (g := gb205) (o := .cells #[.int .i64 x206000_1, .int .i64 x206001_1, .int .i64 x206002_1, .int .i64 x206003_1] 69 (0, 0)) (by (with_reducible repeat (first | refine blk_drewN ?_ _ | refine blk_drew ?_ | refine blk_alloc ?_ _)); exact BK205.out)) : gb219 ≠ gb205))
                        have n8_ := Aside0.mk ((by rw [hg]; exact Nat.ne_of_lt (IsS89.lt (show IsS89 w _ g198 t216 t217 t218 from by repeat (first | (with_reducible first | exact HI198.out | apply IsS89.alloc | apply IsS89.drewN | apply IsS89.drew | apply IsS89.set_0 | apply IsS89.set_1 | apply IsS89.set_2 | refine IsS89.far ?_ NB198_205.out _) | exact HI198.out))) : g198 ≠ gb219))
                        have n9_ := Aside0.mk ((by rw [hg]; exact Nat.ne_of_gt (IsS89.lt (show IsS89 w _ g198 t216 t217 t218 from by repeat (first | (with_reducible first | exact HI198.out | apply IsS89.alloc | apply IsS89.drewN | apply IsS89.drew | apply IsS89.set_0 | apply IsS89.set_1 | apply IsS89.set_2 | refine IsS89.far ?_ NB198_205.out _) | exact HI198.out))) : gb219 ≠ g198))
                        clear BK205
                        clear HI198
                        clear HB
                        have BK205 := n0_
                        have HI198 := n1_
                        have HB := n2_
                        have BK219 := n3_
                        have GW219 := n4_
                        have GE219 := n5_
                        have NB205_219 := n6_
                        have NB219_205 := n7_
                        have NB198_219 := n8_
                        have NB219_198 := n9_
                        clear n0_ n1_ n2_ n3_ n4_ n5_ n6_ n7_ n8_ n9_
                        clear hb hbox hg
                        refine hK.out _ _ ⟨(blk_cell BK205.out 0).trans rfl, (blk_cell BK205.out 1).trans rfl, (blk_cell BK205.out 2).trans rfl, (blk_cell BK205.out 3).trans rfl, ((HB.out.cell (World.block_lt_of_cell? w _ hw210_0)).trans hw210_0)⟩ (fun hHeld => ?_)
                        clear hK K
                        refine norm_ (a' := ?_) ?_ ?_
                        rotate_left
                        · show Act.put _ (some 10) _ = _
                          simp only [Act.put, List.setIfInBounds_toArray, List.set_cons_zero, List.set_cons_succ, i64_w, i32_w]
                          rfl
                        exact norm_ (by simp only [putAll, Act.put, List.setIfInBounds_toArray, List.set_cons_zero, List.set_cons_succ]) (hCont (gb219) _ ⟨hHeld, (by (with_reducible repeat (first | refine blk_drewN ?_ _ | refine blk_drew ?_ | refine blk_alloc ?_ _)); exact BK205.out), (by (with_reducible repeat (first | refine blk_drewN ?_ _ | refine blk_drew ?_ | refine blk_alloc ?_ _)); exact BK219.out), GW219.out, GE219.out, NB198_219.out, NB219_198.out, NB205_219.out, NB219_205.out, (by repeat (first | (with_reducible first | exact HI198.out | apply IsS89.alloc | apply IsS89.drewN | apply IsS89.drew | apply IsS89.set_0 | apply IsS89.set_1 | apply IsS89.set_2 | refine IsS89.far ?_ NB198_205.out _ | refine IsS89.far ?_ NB198_219.out _) | exact HI198.out)), (by repeat (first | (with_reducible first | exact HB.out | apply below_alloc | apply pw_below_drewN | apply below_drew1 | refine below_set ?_ (IsS89.ge HI198.out) | refine below_set ?_ GE205.out | refine below_set ?_ GE219.out) | exact HB.out))⟩)
                      · skip
                        refine box_step ?hg (N := 10) ?hd (cs := #[.int .i64 0, .int .i64 0, .int .i64 0, .int .i64 0]) (t := 69) ?hr ?_; (case hd => rfl); (case hg => rfl); (case hr => first | (go_simp; done) | (go_simp; rfl))
                        intro gb219 hg w51 hbox hb
                        have n0_ := Aside0.mk (blk_below (g := gb205) (o := .cells #[.int .i64 x206000_1, .int .i64 x206001_1, .int .i64 x206002_1, .int .i64 x206003_1] 69 (0, 0)) (by (with_reducible repeat (first | refine blk_drewN ?_ _ | refine blk_drew ?_ | refine blk_alloc ?_ _)); exact BK205.out) hb)
                        have n1_ := Aside0.mk (IsS89.below (by repeat (first | (with_reducible first | exact HI198.out | apply IsS89.alloc | apply IsS89.drewN | apply IsS89.drew | apply IsS89.set_0 | apply IsS89.set_1 | apply IsS89.set_2 | refine IsS89.far ?_ NB198_205.out _) | exact HI198.out)) hb)
                        have n2_ := Aside0.mk (below_step (by repeat (first | (with_reducible first | exact HB.out | apply below_alloc | apply pw_below_drewN | apply below_drew1 | refine below_set ?_ (IsS89.ge HI198.out) | refine below_set ?_ GE205.out) | exact HB.out)) hb)
                        have n3_ := Aside0.mk (hbox)
                        have n4_ := Aside0.mk ((by rw [hg]; exact (below_size (by repeat (first | (with_reducible first | exact HB.out | apply below_alloc | apply pw_below_drewN | apply below_drew1 | refine below_set ?_ (IsS89.ge HI198.out) | refine below_set ?_ GE205.out) | exact HB.out))) : w.heap.size ≤ gb219))
                        have n5_ := Aside0.mk ((by rw [hg]; exact (below_size (by repeat (first | (with_reducible first | exact HB.out | apply below_alloc | apply pw_below_drewN | apply below_drew1 | refine below_set ?_ (IsS89.ge HI198.out) | refine below_set ?_ GE205.out) | exact HB.out))) : w.heap.size ≤ gb219))
                        have n6_ := Aside0.mk ((by rw [hg]; exact Nat.ne_of_lt (blk_lt (g := gb205) (o := .cells #[.int .i64 x206000_1, .int .i64 x206001_1, .int .i64 x206002_1, .int .i64 x206003_1] 69 (0, 0)) (by (with_reducible repeat (first | refine blk_drewN ?_ _ | refine blk_drew ?_ | refine blk_alloc ?_ _)); exact BK205.out)) : gb205 ≠ gb219))
                        have n7_ := Aside0.mk ((by rw [hg]; exact Nat.ne_of_gt (blk_lt (g := gb205) (o := .cells #[.int .i64 x206000_1, .int .i64 x206001_1, .int .i64 x206002_1, .int .i64 x206003_1] 69 (0, 0)) (by (with_reducible repeat (first | refine blk_drewN ?_ _ | refine blk_drew ?_ | refine blk_alloc ?_ _)); exact BK205.out)) : gb219 ≠ gb205))
                        have n8_ := Aside0.mk ((by rw [hg]; exact Nat.ne_of_lt (IsS89.lt (show IsS89 w _ g198 x199000_1 x199001_1 x199002_1 from by repeat (first | (with_reducible first | exact HI198.out | apply IsS89.alloc | apply IsS89.drewN | apply IsS89.drew | apply IsS89.set_0 | apply IsS89.set_1 | apply IsS89.set_2 | refine IsS89.far ?_ NB198_205.out _) | exact HI198.out))) : g198 ≠ gb219))
                        have n9_ := Aside0.mk ((by rw [hg]; exact Nat.ne_of_gt (IsS89.lt (show IsS89 w _ g198 x199000_1 x199001_1 x199002_1 from by repeat (first | (with_reducible first | exact HI198.out | apply IsS89.alloc | apply IsS89.drewN | apply IsS89.drew | apply IsS89.set_0 | apply IsS89.set_1 | apply IsS89.set_2 | refine IsS89.far ?_ NB198_205.out _) | exact HI198.out))) : gb219 ≠ g198))
                        clear BK205
                        clear HI198
                        clear HB
                        have BK205 := n0_
                        have HI198 := n1_
                        have HB := n2_
                        have BK219 := n3_
                        have GW219 := n4_
                        have GE219 := n5_
                        have NB205_219 := n6_
                        have NB219_205 := n7_
                        have NB198_219 := n8_
                        have NB219_198 := n9_
                        clear n0_ n1_ n2_ n3_ n4_ n5_ n6_ n7_ n8_ n9_
                        clear hb hbox hg
                        refine hK.out _ _ ⟨(blk_cell BK205.out 0).trans rfl, (blk_cell BK205.out 1).trans rfl, (blk_cell BK205.out 2).trans rfl, (blk_cell BK205.out 3).trans rfl, ((HB.out.cell (World.block_lt_of_cell? w _ hw210_0)).trans hw210_0)⟩ (fun hHeld => ?_)
                        clear hK K
                        refine norm_ (a' := ?_) ?_ ?_
                        rotate_left
                        · show Act.put _ (some 10) _ = _
                          simp only [Act.put, List.setIfInBounds_toArray, List.set_cons_zero, List.set_cons_succ, i64_w, i32_w]
                          rfl
                        refine one_ (i := 6) (N := some 46) #[true, true, true, true, true, true, true, false, false, false, true, false, false] rfl rfl (one_of HT_.out (by kernel_rfl)) (by decide) (fun K hK => ?_)
                        refine goes_ Try.func37 (by kernel_rfl) rfl #[.pointer (some ⟨g198, 0, none⟩), .agg #[.int .i64 x206000_1, .int .i64 x206001_1, .int .i64 x206002_1, .int .i64 x206003_1], .int .i64 (rd l1 x9_1)] (by rfl) rfl rfl (by (try simp only [List.map_toArray, List.map_cons, List.map_nil]); first | done | rfl | (simp only [List.length_drop, List.length_take]; rfl)) ?_
                        with_reducible refine (monocoquelaw32_do.calls kj12 g198 x199000_1 x199001_1 x199002_1 x206000_1 x206001_1 x206002_1 x206003_1 (rd l1 x9_1) t211 t212 t213 t214 false t216 t217 t218 w _ ?side1 ?side2 A18.out).mono ?_
                        (case side1 => repeat (first | (with_reducible first | exact HI198.out | apply IsS89.alloc | apply IsS89.drewN | apply IsS89.drew | apply IsS89.set_0 | apply IsS89.set_1 | apply IsS89.set_2 | refine IsS89.far ?_ NB198_205.out _ | refine IsS89.far ?_ NB198_219.out _) | exact HI198.out))
                        (case side2 => repeat (first | (with_reducible first | exact HB.out | apply below_alloc | apply pw_below_drewN | apply below_drew1 | refine below_set ?_ (IsS89.ge HI198.out) | refine below_set ?_ GE205.out | refine below_set ?_ GE219.out) | exact HB.out))
                        rintro e w52 ⟨rfl, hi, hb, hk⟩
                        refine ⟨_, rfl, ?_⟩
                        have n0_ := Aside0.mk (KeepBut.blk hk (g' := gb205) (o := .cells #[.int .i64 x206000_1, .int .i64 x206001_1, .int .i64 x206002_1, .int .i64 x206003_1] 69 (0, 0)) (by (with_reducible repeat (first | refine blk_drewN ?_ _ | refine blk_drew ?_ | refine blk_alloc ?_ _)); exact BK205.out) NB205_198.out (by simp))
                        have n1_ := Aside0.mk (KeepBut.blk hk (g' := gb219) (o := .cells #[.int .i64 0, .int .i64 0, .int .i64 0, .int .i64 0] 69 (0, 0)) (by (with_reducible repeat (first | refine blk_drewN ?_ _ | refine blk_drew ?_ | refine blk_alloc ?_ _)); exact BK219.out) NB219_198.out (by simp))
                        have n2_ := Aside0.mk (hb)
                        have n3_ := Aside0.mk (hi)
                        clear BK205
                        clear BK219
                        clear HB
                        clear HI198
                        have BK205 := n0_
                        have BK219 := n1_
                        have HB := n2_
                        have HI198 := n3_
                        clear n0_ n1_ n2_ n3_
                        (try clear hb)
                        (try clear hb2)
                        (try clear hk)
                        (try clear hi)
                        refine hK.out _ _ ⟨(blk_cell BK205.out 0).trans rfl, (blk_cell BK205.out 1).trans rfl, (blk_cell BK205.out 2).trans rfl, (blk_cell BK205.out 3).trans rfl, ((HB.out.cell (World.block_lt_of_cell? w _ hw210_0)).trans hw210_0)⟩ (fun hHeld => ?_)
                        clear hK K
                        refine norm_ (a' := ?_) ?_ ?_
                        rotate_left
                        · show Act.put _ (some 46) _ = _
                          simp only [Act.put, List.setIfInBounds_toArray, List.set_cons_zero, List.set_cons_succ, i64_w, i32_w]
                          rfl
                        refine pure_ (i := 7) (N := some 39) (v := ?_) (a' := ?_) #[true, true, true, true, true, true, true, true, false, false, true, false, false] rfl rfl (any_of HT_.out (by kernel_rfl)) (fun _ _ _ h => h) (Or.inl ⟨by rfl, ?_⟩) ?_ ?_
                        rotate_left
                        · intro w'
                          go_simp
                          with_reducible rfl
                        rotate_left
                        · simp only [Act.put, List.setIfInBounds_toArray, List.set_cons_zero, List.set_cons_succ, i64_w, i32_w]
                          rfl
                        refine pure_ (i := 8) (N := some 47) (v := ?_) (a' := ?_) #[true, true, true, true, true, true, true, true, true, false, true, false, false] rfl rfl (any_of HT_.out (by kernel_rfl)) (fun _ _ _ h => h) (Or.inl ⟨by rfl, ?_⟩) ?_ ?_
                        rotate_left
                        · intro w'
                          go_simp
                          with_reducible rfl
                        rotate_left
                        · simp only [Act.put, List.setIfInBounds_toArray, List.set_cons_zero, List.set_cons_succ, i64_w, i32_w]
                          rfl
                        refine pure_ (i := 9) (N := some 48) (v := ?_) (a' := ?_) #[true, true, true, true, true, true, true, true, true, true, true, false, false] rfl rfl (any_of HT_.out (by kernel_rfl)) (fun _ _ _ h => h) (Or.inl ⟨by rfl, ?_⟩) ?_ ?_
                        rotate_left
                        · intro w'
                          go_simp
                          with_reducible rfl
                        rotate_left
                        · simp only [Act.put, List.setIfInBounds_toArray, List.set_cons_zero, List.set_cons_succ, i64_w, i32_w]
                          rfl
                        exact norm_ (by simp only [putAll, Act.put, List.setIfInBounds_toArray, List.set_cons_zero, List.set_cons_succ]) (hCont (gb219) _ ⟨hHeld, (by (with_reducible repeat (first | refine blk_drewN ?_ _ | refine blk_drew ?_ | refine blk_alloc ?_ _)); exact BK205.out), (by (with_reducible repeat (first | refine blk_drewN ?_ _ | refine blk_drew ?_ | refine blk_alloc ?_ _)); exact BK219.out), GW219.out, GE219.out, NB198_219.out, NB219_198.out, NB205_219.out, NB219_205.out, (by repeat (first | (with_reducible first | exact HI198.out | apply IsS89.alloc | apply IsS89.drewN | apply IsS89.drew | apply IsS89.set_0 | apply IsS89.set_1 | apply IsS89.set_2 | refine IsS89.far ?_ NB198_205.out _ | refine IsS89.far ?_ NB198_219.out _) | exact HI198.out)), (by repeat (first | (with_reducible first | exact HB.out | apply below_alloc | apply pw_below_drewN | apply below_drew1 | refine below_set ?_ (IsS89.ge HI198.out) | refine below_set ?_ GE205.out | refine below_set ?_ GE219.out) | exact HB.out))⟩)
                    rintro gb219 w53 ⟨hS_, h0_, h1_, h2_, h3_, h4_, h5_, h6_, h7_, h8_, h9_⟩
                    have n0_ : Aside0 (w53.heap[gb205]? = some (.cells #[.int .i64 x206000_1, .int .i64 x206001_1, .int .i64 x206002_1, .int .i64 x206003_1] 69 (0, 0))) := ⟨h0_⟩
                    have n1_ : Aside0 (w53.heap[gb219]? = some (.cells #[.int .i64 0, .int .i64 0, .int .i64 0, .int .i64 0] 69 (0, 0))) := ⟨h1_⟩
                    have n2_ : Aside0 (w.heap.size ≤ gb219) := ⟨h2_⟩
                    have n3_ : Aside0 (w.heap.size ≤ gb219) := ⟨h3_⟩
                    have n4_ : Aside0 (g198 ≠ gb219) := ⟨h4_⟩
                    have n5_ : Aside0 (gb219 ≠ g198) := ⟨h5_⟩
                    have n6_ : Aside0 (gb205 ≠ gb219) := ⟨h6_⟩
                    have n7_ : Aside0 (gb219 ≠ gb205) := ⟨h7_⟩
                    have n8_ : Aside0 (IsS89 w w53 g198 t216 t217 t218) := ⟨h8_⟩
                    have n9_ : Aside0 (Below w.heap.size w w53) := ⟨h9_⟩
                    clear BK205
                    clear HI198
                    clear HB
                    clear h0_ h1_ h2_ h3_ h4_ h5_ h6_ h7_ h8_ h9_
                    have BK205 := n0_
                    have BK219 := n1_
                    have GW219 := n2_
                    have GE219 := n3_
                    have NB198_219 := n4_
                    have NB219_198 := n5_
                    have NB205_219 := n6_
                    have NB219_205 := n7_
                    have HI198 := n8_
                    have HB := n9_
                    clear n0_ n1_ n2_ n3_ n4_ n5_ n6_ n7_ n8_ n9_
                    have hHeld : w53.cell? ⟨gb205, 0, none⟩ = some (.int .i64 x206000_1) ∧ w53.cell? ⟨gb205, 1, none⟩ = some (.int .i64 x206001_1) ∧ w53.cell? ⟨gb205, 2, none⟩ = some (.int .i64 x206002_1) ∧ w53.cell? ⟨gb205, 3, none⟩ = some (.int .i64 x206003_1) ∧ w53.cell? (ad210.add (x9_1).toNat) = some (.int .i64 (rd l1 x9_1)) := hS_
                    refine norm_ (a' := ?_) ?_ ?_
                    rotate_left
                    · simp only [putAll, Act.put, List.setIfInBounds_toArray, List.set_cons_zero, List.set_cons_succ]
                      rfl
                    refine one_ (i := 11) (N := none) #[true, true, true, true, true, true, true, true, true, true, true, true, false] rfl rfl (one_of HT_.out (by kernel_rfl)) (by decide) (fun K hK => ?_)
                    have hs54 : w53.cell? ⟨gb219, 0, none⟩ = some (.int .i64 0) := (blk_cell BK219.out 0).trans rfl
                    have hfs54 := blk_frozen BK219.out 0
                    have hns54_0 := NB205_219.out
                    have hms54_0 := NB219_205.out
                    have hs55 : w53.cell? ⟨gb219, 1, none⟩ = some (.int .i64 0) := (blk_cell BK219.out 1).trans rfl
                    have hfs55 := blk_frozen BK219.out 1
                    have hns55_0 := NB205_219.out
                    have hms55_0 := NB219_205.out
                    have hs56 : w53.cell? ⟨gb219, 2, none⟩ = some (.int .i64 0) := (blk_cell BK219.out 2).trans rfl
                    have hfs56 := blk_frozen BK219.out 2
                    have hns56_0 := NB205_219.out
                    have hms56_0 := NB219_205.out
                    have hs57 : w53.cell? ⟨gb219, 3, none⟩ = some (.int .i64 0) := (blk_cell BK219.out 3).trans rfl
                    have hfs57 := blk_frozen BK219.out 3
                    have hns57_0 := NB205_219.out
                    have hms57_0 := NB219_205.out
                    refine skip_ (w1 := ?_) (by rfl) rfl ?_ ?_
                    rotate_left
                    · go_simp
                      rfl
                    refine hK.out _ _ ⟨((cell_far (p := ⟨gb219, _, none⟩) NB205_219.out _).trans (((cell_far (p := ⟨gb219, _, none⟩) NB205_219.out _).trans (((cell_far (p := ⟨gb219, _, none⟩) NB205_219.out _).trans (((cell_far (p := ⟨gb219, _, none⟩) NB205_219.out _).trans (hHeld.1)))))))), ((cell_far (p := ⟨gb219, _, none⟩) NB205_219.out _).trans (((cell_far (p := ⟨gb219, _, none⟩) NB205_219.out _).trans (((cell_far (p := ⟨gb219, _, none⟩) NB205_219.out _).trans (((cell_far (p := ⟨gb219, _, none⟩) NB205_219.out _).trans (hHeld.2.1)))))))), ((cell_far (p := ⟨gb219, _, none⟩) NB205_219.out _).trans (((cell_far (p := ⟨gb219, _, none⟩) NB205_219.out _).trans (((cell_far (p := ⟨gb219, _, none⟩) NB205_219.out _).trans (((cell_far (p := ⟨gb219, _, none⟩) NB205_219.out _).trans (hHeld.2.2.1)))))))), ((cell_far (p := ⟨gb219, _, none⟩) NB205_219.out _).trans (((cell_far (p := ⟨gb219, _, none⟩) NB205_219.out _).trans (((cell_far (p := ⟨gb219, _, none⟩) NB205_219.out _).trans (((cell_far (p := ⟨gb219, _, none⟩) NB205_219.out _).trans (hHeld.2.2.2.1)))))))), ((cell_far (p := ⟨gb219, _, none⟩) (by first | exact Nat.ne_of_lt (Nat.lt_of_lt_of_le (by have := World.block_lt_of_cell? _ _ hw210_0; first | rwa [add_block] at this | exact this) GW219.out) | (rw [add_block]; exact Nat.ne_of_lt (Nat.lt_of_lt_of_le (by have := World.block_lt_of_cell? _ _ hw210_0; first | rwa [add_block] at this | exact this) GW219.out)) | (show (Addr.add _ _).block ≠ _; rw [add_block]; exact Nat.ne_of_lt (Nat.lt_of_lt_of_le (by have := World.block_lt_of_cell? _ _ hw210_0; first | rwa [add_block] at this | exact this) GW219.out)) | (dsimp only; exact Nat.ne_of_lt (Nat.lt_of_lt_of_le (by have := World.block_lt_of_cell? _ _ hw210_0; first | rwa [add_block] at this | exact this) GW219.out))) _).trans (((cell_far (p := ⟨gb219, _, none⟩) (by first | exact Nat.ne_of_lt (Nat.lt_of_lt_of_le (by have := World.block_lt_of_cell? _ _ hw210_0; first | rwa [add_block] at this | exact this) GW219.out) | (rw [add_block]; exact Nat.ne_of_lt (Nat.lt_of_lt_of_le (by have := World.block_lt_of_cell? _ _ hw210_0; first | rwa [add_block] at this | exact this) GW219.out)) | (show (Addr.add _ _).block ≠ _; rw [add_block]; exact Nat.ne_of_lt (Nat.lt_of_lt_of_le (by have := World.block_lt_of_cell? _ _ hw210_0; first | rwa [add_block] at this | exact this) GW219.out)) | (dsimp only; exact Nat.ne_of_lt (Nat.lt_of_lt_of_le (by have := World.block_lt_of_cell? _ _ hw210_0; first | rwa [add_block] at this | exact this) GW219.out))) _).trans (((cell_far (p := ⟨gb219, _, none⟩) (by first | exact Nat.ne_of_lt (Nat.lt_of_lt_of_le (by have := World.block_lt_of_cell? _ _ hw210_0; first | rwa [add_block] at this | exact this) GW219.out) | (rw [add_block]; exact Nat.ne_of_lt (Nat.lt_of_lt_of_le (by have := World.block_lt_of_cell? _ _ hw210_0; first | rwa [add_block] at this | exact this) GW219.out)) | (show (Addr.add _ _).block ≠ _; rw [add_block]; exact Nat.ne_of_lt (Nat.lt_of_lt_of_le (by have := World.block_lt_of_cell? _ _ hw210_0; first | rwa [add_block] at this | exact this) GW219.out)) | (dsimp only; exact Nat.ne_of_lt (Nat.lt_of_lt_of_le (by have := World.block_lt_of_cell? _ _ hw210_0; first | rwa [add_block] at this | exact this) GW219.out))) _).trans (((cell_far (p := ⟨gb219, _, none⟩) (by first | exact Nat.ne_of_lt (Nat.lt_of_lt_of_le (by have := World.block_lt_of_cell? _ _ hw210_0; first | rwa [add_block] at this | exact this) GW219.out) | (rw [add_block]; exact Nat.ne_of_lt (Nat.lt_of_lt_of_le (by have := World.block_lt_of_cell? _ _ hw210_0; first | rwa [add_block] at this | exact this) GW219.out)) | (show (Addr.add _ _).block ≠ _; rw [add_block]; exact Nat.ne_of_lt (Nat.lt_of_lt_of_le (by have := World.block_lt_of_cell? _ _ hw210_0; first | rwa [add_block] at this | exact this) GW219.out)) | (dsimp only; exact Nat.ne_of_lt (Nat.lt_of_lt_of_le (by have := World.block_lt_of_cell? _ _ hw210_0; first | rwa [add_block] at this | exact this) GW219.out))) _).trans (hHeld.2.2.2.2))))))))⟩ (fun hHeld => ?_)
                    clear hK K
                    refine pure_ (i := 12) (N := some 11) (v := ?_) (a' := ?_) #[true, true, true, true, true, true, true, true, true, true, true, true, true] rfl rfl (any_of HT_.out (by kernel_rfl)) (fun _ _ _ h => h) (Or.inl ⟨by rfl, ?_⟩) ?_ ?_
                    rotate_left
                    · intro w'
                      go_simp
                      with_reducible rfl
                    rotate_left
                    · simp only [Act.put, List.setIfInBounds_toArray, List.set_cons_zero, List.set_cons_succ, i64_w, i32_w]
                      rfl
                    refine done_ (done_of HT_.out (by kernel_rfl)) ?_
                    have hnb58 := NB219_205.out
                    have hnc58 := NB205_219.out
                    have hnb59 := NB219_198.out
                    have hnc59 := NB198_219.out
                    have hcz60_0 : w53.cell? ⟨gb219, 0, none⟩ = some (.int .i64 0) := (blk_cell BK219.out 0).trans rfl
                    have hcz60_1 : w53.cell? ⟨gb219, 1, none⟩ = some (.int .i64 0) := (blk_cell BK219.out 1).trans rfl
                    have hcz60_2 : w53.cell? ⟨gb219, 2, none⟩ = some (.int .i64 0) := (blk_cell BK219.out 2).trans rfl
                    have hcz60_3 : w53.cell? ⟨gb219, 3, none⟩ = some (.int .i64 0) := (blk_cell BK219.out 3).trans rfl
                    have hfz60_0 := blk_frozen BK219.out 0
                    have hfz60_1 := blk_frozen BK219.out 1
                    have hfz60_2 := blk_frozen BK219.out 2
                    have hfz60_3 := blk_frozen BK219.out 3
                    have hnb61 := NB205_198.out
                    have hnc61 := NB198_205.out
                    have hcz62_0 : w53.cell? ⟨gb205, 0, none⟩ = some (.int .i64 x206000_1) := (blk_cell BK205.out 0).trans rfl
                    have hcz62_1 : w53.cell? ⟨gb205, 1, none⟩ = some (.int .i64 x206001_1) := (blk_cell BK205.out 1).trans rfl
                    have hcz62_2 : w53.cell? ⟨gb205, 2, none⟩ = some (.int .i64 x206002_1) := (blk_cell BK205.out 2).trans rfl
                    have hcz62_3 : w53.cell? ⟨gb205, 3, none⟩ = some (.int .i64 x206003_1) := (blk_cell BK205.out 3).trans rfl
                    have hfz62_0 := blk_frozen BK205.out 0
                    have hfz62_1 := blk_frozen BK205.out 1
                    have hfz62_2 := blk_frozen BK205.out 2
                    have hfz62_3 := blk_frozen BK205.out 3
                    try go_wp2
                    go_ret
                    exact ⟨by first | rfl | (simp [errW_none, errW_some] <;> rfl) | (simp [*, errW_none, errW_some] <;> rfl), by repeat (first | (with_reducible first | exact HB.out | apply below_alloc | apply pw_below_drewN | apply below_drew1 | refine below_set ?_ (IsS89.ge HI198.out) | refine below_set ?_ GE205.out | refine below_set ?_ GE219.out) | exact HB.out)⟩
                · rw [if_neg c17] at H
                  exact absurd H (by simp)
              · rw [if_neg c16] at H
                exact absurd H (by simp)
            · replace c15 := Bool.eq_false_iff.mpr c15
              subst c15
              have H1 : ((monocoquelaw32_same.f x199000_1 x199001_1 x199002_1 x206000_1 x206001_1 x206002_1 x206003_1).bind fun bt206 => (some bt206.1)) = some r := by rw [if_neg (show ¬ (false = true) by decide)] at H; exact H
              clear H
              have H := H1
              clear H1
              replace H := Option.bind_eq_some_iff.mp H
              obtain ⟨⟨t206, t207, t208, t209⟩, A630, H⟩ := H
              replace H : (some t206) = some r := H
              have A63 := Aside0.mk A630
              clear A630
              obtain rfl := Option.some.inj H
              have hnb64 := NB205_198.out
              have hnc64 := NB198_205.out
              have hcz65_0 : wc.cell? ⟨gb205, 0, none⟩ = some (.int .i64 x206000_1) := (blk_cell BK205.out 0).trans rfl
              have hcz65_1 : wc.cell? ⟨gb205, 1, none⟩ = some (.int .i64 x206001_1) := (blk_cell BK205.out 1).trans rfl
              have hcz65_2 : wc.cell? ⟨gb205, 2, none⟩ = some (.int .i64 x206002_1) := (blk_cell BK205.out 2).trans rfl
              have hcz65_3 : wc.cell? ⟨gb205, 3, none⟩ = some (.int .i64 x206003_1) := (blk_cell BK205.out 3).trans rfl
              have hfz65_0 := blk_frozen BK205.out 0
              have hfz65_1 := blk_frozen BK205.out 1
              have hfz65_2 := blk_frozen BK205.out 2
              have hfz65_3 := blk_frozen BK205.out 3
              go_wp2_with (first | ((with_reducible refine gate_callee (f := 38) rfl ?_); refine goesL_ (some 60) rfl rfl Try.func38 (by kernel_rfl) rfl #[.pointer (some ⟨g198, 0, none⟩), .agg #[.int .i64 x206000_1, .int .i64 x206001_1, .int .i64 x206002_1, .int .i64 x206003_1]] rfl (by (try simp only [List.map_toArray, List.map_cons, List.map_nil]); first | done | rfl | (simp only [List.length_drop, List.length_take]; rfl)) ?_; (with_reducible refine (monocoquelaw32_same.calls g198 x199000_1 x199001_1 x199002_1 x206000_1 x206001_1 x206002_1 x206003_1 t206 t207 t208 t209 w _ ?side1 ?side2 A63.out).mono ?_); (case side1 => repeat (first | (with_reducible first | exact HI198.out | apply IsS89.alloc | apply IsS89.drewN | apply IsS89.drew | apply IsS89.set_0 | apply IsS89.set_1 | apply IsS89.set_2 | refine IsS89.far ?_ NB198_205.out _) | exact HI198.out)); (case side2 => repeat (first | (with_reducible first | exact HB.out | apply below_alloc | apply pw_below_drewN | apply below_drew1 | refine below_set ?_ (IsS89.ge HI198.out) | refine below_set ?_ GE205.out) | exact HB.out)); rintro e w66 ⟨rfl, hi, hb, hk⟩; refine ⟨_, rfl, ?_⟩; have n0_ := Aside0.mk (KeepBut.blk hk (g' := gb205) (o := .cells #[.int .i64 x206000_1, .int .i64 x206001_1, .int .i64 x206002_1, .int .i64 x206003_1] 69 (0, 0)) (by (with_reducible repeat (first | refine blk_drewN ?_ _ | refine blk_drew ?_ | refine blk_alloc ?_ _)); exact BK205.out) NB205_198.out (by simp)); have n1_ := Aside0.mk (hb); have n2_ := Aside0.mk (hi); clear BK205; clear HB; clear HI198; have BK205 := n0_; have HB := n1_; have HI198 := n2_; clear n0_ n1_ n2_; (try clear hb); (try clear hb2); (try clear hk); (try clear hi)))
              go_ret
              exact ⟨by first | rfl | (simp [errW_none, errW_some] <;> rfl) | (simp [*, errW_none, errW_some] <;> rfl), by repeat (first | (with_reducible first | exact HB.out | apply below_alloc | apply pw_below_drewN | apply below_drew1 | refine below_set ?_ (IsS89.ge HI198.out) | refine below_set ?_ GE205.out) | exact HB.out)⟩
  · replace c5 := Bool.eq_false_iff.mpr c5
    subst c5
    have H1 : (some false) = some r := by rw [if_neg (show ¬ (false = true) by decide)] at H; exact H
    clear H
    have H := H1
    clear H1
    obtain rfl := Option.some.inj H
    go_enter Try.func11, Try.ntmps11
    go_wp2_with (first | ((with_reducible refine gate_callee (f := 29) rfl ?_); refine goesL_ (some 18) rfl rfl Try.func29 (by kernel_rfl) rfl #[.int .i64 (wrap64 (Int.tmod (IntKind.u64.wrap (a0)) 1001))] rfl (by (try simp only [List.map_toArray, List.map_cons, List.map_nil]); first | done | rfl | (simp only [List.length_drop, List.length_take]; rfl)) ?_; (with_reducible refine (life_New.calls (wrap64 (Int.tmod (IntKind.u64.wrap (a0)) 1001)) t195 t196 t197 t199 w _ ?side1 A3.out).mono ?_); (case side1 => repeat (first | (with_reducible first | exact HB.out | apply below_alloc | apply pw_below_drewN | apply below_drew1) | exact HB.out)); rintro e w67 ⟨g198, rfl, hi, hb, hb2⟩; refine ⟨_, rfl, ?_⟩; have n0_ := Aside0.mk (hb); have n1_ := Aside0.mk (hi); clear HB; have HB := n0_; have HI198 := n1_; clear n0_ n1_; (try clear hb); (try clear hb2); (try clear hk); (try clear hi)) | (go_at_call 30; (with_reducible refine (monocoquelaw32_told.calls k  false _ A4.out).mono ?_); rintro e w68 ⟨rfl, hb⟩; have n0_ := Aside0.mk (IsS89.below (by repeat (first | (with_reducible first | exact HI198.out | apply IsS89.alloc | apply IsS89.drewN | apply IsS89.drew | apply IsS89.set_0 | apply IsS89.set_1 | apply IsS89.set_2) | exact HI198.out)) hb); have n1_ := Aside0.mk (below_step (by repeat (first | (with_reducible first | exact HB.out | apply below_alloc | apply pw_below_drewN | apply below_drew1 | refine below_set ?_ (IsS89.ge HI198.out)) | exact HB.out)) hb); clear HI198; clear HB; have HI198 := n0_; have HB := n1_; clear n0_ n1_; (try clear hb); (try clear hb2); (try clear hk); (try clear hi)))
    go_ret
    exact ⟨by first | rfl | (simp [errW_none, errW_some] <;> rfl) | (simp [*, errW_none, errW_some] <;> rfl), by repeat (first | (with_reducible first | exact HB.out | apply below_alloc | apply pw_below_drewN | apply below_drew1 | refine below_set ?_ (IsS89.ge HI198.out)) | exact HB.out)⟩

/-- THE ONE PURE STATEMENT of monocoquelaw32_LifeActs: yours. -/
def monocoquelaw32_LifeActs.Pure : Prop := ∀ (a0 : Int) (l1 : List Int), (Lit.int .i64 a0).wf = true → l1.length ≤ maxLen → l1.length * 8 ≤ 140737488351232 → (∀ x ∈ l1, (Lit.int .i64 x).wf = true) → ∃ k, monocoquelaw32_LifeActs.f k a0 l1 = some true
theorem monocoquelaw32_LifeActs.walk (P : monocoquelaw32_LifeActs.Pure) (a0 : Int) (a1 : Option Addr) (len1 cap1 : Nat) (z1 : List Int) (w : World) (w0 : (Lit.int .i64 a0).wf = true) (w1 : (a1 = none ∧ len1 = 0 ∧ cap1 = 0 ∧ z1 = []) ∨ ∃ x, a1 = some x ∧ len1 ≤ cap1 ∧ cap1 ≤ maxLen ∧ z1.length = cap1 ∧ (∀ i, i < z1.length → w.cell? (x.add i) = some (.int .i64 (z1.getD i 0))) ∧ ∀ n ∈ z1, (Lit.int .i64 n).wf = true) (y1 : len1 * 8 ≤ 140737488351232) :
    Calls Try.prog 11 #[.int .i64 a0, .slice a1 len1 cap1] w fun e w' => e = .returned (.bool true) ∧ Below w.heap.size w w' := by
  obtain ⟨l1, rfl, hr1, hm1, hw1, hc1⟩ := ReadsInt.ofRowC w1
  obtain ⟨k, h⟩ := P a0 l1 w0 hm1 y1 hw1
  refine (monocoquelaw32_LifeActs.calls k a0 _ _ l1 true w (Kd.C_of_reads (d := (0 : Int)) (h1 := fun _ => rfl) hr1) hc1 h).mono ?_
  rintro e w' ⟨rfl, hd⟩
  exact ⟨rfl, hd⟩

end Go.Proofs.Ytpabbpcklgipnaa.PLifeActs
