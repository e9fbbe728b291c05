/- The law LifeNews walked straight on (a number that may be). Out of this session's turn of the kit's printer, by a program. -/
import Derived.Test.YtpabbpcklgipnaaQLifeNewsx0
import Derived.Test.YtpabbpcklgipnaaQLifeNewsx1
import Derived.Test.YtpabbpcklgipnaaQLifeNewsx2
namespace Go.Proofs.Ytpabbpcklgipnaa.PLifeNews
open Go.RowKit Go.Proofs.YtpabbpcklgipnaaW.PrintWords Go.Proofs.YtpabbpcklgipnaaW.PrintLast Go.Proofs.YtpabbpcklgipnaaW.PrintMore
attribute [local go_sem] max2_int min2_int max_two min_two max_three min_three max_four min_four   -- for this text's walks alone
set_option linter.unusedVariables false
set_option linter.unusedSimpArgs false

attribute [local go_sem high] eqA89
/-! ### life_Life_Clone: function 40 -/
def life_Life_Clone.f (s0_0 : Int) (s0_1 : Int) (s0_2 : Int) : Option (Int × Int × Int) := some (s0_0, s0_1, s0_2)
set_option maxHeartbeats 8000000 in
set_option maxRecDepth 100000 in
theorem life_Life_Clone.calls (g : Nat) (s0_0 : Int) (s0_1 : Int) (s0_2 : Int) (r1 : Int) (r2 : Int) (r3 : Int) (w0 w : World) (hI0 : IsS89 w0 w g s0_0 s0_1 s0_2) (hB : Below w0.heap.size w0 w) (h : life_Life_Clone.f s0_0 s0_1 s0_2 = some (r1, r2, r3)) :
    Calls Try.prog 40 #[.pointer (some ⟨g, 0, none⟩)] w fun e w' => ∃ g_ : Nat, e = .returned (.pointer (some ⟨g_, 0, none⟩)) ∧ IsS89 w0 w' g_ r1 r2 r3 ∧ Below w0.heap.size w0 w' ∧ Below w.heap.size w w' ∧ w.heap.size ≤ g_ := by
  have hu58 := Try.underlying58
  have hu89 := Try.underlying89
  have HI0 := Aside0.mk hI0
  clear hI0
  have HBW := Aside0.mk (Below.refl w.heap.size w)
  have HW0 := Aside0.mk hB.size
  have HB := Aside0.mk hB
  clear hB
  have H : (some (s0_0, s0_1, s0_2)) = some (r1, r2, r3) := h
  clear h
  simp only [Option.some.injEq, Prod.mk.injEq] at H
  obtain ⟨rfl, rfl, rfl⟩ := H
  obtain ⟨HGz2, hgz2⟩ := HI0.out
  have hcz2_0 := cellS89_0 HGz2
  have hcz2_1 := cellS89_1 HGz2
  have hcz2_2 := cellS89_2 HGz2
  have hfz2_0 := blk_frozen HGz2 0
  have hfz2_1 := blk_frozen HGz2 1
  have hfz2_2 := blk_frozen HGz2 2
  clear HGz2 hgz2
  go_enter Try.func40, Try.ntmps40
  go_wp2_with (first | ((with_reducible refine gate_dst (N := 3) rfl ?_); refine box_event ?hg (N := 3) ?hd (cs := #[.int .i64 0, .int .i64 0, .int .i64 0]) (t := 89) ?hr ?_; (case hd => rfl); (case hg => rfl); (case hr => first | (go_simp; done) | (go_simp; rfl)); intro gb145 hg w3 hbox hb; have n0_ := Aside0.mk (IsS89.below (by repeat (first | (with_reducible first | exact HI0.out | apply IsS89.alloc | apply IsS89.drewN | apply IsS89.drew | apply IsS89.set_0 | apply IsS89.set_1 | apply IsS89.set_2) | exact HI0.out)) hb); have n1_ := Aside0.mk (below_step HBW.out hb); have n2_ := Aside0.mk (below_step (by repeat (first | (with_reducible first | exact HB.out | apply below_alloc | apply pw_below_drewN | apply below_drew1 | refine below_set ?_ (IsS89.ge HI0.out)) | exact HB.out)) hb); have n3_ := Aside0.mk (hbox); have n4_ := Aside0.mk ((by rw [hg]; exact (below_size (by repeat (first | (with_reducible first | exact HBW.out | apply below_alloc | apply pw_below_drewN | apply below_drew1 | refine below_set ?_ (IsS89.ge HI0.out)) | exact HBW.out))) : w.heap.size ≤ gb145)); have n5_ := Aside0.mk ((Nat.le_trans HW0.out (by rw [hg]; exact (below_size (by repeat (first | (with_reducible first | exact HBW.out | apply below_alloc | apply pw_below_drewN | apply below_drew1 | refine below_set ?_ (IsS89.ge HI0.out)) | exact HBW.out))) : w.heap.size ≤ gb145) : w0.heap.size ≤ gb145)); have n6_ := Aside0.mk ((by rw [hg]; exact Nat.ne_of_lt (IsS89.lt (show IsS89 w0 _ g s0_0 s0_1 s0_2 from by repeat (first | (with_reducible first | exact HI0.out | apply IsS89.alloc | apply IsS89.drewN | apply IsS89.drew | apply IsS89.set_0 | apply IsS89.set_1 | apply IsS89.set_2) | exact HI0.out))) : g ≠ gb145)); have n7_ := Aside0.mk ((by rw [hg]; exact Nat.ne_of_gt (IsS89.lt (show IsS89 w0 _ g s0_0 s0_1 s0_2 from by repeat (first | (with_reducible first | exact HI0.out | apply IsS89.alloc | apply IsS89.drewN | apply IsS89.drew | apply IsS89.set_0 | apply IsS89.set_1 | apply IsS89.set_2) | exact HI0.out))) : gb145 ≠ g)); clear HI0; clear HBW; clear HB; have HI0 := n0_; have HBW := n1_; have HB := n2_; have BK145 := n3_; have GW145 := n4_; have GE145 := n5_; have NB0_145 := n6_; have NB145_0 := n7_; clear n0_ n1_ n2_ n3_ n4_ n5_ n6_ n7_; clear hb hbox hg; have hnb4 := NB145_0.out; have hnc4 := NB0_145.out; have hcz5_0 : w3.cell? ⟨gb145, 0, none⟩ = some (.int .i64 0) := (blk_cell BK145.out 0).trans rfl; have hcz5_1 : w3.cell? ⟨gb145, 1, none⟩ = some (.int .i64 0) := (blk_cell BK145.out 1).trans rfl; have hcz5_2 : w3.cell? ⟨gb145, 2, none⟩ = some (.int .i64 0) := (blk_cell BK145.out 2).trans rfl; have hfz5_0 := blk_frozen BK145.out 0; have hfz5_1 := blk_frozen BK145.out 1; have hfz5_2 := blk_frozen BK145.out 2))
  go_ret
  exact ⟨_, rfl, (show IsS89 w0 _ gb145 s0_0 s0_1 s0_2 from ⟨by (with_reducible repeat (first | refine blk_drewN ?_ _ | refine blk_drew ?_ | refine blk_alloc ?_ _)); refine blk_put (cs := #[.int .i64 s0_0, .int .i64 s0_1, .int .i64 0]) ?_ 2 _ rfl; (with_reducible repeat (first | refine blk_drewN ?_ _ | refine blk_drew ?_ | refine blk_alloc ?_ _)); refine blk_put (cs := #[.int .i64 s0_0, .int .i64 0, .int .i64 0]) ?_ 1 _ rfl; (with_reducible repeat (first | refine blk_drewN ?_ _ | refine blk_drew ?_ | refine blk_alloc ?_ _)); refine blk_put (cs := #[.int .i64 0, .int .i64 0, .int .i64 0]) ?_ 0 _ rfl; (with_reducible repeat (first | refine blk_drewN ?_ _ | refine blk_drew ?_ | refine blk_alloc ?_ _)); exact BK145.out, GE145.out⟩), by repeat (first | (with_reducible first | exact HB.out | apply below_alloc | apply pw_below_drewN | apply below_drew1 | refine below_set ?_ (IsS89.ge HI0.out) | refine below_set ?_ GE145.out) | exact HB.out), by repeat (first | (with_reducible first | exact HBW.out | apply below_alloc | apply pw_below_drewN | apply below_drew1 | refine below_set ?_ (IsS89.ge HI0.out) | refine below_set ?_ GW145.out) | exact HBW.out), GW145.out⟩

/-! ### life_Life_Clone_nil0: function 100040 -/
def life_Life_Clone_nil0.f  : Option (Unit) := some ()
set_option maxHeartbeats 8000000 in
set_option maxRecDepth 100000 in
theorem life_Life_Clone_nil0.calls  (w : World) (h : life_Life_Clone_nil0.f  = some ()) :
    Calls Try.prog 40 #[.pointer none] w fun e w' => e = .returned (.pointer none) ∧ Below w.heap.size w w' := by
  have hu58 := Try.underlying58
  have hnl58 := fun (p : Option Addr) (W : World) => eql_nil_left W 58 p Try.underlying58
  have hnr58 := fun (p : Option Addr) (W : World) => neq_nil_left W 58 p Try.underlying58
  have hu89 := Try.underlying89
  have HB := Aside0.mk (Below.refl w.heap.size w)
  have H : (some ()) = some () := h
  clear h
  go_enter Try.func40, Try.ntmps40
  go_wp2
  go_ret
  exact ⟨by first | rfl | (simp [errW_none, errW_some] <;> rfl) | (simp [*, errW_none, errW_some] <;> rfl), by repeat (first | (with_reducible first | exact HB.out | apply below_alloc | apply pw_below_drewN | apply below_drew1) | exact HB.out)⟩

/-! ### life_Life_Same: function 41 -/
def life_Life_Same.f (s0_0 : Int) (s0_1 : Int) (s0_2 : Int) (s1_0 : Int) (s1_1 : Int) (s1_2 : Int) : Option (Bool) := some (s0_0 == s1_0 && (s0_1 == s1_1 && (s0_2 == s1_2)))
set_option maxHeartbeats 8000000 in
set_option maxRecDepth 100000 in
theorem life_Life_Same.calls (g : Nat) (s0_0 : Int) (s0_1 : Int) (s0_2 : Int) (h1_ : Nat) (s1_0 : Int) (s1_1 : Int) (s1_2 : Int) (r : Bool) (w0 w : World) (hI0 : IsS89 w0 w g s0_0 s0_1 s0_2) (hI1 : IsS89 w0 w h1_ s1_0 s1_1 s1_2) (hB : Below w0.heap.size w0 w) (h : life_Life_Same.f s0_0 s0_1 s0_2 s1_0 s1_1 s1_2 = some r) :
    Calls Try.prog 41 #[.pointer (some ⟨g, 0, none⟩), .pointer (some ⟨h1_, 0, none⟩)] w fun e w' => e = .returned (.bool r) ∧ Drawn0 w w' := by
  have hu58 := Try.underlying58
  have hu89 := Try.underlying89
  have HI0 := Aside0.mk hI0
  clear hI0
  have HI1 := Aside0.mk hI1
  clear hI1
  have HW0 := Aside0.mk hB.size
  have HB := Aside0.mk hB
  clear hB
  have H : (some (s0_0 == s1_0 && (s0_1 == s1_1 && (s0_2 == s1_2)))) = some r := h
  clear h
  obtain rfl := Option.some.inj H
  obtain ⟨HGz3, hgz3⟩ := HI0.out
  have hcz3_0 := cellS89_0 HGz3
  have hcz3_1 := cellS89_1 HGz3
  have hcz3_2 := cellS89_2 HGz3
  have hfz3_0 := blk_frozen HGz3 0
  have hfz3_1 := blk_frozen HGz3 1
  have hfz3_2 := blk_frozen HGz3 2
  clear HGz3 hgz3
  obtain ⟨HGz4, hgz4⟩ := HI1.out
  have hcz4_0 := cellS89_0 HGz4
  have hcz4_1 := cellS89_1 HGz4
  have hcz4_2 := cellS89_2 HGz4
  have hfz4_0 := blk_frozen HGz4 0
  have hfz4_1 := blk_frozen HGz4 1
  have hfz4_2 := blk_frozen HGz4 2
  clear HGz4 hgz4
  go_enter Try.func41, Try.ntmps41
  go_wp2
  repeat (go_quiet (fail); try go_wp2)
  go_ret
  exact ⟨by first | rfl | (simp; done) | (simp [*]; done), by repeat (first | exact Drawn0.refl _ | apply Drawn0.step)⟩

/-! ### life_Life_Same_nil0: function 100041 -/
def life_Life_Same_nil0.f  (s1_0 : Int) (s1_1 : Int) (s1_2 : Int) : Option (Bool × Int × Int × Int) := some (false, s1_0, s1_1, s1_2)
set_option maxHeartbeats 8000000 in
set_option maxRecDepth 100000 in
theorem life_Life_Same_nil0.calls  (g : Nat) (s1_0 : Int) (s1_1 : Int) (s1_2 : Int) (r1 : Bool) (r2 : Int) (r3 : Int) (r4 : Int) (w0 w : World) (hI : IsS89 w0 w g s1_0 s1_1 s1_2) (hB : Below w0.heap.size w0 w) (h : life_Life_Same_nil0.f s1_0 s1_1 s1_2 = some (r1, r2, r3, r4)) :
    Calls Try.prog 41 #[.pointer none, .pointer (some ⟨g, 0, none⟩)] w fun e w' => e = .returned (.bool r1) ∧ IsS89 w0 w' g r2 r3 r4 ∧ Below w0.heap.size w0 w' ∧ KeepBut w w' g none := by
  have hu58 := Try.underlying58
  have hnl58 := fun (p : Option Addr) (W : World) => eql_nil_left W 58 p Try.underlying58
  have hnr58 := fun (p : Option Addr) (W : World) => neq_nil_left W 58 p Try.underlying58
  have hu89 := Try.underlying89
  have HI1 := Aside0.mk hI
  have HK := Aside0.mk (KeepBut.refl w g none)
  have HL := Aside0.mk hB.size
  clear hI
  have HW0 := Aside0.mk hB.size
  have HB := Aside0.mk hB
  clear hB
  have H : (some (false, s1_0, s1_1, s1_2)) = some (r1, r2, r3, r4) := h
  clear h
  simp only [Option.some.injEq, Prod.mk.injEq] at H
  obtain ⟨rfl, rfl, rfl, rfl⟩ := H
  go_enter Try.func41, Try.ntmps41
  go_wp2
  repeat (go_quiet (fail); try go_wp2)
  go_ret
  exact ⟨by first | rfl | (simp [errW_none, errW_some] <;> rfl) | (simp [*, errW_none, errW_some] <;> rfl), by repeat (first | (with_reducible first | exact HI1.out | apply IsS89.alloc | apply IsS89.drewN | apply IsS89.drew | apply IsS89.set_0 | apply IsS89.set_1 | apply IsS89.set_2) | exact HI1.out), by repeat (first | (with_reducible first | exact HB.out | apply below_alloc | apply pw_below_drewN | apply below_drew1 | refine below_set ?_ (IsS89.ge HI1.out)) | exact HB.out), by repeat (first | (with_reducible first | exact HK.out | apply KeepBut.set_ | apply keep_drewN | apply keep_drew | apply keep_alloc) | exact HK.out)⟩

/-! ### life_Life_Same_nil1: function 200041 -/
def life_Life_Same_nil1.f (s0_0 : Int) (s0_1 : Int) (s0_2 : Int)  : Option (Bool × Int × Int × Int) := some (false, s0_0, s0_1, s0_2)
set_option maxHeartbeats 8000000 in
set_option maxRecDepth 100000 in
theorem life_Life_Same_nil1.calls (g : Nat) (s0_0 : Int) (s0_1 : Int) (s0_2 : Int)  (r1 : Bool) (r2 : Int) (r3 : Int) (r4 : Int) (w0 w : World) (hI : IsS89 w0 w g s0_0 s0_1 s0_2) (hB : Below w0.heap.size w0 w) (h : life_Life_Same_nil1.f s0_0 s0_1 s0_2 = some (r1, r2, r3, r4)) :
    Calls Try.prog 41 #[.pointer (some ⟨g, 0, none⟩), .pointer none] w fun e w' => e = .returned (.bool r1) ∧ IsS89 w0 w' g r2 r3 r4 ∧ Below w0.heap.size w0 w' ∧ KeepBut w w' g none := by
  have hu58 := Try.underlying58
  have hnl58 := fun (p : Option Addr) (W : World) => eql_nil_left W 58 p Try.underlying58
  have hnr58 := fun (p : Option Addr) (W : World) => neq_nil_left W 58 p Try.underlying58
  have hu89 := Try.underlying89
  have HI0 := Aside0.mk hI
  have HK := Aside0.mk (KeepBut.refl w g none)
  have HL := Aside0.mk hB.size
  clear hI
  have HW0 := Aside0.mk hB.size
  have HB := Aside0.mk hB
  clear hB
  have H : (some (false, s0_0, s0_1, s0_2)) = some (r1, r2, r3, r4) := h
  clear h
  simp only [Option.some.injEq, Prod.mk.injEq] at H
  obtain ⟨rfl, rfl, rfl, rfl⟩ := H
  go_enter Try.func41, Try.ntmps41
  go_wp2
  repeat (go_quiet (fail); try go_wp2)
  go_ret
  exact ⟨by first | rfl | (simp [errW_none, errW_some] <;> rfl) | (simp [*, errW_none, errW_some] <;> rfl), by repeat (first | (with_reducible first | exact HI0.out | apply IsS89.alloc | apply IsS89.drewN | apply IsS89.drew | apply IsS89.set_0 | apply IsS89.set_1 | apply IsS89.set_2) | exact HI0.out), by repeat (first | (with_reducible first | exact HB.out | apply below_alloc | apply pw_below_drewN | apply below_drew1 | refine below_set ?_ (IsS89.ge HI0.out)) | exact HB.out), by repeat (first | (with_reducible first | exact HK.out | apply KeepBut.set_ | apply keep_drewN | apply keep_drew | apply keep_alloc) | exact HK.out)⟩

/-! ### life_Life_Same_nil01: function 300041 -/
def life_Life_Same_nil01.f   : Option (Bool) := some true
set_option maxHeartbeats 8000000 in
set_option maxRecDepth 100000 in
theorem life_Life_Same_nil01.calls   (r : Bool) (w : World) (h : life_Life_Same_nil01.f  = some r) :
    Calls Try.prog 41 #[.pointer none, .pointer none] w fun e w' => e = .returned (.bool r) ∧ Drawn0 w w' := by
  have hu58 := Try.underlying58
  have hnl58 := fun (p : Option Addr) (W : World) => eql_nil_left W 58 p Try.underlying58
  have hnr58 := fun (p : Option Addr) (W : World) => neq_nil_left W 58 p Try.underlying58
  have hu89 := Try.underlying89
  have H : (some true) = some r := h
  clear h
  obtain rfl := Option.some.inj H
  go_enter Try.func41, Try.ntmps41
  go_wp2
  repeat (go_quiet (fail); try go_wp2)
  go_ret
  exact ⟨by first | rfl | (simp; done) | (simp [*]; done), by repeat (first | exact Drawn0.refl _ | apply Drawn0.step)⟩

set_option maxHeartbeats 8000000 in
set_option maxRecDepth 100000 in
theorem news_walk (k : Nat) (hk : monocoquelaw32_told.f k = some true) (a0 : Int) (h0 : 0 ≤ a0) (h1 : a0 ≤ 1000) (w : World) :
    Calls Try.prog 13 #[.int .i64 a0] w fun e w' => e = .returned (.bool true) ∧ Below w.heap.size w w' := by
  have hu58 := Try.underlying58
  have HB := Aside0.mk (Below.refl w.heap.size w)
  have c0 : decide (0 ≤ a0) = true := decide_eq_true h0
  have c1 : decide (a0 ≤ 1000) = true := decide_eq_true h1
  have A2 : Aside0 (life_New.f a0 = some (1, a0, 0, 0)) := ⟨by unfold life_New.f; rw [if_neg (by omega), if_neg (by omega)]⟩
  have A6 : Aside0 (life_Life_Reset_nil0.f = some ()) := ⟨rfl⟩
  have A7 : Aside0 (life_Life_Do_nil0.f 5 = some (0, false, 1)) := ⟨rfl⟩
  have A8 : Aside0 (monocoquelaw32_told.f k = some true) := ⟨hk⟩
  have A71 : Aside0 (life_Life_Run_nil0.f = some 1) := ⟨rfl⟩
  have A73 : Aside0 (life_Life_Mode_nil0.f = some 0) := ⟨rfl⟩
  have A75 : Aside0 (life_Life_Starts_nil0.f = some 0) := ⟨rfl⟩
  have A77 : Aside0 (life_Life_Left_nil0.f = some 0) := ⟨rfl⟩
  have A79 : Aside0 (life_Life_Clone_nil0.f = some ()) := ⟨rfl⟩
  have A80 : Aside0 (life_Life_Same_nil01.f = some true) := ⟨rfl⟩
  have A82 : Aside0 (life_Life_Same_nil0.f 1 a0 0 = some (false, 1, a0, 0)) := ⟨rfl⟩
  go_enter Try.func13, Try.ntmps13
  go_wp2_with (first | ((with_reducible refine gate_callee (f := 29) rfl ?_); refine goesL_ (some 12) rfl rfl Try.func29 (by kernel_rfl) rfl #[.int .i64 a0] rfl (by (try simp only [List.map_toArray, List.map_cons, List.map_nil]); first | done | rfl | (simp only [List.length_drop, List.length_take]; rfl)) ?_; (with_reducible refine (life_New.calls a0 1 a0 0 0 w _ ?side1 A2.out).mono ?_); (case side1 => repeat (first | (with_reducible first | exact HB.out | apply below_alloc | apply pw_below_drewN | apply below_drew1) | exact HB.out)); rintro e w4 ⟨g149, rfl, hi, hb, hb2, hge⟩; refine ⟨_, rfl, ?_⟩; have n0_ := Aside0.mk (hb); have n1_ := Aside0.mk (hi); clear HB; have HB := n0_; have HI149 := n1_; clear n0_ n1_; (try clear hb); (try clear hb2); (try clear hge); (try clear hk); (try clear hi)) | ((with_reducible refine gate_callee (f := 39) rfl ?_); refine goesL_ (some 22) rfl rfl Try.func39 (by kernel_rfl) rfl #[.pointer none] rfl (by (try simp only [List.map_toArray, List.map_cons, List.map_nil]); first | done | rfl | (simp only [List.length_drop, List.length_take]; rfl)) ?_; (with_reducible refine (life_Life_Reset_nil0.calls   _ A6.out).mono ?_); rintro e w83 ⟨rfl, hb⟩; refine ⟨_, rfl, ?_⟩; have n0_ := Aside0.mk (IsS89.below (by repeat (first | (with_reducible first | exact HI149.out | apply IsS89.alloc | apply IsS89.drewN | apply IsS89.drew | apply IsS89.set_0 | apply IsS89.set_1 | apply IsS89.set_2) | exact HI149.out)) hb); have n1_ := Aside0.mk (below_step (by repeat (first | (with_reducible first | exact HB.out | apply below_alloc | apply pw_below_drewN | apply below_drew1 | refine below_set ?_ (IsS89.ge HI149.out)) | exact HB.out)) hb); clear HI149; clear HB; have HI149 := n0_; have HB := n1_; clear n0_ n1_; (try clear hb); (try clear hb2); (try clear hge); (try clear hk); (try clear hi)) | ((with_reducible refine gate_callee (f := 32) rfl ?_); refine goesL_ (some 25) rfl rfl Try.func32 (by kernel_rfl) rfl #[.pointer none, .int .i64 5] rfl (by (try simp only [List.map_toArray, List.map_cons, List.map_nil]); first | done | rfl | (simp only [List.length_drop, List.length_take]; rfl)) ?_; (with_reducible refine (life_Life_Do_nil0.calls  5 0 false 1 _ A7.out).mono ?_); rintro e w84 ⟨rfl, hb⟩; refine ⟨_, rfl, ?_⟩; have n0_ := Aside0.mk (IsS89.below (by repeat (first | (with_reducible first | exact HI149.out | apply IsS89.alloc | apply IsS89.drewN | apply IsS89.drew | apply IsS89.set_0 | apply IsS89.set_1 | apply IsS89.set_2) | exact HI149.out)) hb); have n1_ := Aside0.mk (below_step (by repeat (first | (with_reducible first | exact HB.out | apply below_alloc | apply pw_below_drewN | apply below_drew1 | refine below_set ?_ (IsS89.ge HI149.out)) | exact HB.out)) hb); clear HI149; clear HB; have HI149 := n0_; have HB := n1_; clear n0_ n1_; (try clear hb); (try clear hb2); (try clear hge); (try clear hk); (try clear hi)) | (go_at_call 30; (with_reducible refine (monocoquelaw32_told.calls k  true _ A8.out).mono ?_); rintro e w85 ⟨rfl, hb⟩; have n0_ := Aside0.mk (IsS89.below (by repeat (first | (with_reducible first | exact HI149.out | apply IsS89.alloc | apply IsS89.drewN | apply IsS89.drew | apply IsS89.set_0 | apply IsS89.set_1 | apply IsS89.set_2) | exact HI149.out)) hb); have n1_ := Aside0.mk (below_step (by repeat (first | (with_reducible first | exact HB.out | apply below_alloc | apply pw_below_drewN | apply below_drew1 | refine below_set ?_ (IsS89.ge HI149.out)) | exact HB.out)) hb); clear HI149; clear HB; have HI149 := n0_; have HB := n1_; clear n0_ n1_; (try clear hb); (try clear hb2); (try clear hge); (try clear hk); (try clear hi)) | (go_at_call 31; (with_reducible refine (life_Life_Run_nil0.calls  1 _ A71.out).mono ?_); rintro e w86 ⟨rfl, hb⟩; have n0_ := Aside0.mk (IsS89.below (by repeat (first | (with_reducible first | exact HI149.out | apply IsS89.alloc | apply IsS89.drewN | apply IsS89.drew | apply IsS89.set_0 | apply IsS89.set_1 | apply IsS89.set_2) | exact HI149.out)) hb); have n1_ := Aside0.mk (below_step (by repeat (first | (with_reducible first | exact HB.out | apply below_alloc | apply pw_below_drewN | apply below_drew1 | refine below_set ?_ (IsS89.ge HI149.out)) | exact HB.out)) hb); clear HI149; clear HB; have HI149 := n0_; have HB := n1_; clear n0_ n1_; (try clear hb); (try clear hb2); (try clear hge); (try clear hk); (try clear hi)) | (go_at_call 33; (with_reducible refine (life_Life_Mode_nil0.calls  0 _ A73.out).mono ?_); rintro e w' ⟨rfl, ⟨nd, rfl⟩⟩) | (go_at_call 34; (with_reducible refine (life_Life_Starts_nil0.calls  0 _ A75.out).mono ?_); rintro e w' ⟨rfl, ⟨nd, rfl⟩⟩) | (go_at_call 35; (with_reducible refine (life_Life_Left_nil0.calls  0 _ A77.out).mono ?_); rintro e w' ⟨rfl, ⟨nd, rfl⟩⟩) | (go_at_call 40; (with_reducible refine (life_Life_Clone_nil0.calls   _ A79.out).mono ?_); rintro e w87 ⟨rfl, hb⟩; have n0_ := Aside0.mk (IsS89.below (by repeat (first | (with_reducible first | exact HI149.out | apply IsS89.alloc | apply IsS89.drewN | apply IsS89.drew | apply IsS89.set_0 | apply IsS89.set_1 | apply IsS89.set_2) | exact HI149.out)) hb); have n1_ := Aside0.mk (below_step (by repeat (first | (with_reducible first | exact HB.out | apply below_alloc | apply pw_below_drewN | apply below_drew1 | refine below_set ?_ (IsS89.ge HI149.out)) | exact HB.out)) hb); clear HI149; clear HB; have HI149 := n0_; have HB := n1_; clear n0_ n1_; (try clear hb); (try clear hb2); (try clear hge); (try clear hk); (try clear hi)) | (go_at_call 41; (with_reducible refine (life_Life_Same_nil01.calls   true _ A80.out).mono ?_); rintro e w' ⟨rfl, ⟨nd, rfl⟩⟩) | (go_at_call 41; (with_reducible refine (life_Life_Same_nil0.calls  g149 1 a0 0 false 1 a0 0 w _ ?side1 ?side2 A82.out).mono ?_); (case side1 => repeat (first | (with_reducible first | exact HI149.out | apply IsS89.alloc | apply IsS89.drewN | apply IsS89.drew | apply IsS89.set_0 | apply IsS89.set_1 | apply IsS89.set_2) | exact HI149.out)); (case side2 => repeat (first | (with_reducible first | exact HB.out | apply below_alloc | apply pw_below_drewN | apply below_drew1 | refine below_set ?_ (IsS89.ge HI149.out)) | exact HB.out)); rintro e w88 ⟨rfl, hi, hb, hk⟩; have n0_ := Aside0.mk (hb); have n1_ := Aside0.mk (hi); clear HB; clear HI149; have HB := n0_; have HI149 := n1_; clear n0_ n1_; (try clear hb); (try clear hb2); (try clear hge); (try clear hk); (try clear hi)))
  go_ret
  exact ⟨by first | rfl | (simp; done), by repeat (first | (with_reducible first | exact HB.out | apply below_alloc | apply pw_below_drewN | apply below_drew1) | exact HB.out)⟩

end Go.Proofs.Ytpabbpcklgipnaa.PLifeNews
